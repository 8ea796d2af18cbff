import Derived.Test.YtifjnoabmbckpaaGreatDoorEv9
/- The operations with effects, all together. -/
namespace Go.Ev
open Go Go.Den
section
variable {P : Program} {G : Nat} {ρ : Rho} {R : T LV} {s : St} {H : T Blk} {nx : Nat} {h : PHeap} {call : CallE} {K : LV → T Blk → Nat → Bool} {K' : SV → St → PHeap → Prop}

theorem VR.unit : VR ρ (.tup []) undef := .tup rfl fun i v v' h => by simp at h

theorem setE_sound {k v : LV} : ∀ {es : List (LV × LV × Nat)} {i : Nat} {K : List (LV × LV × Nat) → Bool}, setE k v es i K = true → K (es.modify i fun e => (k, v, e.2.2)) = true
  | [], 0, K, he => by simp [setE] at he
  | [], i + 1, K, he => by simp [setE] at he
  | (a, b, c) :: es, 0, K, he => by simpa [setE, List.modify] using he
  | e :: es, i + 1, K, he => by
    have he' : setE k v es i (fun es => K (e :: es)) = true := by obtain ⟨a, b, c⟩ := e; exact he
    have := setE_sound he'
    simpa using this

theorem pushE_sound {e : LV × LV × Nat} : ∀ {es : List (LV × LV × Nat)} {K : List (LV × LV × Nat) → Bool}, pushE e es K = true → K (es ++ [e]) = true
  | [], K, he => he
  | x :: es, K, he => by have := pushE_sound (es := es) he; simpa using this

theorem ER.modify {es : List (LV × LV × Nat)} {es' : List MapEntry} {i : Nat} {k v : LV} {vk vv : Value} (he : ER ρ es es') (hk : VR ρ k vk) (hv : VR ρ v vv) :
    ER ρ (es.modify i fun e => (k, v, e.2.2)) (es'.modify i fun e => { e with key := vk, val := vv }) := by
  refine ⟨by simp [he.1], fun j e e' h1 h2 => ?_⟩
  rw [List.getElem?_modify] at h1 h2
  by_cases hij : i = j
  · subst hij
    simp only [if_pos] at h1 h2
    cases ha : es[i]? with
    | none => rw [ha] at h1; cases h1
    | some a =>
      cases hb : es'[i]? with
      | none => rw [hb] at h2; cases h2
      | some b =>
        rw [ha] at h1; rw [hb] at h2
        cases h1; cases h2
        exact ⟨hk, hv, (he.2 i a b ha hb).2.2⟩
  · simp only [if_neg hij] at h1 h2
    cases ha : es[j]? with
    | none => rw [ha] at h1; cases h1
    | some a =>
      cases hb : es'[j]? with
      | none => rw [hb] at h2; cases h2
      | some b =>
        rw [ha] at h1; rw [hb] at h2
        cases h1; cases h2
        exact he.2 j a b ha hb

theorem ER.push {es : List (LV × LV × Nat)} {es' : List MapEntry} {k v : LV} {vk vv : Value} {c : Nat} (he : ER ρ es es') (hk : VR ρ k vk) (hv : VR ρ v vv) :
    ER ρ (es ++ [(k, v, c)]) (es' ++ [{ key := vk, val := vv, born := c }]) := by
  refine ⟨by simp [he.1], fun j e e' h1 h2 => ?_⟩
  by_cases hj : j < es.length
  · rw [List.getElem?_append_left hj] at h1
    rw [List.getElem?_append_left (he.1 ▸ hj)] at h2
    exact he.2 j e e' h1 h2
  · rw [List.getElem?_append_right (by omega)] at h1
    rw [List.getElem?_append_right (by rw [← he.1]; omega), ← he.1] at h2
    cases hd : j - es.length with
    | zero => rw [hd] at h1 h2; simp at h1 h2; subst h1; subst h2; exact ⟨hk, hv, rfl⟩
    | succ m => rw [hd] at h1; simp at h1

theorem lookup_sound (hr : RR ρ R s) (hh : HR G ρ H nx h) {t m k ty : _} {ok : Bool} {xop : XOp} (hc : cRaw P G (.lookup t m k ok) = some (.x xop)) (he : evX call xop R H nx K = true) (hk : Cont G ρ nx s K K') :
    denOp P (.raw (.lookup t m k ok) ty) s h K' := by
  simp only [cRaw] at hc
  split at hc
  · rename_i key elem hu
    split at hc
    · rename_i ks z em ek hks hz hm hkk
      cases hc
      simp only [evX] at he
      split at he
      · rename_i lk hlk
        split at he
        · rename_i b hlm
          split at he
          · rename_i es clock hH
            obtain ⟨vk, hvk, rk⟩ := cX_ev hr hh.glob hkk hlk
            obtain ⟨vm, hvm, rm⟩ := cX_ev hr hh.glob hm hlm
            cases rm with
            | map hb =>
            rename_i rb κ
            obtain ⟨o, ho, es', rfl, hER⟩ := hh.blk b _ rb κ hH hb
            have hall : allVal s (Op.lookup t m k ok).operands.toList = true := by simp [Op.operands, allVal, hvk, hvm]
            have em : s.vv m = .map (some rb) := by simp [St.vv, hvm]
            have ek : s.vv k = vk := by simp [St.vv, hvk]
            obtain ⟨d, hud, hd⟩ := keyCls_sound hks
            cases hzT : zeroT P elem with
            | none => rw [hzT] at hz; cases hz
            | some zv =>
            rw [hzT] at hz
            have hzr : VR ρ z zv := toLV_VR hz
            simp only [denOp, hall]
            split at he
            · rename_i i lv hf
              rcases findE_sound hd rk hER hf with ⟨e1, _⟩ | ⟨j, lv2, v2, e1, e2, e3, h1, h2, _⟩
              · cases e1
              · cases e3
                have hfn : ∀ d', P.underlying key = some d' → Instr.findNow d' vk es' 0 = some (some (0 + j, v2)) := fun d' hd' => by rw [hud] at hd'; cases hd'; exact h2
                refine raw_lookup (ok := ok) hu hks hzT em ek ho hfn ?_
                cases ok
                · exact hk _ _ H nx ρ h (Nat.le_refl _) (Agr.refl _ _) hh h1 he
                · exact hk _ _ H nx ρ h (Nat.le_refl _) (Agr.refl _ _) hh (.tup (LR.cons h1 (LR.cons (.bool true) LR.nil)).1 (LR.cons h1 (LR.cons (.bool true) LR.nil)).2) he
            · rename_i hf
              rcases findE_sound hd rk hER hf with ⟨_, h2⟩ | ⟨j, lv2, v2, e1, e2, e3, _⟩
              · have hfn : ∀ d', P.underlying key = some d' → Instr.findNow d' vk es' 0 = some none := fun d' hd' => by rw [hud] at hd'; cases hd'; exact h2
                refine raw_lookup (ok := ok) hu hks hzT em ek ho hfn ?_
                cases ok
                · exact hk _ _ H nx ρ h (Nat.le_refl _) (Agr.refl _ _) hh hzr he
                · exact hk _ _ H nx ρ h (Nat.le_refl _) (Agr.refl _ _) hh (.tup (LR.cons hzr (LR.cons (.bool false) LR.nil)).1 (LR.cons hzr (LR.cons (.bool false) LR.nil)).2) he
              · cases e3
            · cases he
          · cases he
        · cases he
      · cases he
    · cases hc
  · cases hc

theorem upd_sound (hr : RR ρ R s) (hh : HR G ρ H nx h) {t : TypeId} {m k v : Operand} {op : Op} {ty : TypeId} {xop : XOp} (hop : op = .mapUpdate t m k v ∨ op = .insert t m k v) (hc : cUpd P G t m k v = some (.x xop)) (he : evX call xop R H nx K = true) (hk : Cont G ρ nx s K K') :
    denOp P (.raw op ty) s h K' := by
  unfold cUpd at hc
  split at hc
  · rename_i key elem hu
    split at hc
    · rename_i ks em ek ev hks hm hkk hv
      cases hc
      simp only [evX] at he
      split at he
      · rename_i lk hlk
        split at he
        · rename_i lv hlv
          split at he
          · rename_i b hlm
            split at he
            · rename_i es clock hH
              obtain ⟨vk, hvk, rk⟩ := cX_ev hr hh.glob hkk hlk
              obtain ⟨vv, hvv, rv⟩ := cX_ev hr hh.glob hv hlv
              obtain ⟨vm, hvm, rm⟩ := cX_ev hr hh.glob hm hlm
              cases rm with
              | map hb =>
              rename_i rb κ
              obtain ⟨o, ho, es', rfl, hER⟩ := hh.blk b _ rb κ hH hb
              have hall : allVal s op.operands.toList = true := by rcases hop with rfl | rfl <;> simp [Op.operands, allVal, hvk, hvm, hvv]
              have em : s.vv m = .map (some rb) := by simp [St.vv, hvm]
              have ek : s.vv k = vk := by simp [St.vv, hvk]
              have evv : s.vv v = vv := by simp [St.vv, hvv]
              obtain ⟨d, hud, hd⟩ := keyCls_sound hks
              simp only [denOp, hall]
              intro w hs
              have hw := hs _ _ ho
              have fin : ∀ (res : Option (Nat × Value)) (ob : Obj), (∀ d', P.underlying key = some d' → Instr.findNow d' vk es' 0 = some res) → (∀ i v, res = some (i, v) → ∃ e, es'[i]? = some e ∧ Instr.sameBits 10000 e.key vk = true) →
                  ob = (match res with
                    | some (i, _) => .map ⟨es'.modify i fun e => { e with key := vk, val := vv }⟩ clock
                    | none => .map ⟨es' ++ [{ key := vk, val := vv, born := clock }]⟩ (clock + 1)) → K' (.val undef) s (h.put rb ob) →
                  ∃ n v w' h', (execOp s.vv (mkO op ty)).run P w = .ok n w' ∧ ((n = .value v) ∨ (n = .skip ∧ v = undef)) ∧ K' (.val v) s h' ∧ Den.Sub w' h' ∧ Keep w h w' h' := by
                intro res ob h1 h2 h3 h4
                have hrun := upd_run (vv := vv) hu hks hw h1 h2
                obtain ⟨k1, k2⟩ := setObj_keep (o2 := ob) hs ho
                refine ⟨.skip, undef, _, _, ?_, .inr ⟨rfl, rfl⟩, h4, k1, k2⟩
                rw [h3]
                rcases hop with rfl | rfl <;> simp [execOp, mkO, em, ek, evv, hrun] <;> cases res <;> rfl
              split at he
              · rename_i i lv2 hf
                rcases findE_sound hd rk hER hf with ⟨e1, _⟩ | ⟨j, lv3, v2, e1, e2, e3, h1, h2, h3, h4, h5⟩
                · cases e1
                · cases e3
                  rw [Nat.zero_add] at *
                  have hset := setE_sound he
                  obtain ⟨H', h6, h7⟩ := T.putK_sound hset
                  refine fin (some (j, v2)) _ (fun d' hd' => by rw [hud] at hd'; cases hd'; exact h2) (fun i v hi => ?_) rfl ?_
                  · cases hi
                    exact ⟨e2, h4, sameBits_plain rk (hER.2 j e1 e2 h3 h4).1 h5⟩
                  · have hHR := hh.set (B2 := .map (es.modify j fun e => (lk, lv, e.2.2)) clock) hH hb ⟨_, rfl, hER.modify rk rv⟩ h7
                    exact hk _ _ H' nx ρ _ (Nat.le_refl _) (Agr.refl _ _) hHR VR.unit h6
              · rename_i hf
                rcases findE_sound hd rk hER hf with ⟨_, h2⟩ | ⟨j, lv3, v2, e1, e2, e3, _⟩
                · have hpush := pushE_sound he
                  obtain ⟨H', h6, h7⟩ := T.putK_sound hpush
                  refine fin none _ (fun d' hd' => by rw [hud] at hd'; cases hd'; exact h2) (fun i v hi => by cases hi) rfl ?_
                  have hHR := hh.set (B2 := .map (es ++ [(lk, lv, clock)]) (Nat.succ clock)) hH hb ⟨_, rfl, hER.push rk rv⟩ h7
                  exact hk _ _ H' nx ρ _ (Nat.le_refl _) (Agr.refl _ _) hHR VR.unit h6
                · cases e3
              · cases he
            · cases he
          · cases he
        · cases he
      · cases he
    · cases hc
  · cases hc

theorem evX_sound (hcall : CallOk P G call) (hr : RR ρ R s) (hh : HR G ρ H nx h) {sop : SOp} {xop : XOp} (hc : cOp P G sop = some (.x xop)) (he : evX call xop R H nx K = true) (hk : Cont G ρ nx s K K') : denOp P sop s h K' := by
  have alloc : ∀ {b : Nat} {l : List LV} {l' : List Value} {t k : Nat} {H' : T Blk}, h b = none → LR ρ l l' → (∀ j, H'.get j = if j = nx then some (.cells t k (lenL l) (T.ofL l)) else H.get j) → HR G (ext ρ nx b 0) H' (nx + 1) (h.put b (.cells ⟨l'⟩ t (0, 0))) := by
    intro b l l' t k H' hb hl hH
    have hB := BR.ofL (t := t) (k := k) (rest := []) (κ := 0) (hl.mono (hh.le (ext_agr ρ nx b 0))) (by simp)
    rw [List.append_nil, ← lenL_eq] at hB
    exact hh.new (hh.noB hb) hB hH
  have eptr : ∀ {b : Nat}, ext ρ nx b 0 nx = some (b, 0) := by intro b; simp only [ext, if_pos]
  cases sop <;> simp only [cOp] at hc
  case mv x => obtain ⟨ex, hx, h1⟩ := map_some hc; cases h1
  case pick c a b => split at hc <;> cases hc
  case alloc t z esc =>
    split at hc
    · rename_i l hl
      cases hc
      simp only [evX] at he
      obtain ⟨H', h1, h2⟩ := newK_sound he
      simp only [denOp]
      intro b hb
      rw [← lenL_eq] at h2
      exact hk _ _ H' (nx + 1) _ _ (Nat.le_succ _) (ext_agr ρ nx b 0) (alloc hb (lvs0_LR hl) h2) (.ptr eptr) h1
    · cases hc
  case box t x esc =>
    split at hc
    · rename_i ex hx
      cases hc
      simp only [evX] at he
      split at he
      · rename_i lv hlv
        obtain ⟨v, hv, hvr⟩ := cX_ev hr hh.glob hx hlv
        rw [T.ofLK_eq] at he
        obtain ⟨H', h1, h2⟩ := newK_sound he
        simp only [denOp, hv]
        intro b hb
        exact hk _ _ H' (nx + 1) _ _ (Nat.le_succ _) (ext_agr ρ nx b 0) (alloc hb (lvCells_LR hvr) h2) (.ptr eptr) h1
      · cases he
    · cases hc
  case load agg n x => obtain ⟨ex, hx, h1⟩ := map_some hc; cases h1
  case store n x v =>
    split at hc
    · rename_i ex ev hx hv
      cases hc
      simp only [evX] at he
      split at he
      · rename_i lv hlv
        split at he
        · rename_i hlen
          rw [Bool.and_eq_true] at hlen
          have hlen1 := Nat.eq_of_beq_eq_true hlen.1
          rw [lenL_eq] at hlen1
          split at he
          · rename_i b o hlx
            split at he
            · rename_i t k m c hH
              split at he
              · rename_i hle
                have hle : o + n ≤ m := Nat.le_of_ble_eq_true hle
                obtain ⟨vx, hvx, rx⟩ := cX_ev hr hh.glob hx hlx
                obtain ⟨vv, hvv, rv⟩ := cX_ev hr hh.glob hv hlv
                have hcl := lvCells_LR rv
                cases rx with
                | ptr hb =>
                rename_i rb κ
                obtain ⟨c1, h1, h2⟩ := writeK_sound he
                obtain ⟨H', h3, h4⟩ := T.putK_sound h1
                obtain ⟨ob, ho, hB⟩ := hh.blk b _ rb κ hH hb
                obtain ⟨cs, rfl, h5, h6⟩ := BR.write hB hcl (by omega) h2
                simp only [denOp, hvv, hvx]
                have hcond : (Nat.beq (cellsL vv).length n && allOne (cellsL vv)) = true := by
                  rw [Bool.and_eq_true]
                  refine ⟨?_, allOneV_one hcl hlen.2⟩
                  rw [← hcl.1, hlen1]; exact beqSelf n
                rw [hcond]
                refine ⟨cs, t, (0, 0), ho, ⟨by omega, Nat.zero_le _⟩, ?_⟩
                exact hk _ _ H' nx ρ _ (Nat.le_refl _) (Agr.refl _ _) (hh.set hH hb h6 h4) VR.unit h3
              · cases he
            · cases he
          · cases he
        · cases he
      · cases he
    · cases hc
  case nilCheck x => obtain ⟨ex, hx, h1⟩ := map_some hc; cases h1
  case fieldAddr off x => obtain ⟨ex, hx, h1⟩ := map_some hc; cases h1
  case indexAddr size x i => split at hc <;> cases hc
  case indexArr len size x i => split at hc <;> cases hc
  case len str x => obtain ⟨ex, hx, h1⟩ := map_some hc; cases h1
  case call f args =>
    split at hc
    · rename_i ef eargs hf hargs
      cases hc
      simp only [evX] at he
      split at he
      · rename_i g a c hlf
        obtain ⟨vf, hvf, rf⟩ := cX_ev hr hh.glob hf hlf
        cases rf with
        | fn k1 k2 k3 k4 =>
        rename_i a' c'
        obtain ⟨lvs, h1, h2, h3⟩ := cXs_allVal hr hh.glob hargs he
        rw [appL_eq, appL_eq] at h1
        simp only [denOp, hvf, h2]
        have hlr : LR ρ (a ++ (lvs ++ c)) (a' ++ vals s args ++ c') := by
          rw [List.append_assoc]
          exact LR.append ⟨k1, k3⟩ (LR.append h3 ⟨k2, k4⟩)
        exact hcall g _ _ H nx h ρ K _ hlr hh h1 fun lv v H' nx' ρ' h' b1 b2 b3 b4 b5 => hk lv v H' nx' ρ' h' b1 b2 b3 b4 b5
      · cases he
    · cases hc
  case pure op ty =>
    exfalso; revert hc; unfold cPure cBin nilOp
    repeat' split
    all_goals intro hc; first | (cases hc; done) | (obtain ⟨ex, hx, h1⟩ := map_some hc; cases h1)
  case puref op ty =>
    exfalso; revert hc; unfold cPuref cBin nilOp
    repeat' split
    all_goals intro hc; cases hc
  case raw op ty =>
    cases op <;> simp only [cRaw] at hc
    case call c =>
      split at hc
      · exact append_sound hr hh hc he hk
      · cases hc
    case makeMap t r =>
      cases r with
      | some r => cases hc
      | none =>
        cases hc
        simp only [evX] at he
        obtain ⟨H', h1, h2⟩ := newK_sound he
        have hall : allVal s (Op.makeMap t none).operands.toList = true := rfl
        simp only [denOp, hall]
        refine raw_makeMap fun b hb => ?_
        have hHR := hh.new (κ := 0) (hh.noB hb) (B := .map [] 0) (o := .map ⟨[]⟩ 0) ⟨[], rfl, rfl, fun i e e' h1 => by simp at h1⟩ h2
        exact hk _ _ H' (nx + 1) _ _ (Nat.le_succ _) (ext_agr ρ nx b 0) hHR (.map eptr) h1
    case lookup t m k ok => exact lookup_sound hr hh hc he hk
    case mapUpdate t m k v => exact upd_sound hr hh (.inl rfl) hc he hk
    case insert t m k v => exact upd_sound hr hh (.inr rfl) hc he hk
    all_goals cases hc
  case conv k x => obtain ⟨ex, hx, h1⟩ := map_some hc; cases h1
  case build z parts => split at hc <;> cases hc
  case buildSlice e len z parts =>
    split at hc
    · rename_i k z' ps hk' hz hps
      cases hc
      simp only [evX] at he
      obtain ⟨l, l', h1, h2, h3⟩ := fillK_sound hr hh.glob hps (lvs0_LR hz) he
      rw [T.ofLK_eq] at h1
      obtain ⟨H', h4, h5⟩ := newK_sound h1
      simp only [denOp]
      refine h3 _ fun b hb => ?_
      exact hk _ _ H' (nx + 1) _ _ (Nat.le_succ _) (ext_agr ρ nx b 0) (alloc hb h2 h5) (VR.slice (g := false) eptr) h4
    · cases hc
  case field agg off n x => obtain ⟨ex, hx, h1⟩ := map_some hc; cases h1
  case idxS x i => split at hc <;> cases hc
  case sliceS x lo hi => split at hc <;> cases hc
  case sliceL k x lo hi => split at hc <;> cases hc
  case addS x y => split at hc <;> cases hc
  case eqS neg x y => split at hc <;> cases hc
  case bytesS x =>
    obtain ⟨ex, hx, h1⟩ := map_some hc
    cases h1
    simp only [evX] at he
    split at he
    · rename_i b o n c g hlx
      obtain ⟨vx, hvx, rx⟩ := cX_ev hr hh.glob hx hlx
      cases rx with
      | slice hb =>
      obtain ⟨l, l', h1, h2, h3, h4⟩ := rowK_sound hh hb he
      split at h1
      · rename_i m hm
        simp only [strK, natK_eq] at h1
        have e := packB_sound h2 hm
        have hl : l.length = n := by rw [h2.1]; exact h3
        rw [hl] at e
        simp only [denOp, hvx]
        refine ⟨bytesOf n m, bytesOf_length n m, by rw [← e]; exact h4, ?_⟩
        exact hk _ _ H nx ρ h (Nat.le_refl _) (Agr.refl _ _) hh (.str _ _) h1
      · cases h1
    · rename_i hlx
      obtain ⟨vx, hvx, rx⟩ := cX_ev hr hh.glob hx hlx
      cases rx
      simp only [denOp, hvx]
      exact hk _ _ H nx ρ h (Nat.le_refl _) (Agr.refl _ _) hh (.str 0 0) he
    · cases he
  case bad => cases hc
end
end Go.Ev
