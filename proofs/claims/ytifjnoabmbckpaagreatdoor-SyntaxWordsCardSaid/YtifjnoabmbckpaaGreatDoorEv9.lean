import Derived.Test.YtifjnoabmbckpaaGreatDoorEv8
/- The operations with effects. -/
namespace Go.Ev
open Go Go.Den

def Cont (G : Nat) (ρ : Rho) (nx : Nat) (s : St) (K : LV → T Blk → Nat → Bool) (K' : SV → St → PHeap → Prop) : Prop :=
  ∀ lv v H' nx' ρ' h', nx ≤ nx' → Agr nx ρ ρ' → HR G ρ' H' nx' h' → VR ρ' lv v → K lv H' nx' = true → K' (.val v) s h'

def CallOk (P : Program) (G : Nat) (call : CallE) : Prop :=
  ∀ (f : Nat) (args : List LV) (args' : List Value) (H : T Blk) (nx : Nat) (h : PHeap) (ρ : Rho) (K : LV → T Blk → Nat → Bool) (Q : Value → PHeap → Prop), LR ρ args args' → HR G ρ H nx h → call f args H nx K = true →
    (∀ lv v H' nx' ρ' h', nx ≤ nx' → Agr nx ρ ρ' → HR G ρ' H' nx' h' → VR ρ' lv v → K lv H' nx' = true → Q v h') → Tri P f args' h Q

section
variable {P : Program} {G : Nat} {ρ : Rho} {R : T LV} {s : St} {H : T Blk} {nx : Nat} {h : PHeap} {call : CallE} {K : LV → T Blk → Nat → Bool} {K' : SV → St → PHeap → Prop}

theorem srcK_sound (hh : HR G ρ H nx h) {ss : Bool} {k : Nat} {lv : LV} {v : Value} {t2 : TypeId} {K : Nat → List LV → Bool} (hs : srcCls P t2 = some ss) (hv : VR ρ lv v) (he : srcK ss k H lv K = true) :
    ∃ m ys ys', K m ys = true ∧ LR ρ ys ys' ∧ ys.length = m * k ∧ SrcH P h k t2 v m ys' := by
  unfold srcCls at hs
  unfold srcK at he
  split at he
  · have hu : ∃ e, P.underlying t2 = some (.slice e) := by
      split at hs
      · cases hs
      · rename_i e hu; exact ⟨e, hu⟩
      · cases hs
    obtain ⟨e, hu⟩ := hu
    split at he
    · rename_i b o n c g
      cases hv with
      | slice hb =>
        obtain ⟨l, l', h1, h2, h3, h4⟩ := rowK_sound hh hb he
        split at h1
        · rename_i h5
          exact ⟨n, l, l', h1, h2, by rw [h2.1]; exact h3, SrcH.row hu h3 h4 (allOneV_one h2 h5)⟩
        · cases h1
    · cases hv
      exact ⟨0, [], [], he, LR.nil, by simp, SrcH.nil hu⟩
    · cases he
  · have hu : P.underlying t2 = some .string := by
      split at hs
      · rename_i hu; exact hu
      · cases hs
      · cases hs
    split at he
    · rename_i len n
      split at he
      · rename_i hk
        have hk := Nat.eq_of_beq_eq_true hk
        subst hk
        cases hv
        refine ⟨len, _, _, he, cellsB_LR len n, by rw [cellsB_len, Nat.mul_one], ?_⟩
        have := SrcH.string (h := h) hu (⟨⟨bytesOf len n⟩⟩ : ByteArray)
        have e : (⟨⟨bytesOf len n⟩⟩ : ByteArray).size = len := by
          show (bytesOf len n).length = len
          exact bytesOf_length len n
        rw [e] at this
        exact this
      · cases he
    · cases he

theorem append_sound (hr : RR ρ R s) (hh : HR G ρ H nx h) {x y : Operand} {t t2 ty : TypeId} {xop : XOp} (hc : cApp P G x y t t2 = some (.x xop)) (he : evX call xop R H nx K = true) (hk : Cont G ρ nx s K K') :
    denOp P (.raw (.call ⟨.builtin .append, ⟨[x, y]⟩, ⟨[t, t2]⟩⟩) ty) s h K' := by
  unfold cApp at hc
  split at hc
  · rename_i e hu
    split at hc
    · rename_i i hi
      split at hc
      · rename_i z hz
        split at hc
        · rename_i ss ex ey hsz hss hx hy
          cases hc
          rw [Bool.and_eq_true] at hsz
          have hzc : z.cells.size = i.size := by rw [← Array.length_toList]; exact Nat.eq_of_beq_eq_true hsz.1
          have hpos : 0 < i.size := Nat.blt_eq.mp hsz.2
          simp only [evX] at he
          split at he
          · rename_i lx hlx
            split at he
            · rename_i ly hly
              obtain ⟨vx, hvx, rx⟩ := cX_ev hr hh.glob hx hlx
              obtain ⟨vy, hvy, ry⟩ := cX_ev hr hh.glob hy hly
              have hall : allVal s (Op.call ⟨.builtin .append, ⟨[x, y]⟩, ⟨[t, t2]⟩⟩).operands.toList = true := by simp [Op.operands, Call.operands, allVal, hvx, hvy]
              have ex : s.vv x = vx := by simp [St.vv, hvx]
              have ey : s.vv y = vy := by simp [St.vv, hvy]
              simp only [denOp, hall]
              unfold appendK at he
              obtain ⟨m, ys, ys', h1, h2, h3, h4⟩ := srcK_sound hh hss ry he
              cases m with
              | zero =>
                simp only at h1
                split at h1
                · cases rx
                  exact raw_append0 hu hi ex ey h4 (Nat.le_refl 0) (hk _ _ H nx ρ h (Nat.le_refl _) (Agr.refl _ _) hh .nils h1)
                · rename_i b o n c g
                  split at h1
                  · rename_i hle
                    have hle := Nat.le_of_ble_eq_true hle
                    cases rx with
                    | slice hb => exact raw_append0 hu hi ex ey h4 (by cases g <;> simp <;> omega) (hk _ _ H nx ρ h (Nat.le_refl _) (Agr.refl _ _) hh (.slice hb) h1)
                  · cases h1
                · cases h1
              | succ m =>
                simp only at h1
                split at h1
                · cases rx
                  split at h1
                  · rename_i hroom
                    rw [T.ofLK_eq] at h1
                    obtain ⟨H', h5, h6⟩ := newK_sound h1
                    unfold roomB at hroom
                    rw [Bool.and_eq_true, Nat.ble_eq, Nat.ble_eq] at hroom
                    have hroom1 : (16 * (m + 1) + 16384) * i.bytes ≤ 281474976710656 := hroom.1
                    have hroom2 : m + 1 ≤ 1000000000 := hroom.2
                    have ho : Own h e i.size (.slice none 0 0) 0 [] := ⟨by simp, .inl ⟨rfl, rfl⟩⟩
                    intro w hs
                    obtain ⟨nn, v, w', h', r1, r2, ⟨b2, cap, rest, rfl, rfl, r3, r4, r5⟩, r6, r7⟩ := raw_append (P := P) (ty := ty) (c := ⟨.builtin .append, ⟨[x, y]⟩, ⟨[t, t2]⟩⟩) rfl rfl rfl hu hi hz ex ey ho h4 hzc (Nat.succ_pos m) (by simpa using hroom1) (by simpa using hroom2) w hs
                    refine ⟨nn, _, w', _, r1, r2, ?_, r6, r7⟩
                    have hb2 : h b2 = none := by
                      rcases r5 with r5 | ⟨c, r5⟩
                      · exact r5
                      · cases r5
                    simp only [Nat.zero_add, List.nil_append] at *
                    have hBR : BR (ext ρ nx b2 (cap - (m + 1))) (cap - (m + 1)) (.cells e i.size (lenL ys) (T.ofL ys)) (.cells ⟨ys' ++ rest⟩ e (0, 0)) := by
                      rw [lenL_eq]
                      exact BR.ofL (h2.mono (hh.le (ext_agr ρ nx b2 _))) r3
                    have hHR := hh.new (hh.noB hb2) hBR h6
                    refine hk _ _ H' (nx + 1) _ _ (Nat.le_succ _) (ext_agr ρ nx b2 _) hHR ?_ h5
                    have e2 : (bif true then Nat.succ m + (cap - (m + 1)) else Nat.succ m) = cap := by simp; omega
                    have hv := VR.slice (ρ := ext ρ nx b2 (cap - (m + 1))) (b := nx) (o := 0) (len := Nat.succ m) (cap := Nat.succ m) (rb := b2) (κ := cap - (m + 1)) (g := true) (by simp only [ext, if_pos])
                    rw [e2] at hv; exact hv
                  · cases h1
                · rename_i b o n c g
                  cases rx with
                  | slice hb =>
                  rename_i rb κ
                  rw [natK_eq] at h1
                  have hcc : c ≤ (bif g then c + κ else c) := by cases g <;> simp
                  split at h1
                  · rename_i hfit
                    have hfit : n + (m + 1) ≤ c := Nat.le_of_ble_eq_true hfit
                    split at h1
                    · rename_i t' k' N cs hH
                      split at h1
                      · rename_i hN
                        have hN : o + (n + (m + 1)) * i.size ≤ N := Nat.le_of_ble_eq_true hN
                        obtain ⟨c1, h5, h6⟩ := writeK_sound h1
                        obtain ⟨H', h7, h8⟩ := T.putK_sound h5
                        obtain ⟨ob, ho, hB⟩ := hh.blk b _ rb κ hH hb
                        have e3 : o + n * i.size + ys.length ≤ N := by rw [h3, Nat.add_assoc, ← Nat.add_mul]; exact hN
                        obtain ⟨cl, rfl, hlen, hB2⟩ := BR.write hB h2 e3 h6
                        refine raw_append_in hu hi ex ey ho h4 (Nat.le_trans hfit hcc) (Nat.le_trans hN hlen) ?_
                        have hHR := hh.set hH hb hB2 h8
                        exact hk _ _ H' nx ρ _ (Nat.le_refl _) (Agr.refl _ _) hHR (.slice hb) h7
                      · cases h1
                    · cases h1
                  · rename_i hfit
                    have hfit : ¬ (n + (m + 1) ≤ c) := fun e => by
                      have : Nat.ble (n + (m + 1)) c = true := by rw [Nat.ble_eq]; exact e
                      have hfit' : Nat.ble (n + (m + 1)) c = false := hfit
                      rw [this] at hfit'; cases hfit'
                    split at h1
                    · cases h1
                    · rename_i hroom
                      unfold roomB at hroom
                      rw [Bool.and_eq_true, Nat.ble_eq, Nat.ble_eq] at hroom
                      have hroom1 : (16 * (n + (m + 1)) + 16384) * i.bytes ≤ 281474976710656 := hroom.1
                      have hroom2 : n + (m + 1) ≤ 1000000000 := hroom.2
                      split at h1
                      · obtain ⟨xs, xs', g1, g2, g3, g4⟩ := rowK_sound hh hb h1
                        rw [T.ofLK_eq, appL_eq] at g1
                        obtain ⟨H', h5, h6⟩ := newK_sound g1
                        refine raw_append_grow hu hi hz hzc ex ey g4 (by rw [g3]; rfl) h4 (show c < n + (m + 1) by omega) hroom1 hroom2 fun b2 cap2 rest r1 r2 r3 => ?_
                        have hBR : BR (ext ρ nx b2 (cap2 - (n + (m + 1)))) (cap2 - (n + (m + 1))) (.cells e i.size (Nat.mul (Nat.add n (Nat.succ m)) i.size) (T.ofL (xs ++ ys))) (.cells ⟨xs' ++ ys' ++ rest⟩ e (0, 0)) := by
                          have hl : (xs ++ ys).length = Nat.mul (Nat.add n (Nat.succ m)) i.size := by
                            rw [List.length_append, g2.1, g3, h3]
                            exact (Nat.add_mul n (m + 1) i.size).symm
                          rw [← hl]
                          exact BR.ofL ((g2.append h2).mono (hh.le (ext_agr ρ nx b2 _))) r3
                        have hHR := hh.new (hh.noB r1) hBR h6
                        refine hk _ _ H' (nx + 1) _ _ (Nat.le_succ _) (ext_agr ρ nx b2 _) hHR ?_ h5
                        have e2 : (bif true then Nat.add n (Nat.succ m) + (cap2 - (n + (m + 1))) else Nat.add n (Nat.succ m)) = cap2 := by
                          show n + (m + 1) + (cap2 - (n + (m + 1))) = cap2; omega
                        have hv := VR.slice (ρ := ext ρ nx b2 (cap2 - (n + (m + 1)))) (b := nx) (o := 0) (len := Nat.add n (Nat.succ m)) (cap := Nat.add n (Nat.succ m)) (rb := b2) (κ := cap2 - (n + (m + 1))) (g := true) (by simp only [ext, if_pos])
                        rw [e2] at hv; exact hv
                      · split at h1
                        · split at h1
                          · rename_i t' k' N cs hH
                            split at h1
                            · rename_i hchk
                              rw [Bool.and_eq_true, Bool.and_eq_true] at hchk
                              have et := Nat.eq_of_beq_eq_true hchk.1.1
                              have ek := Nat.eq_of_beq_eq_true hchk.1.2
                              have eN : N = c * i.size := Nat.eq_of_beq_eq_true hchk.2
                              subst et; subst ek
                              split at h1
                              · rename_i hnc
                                have hnc := Nat.eq_of_beq_eq_true hnc
                                subst hnc
                                obtain ⟨c1, h5, h6⟩ := writeK_sound h1
                                obtain ⟨H1, h7, h8⟩ := T.putK_sound h5
                                obtain ⟨H', h9, h10⟩ := newK_sound h7
                                obtain ⟨ob, ho, hB⟩ := hh.blk b _ rb κ hH hb
                                obtain ⟨cl, rest0, rfl, hcl, hrest, hcc2⟩ := hB
                                have hown : Own h t' i.size (.slice (some ⟨rb, 0, none⟩) n (bif true then n + κ else n)) n cl := by
                                  refine ⟨by rw [hcl, eN], .inr ⟨rb, n + κ, rest0, rfl, ho, ?_, by omega⟩⟩
                                  rw [hrest]; congr 1; omega
                                intro w hs
                                obtain ⟨nn, v, w', h', r1, r2, ⟨b2, cap, rest, rfl, rfl, r3, r4, r5⟩, r6, r7⟩ := raw_append (P := P) (ty := ty) (c := ⟨.builtin .append, ⟨[x, y]⟩, ⟨[t, t2]⟩⟩) rfl rfl rfl hu hi hz ex ey hown h4 hzc (Nat.succ_pos m) hroom1 hroom2 w hs
                                refine ⟨nn, _, w', _, r1, r2, ?_, r6, r7⟩
                                have hk1 := hh.kill h8
                                have hno : ∀ b' B κ', H1.get b' = some B → ρ b' = some (b2, κ') → False := by
                                  intro b' B κ' q1 q2
                                  rcases r5 with r5 | ⟨c5, r5⟩
                                  · exact hk1.noB r5 b' B κ' q1 q2
                                  · cases r5
                                    rw [h8] at q1
                                    by_cases e5 : b' = b
                                    · rw [if_pos e5] at q1; cases q1
                                    · rw [if_neg e5] at q1
                                      exact e5 (hh.inj b' b _ _ _ _ _ q1 hH q2 hb)
                                have hBR : BR (ext ρ nx b2 (cap - (n + (m + 1)))) (cap - (n + (m + 1))) (.cells t' i.size (Nat.mul (Nat.add n (Nat.succ m)) i.size) c1) (.cells ⟨cl ++ ys' ++ rest⟩ t' (0, 0)) := by
                                  have hle2 := hh.le (ext_agr ρ nx b2 (cap - (n + (m + 1))))
                                  refine ⟨cl ++ ys', rest, rfl, ?_, r3, fun j hj => ?_⟩
                                  · rw [List.length_append, hcl, eN, ← h2.1, h3]
                                    exact (Nat.add_mul n (m + 1) i.size).symm
                                  · have hj : j < (n + (m + 1)) * i.size := hj
                                    rw [Nat.add_mul, ← eN, ← h3] at hj
                                    rw [h6]
                                    by_cases hjN : j < N
                                    · rw [if_neg (by omega)]
                                      obtain ⟨lv, v, a1, a2, a3⟩ := hcc2 j hjN
                                      exact ⟨lv, v, a1, by rw [List.getElem?_append_left (by omega)]; exact a2, a3.mono hle2⟩
                                    · rw [if_pos (by omega)]
                                      have hlt : j - N < ys.length := by omega
                                      have hg : ys[j - N]? = some ys[j - N] := List.getElem?_eq_getElem hlt
                                      obtain ⟨v', a1, a2⟩ := h2.get hg
                                      exact ⟨_, v', hg, by rw [List.getElem?_append_right (by omega), hcl]; exact a1, a2.mono hle2⟩
                                have hHR := hk1.new hno hBR h10
                                refine hk _ _ H' (nx + 1) _ _ (Nat.le_succ _) (ext_agr ρ nx b2 _) hHR ?_ h9
                                have e2 : (bif true then Nat.add n (Nat.succ m) + (cap - (n + (m + 1))) else Nat.add n (Nat.succ m)) = cap := by
                                  show n + (m + 1) + (cap - (n + (m + 1))) = cap; omega
                                have hv := VR.slice (ρ := ext ρ nx b2 (cap - (n + (m + 1)))) (b := nx) (o := 0) (len := Nat.add n (Nat.succ m)) (cap := Nat.add n (Nat.succ m)) (rb := b2) (κ := cap - (n + (m + 1))) (g := true) (by simp only [ext, if_pos])
                                rw [e2] at hv; exact hv
                              · cases h1
                            · cases h1
                          · cases h1
                        · cases h1
                · cases h1
            · cases he
          · cases he
        · cases hc
      · cases hc
    · cases hc
  · cases hc
end
end Go.Ev
