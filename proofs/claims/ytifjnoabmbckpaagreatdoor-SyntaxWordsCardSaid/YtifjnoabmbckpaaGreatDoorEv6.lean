import Derived.Test.YtifjnoabmbckpaaGreatDoorEv5
/- The evaluator's operations without effects, all together. -/
namespace Go.Ev
open Go Go.Den
section
variable {P : Program} {G : Nat} {ρ : Rho} {R : T LV} {s : St}

theorem map_some {α β : Type} {o : Option α} {f : α → β} {b : β} (h : o.map f = some b) : ∃ a, o = some a ∧ f a = b := by
  cases o with
  | none => cases h
  | some a => exact ⟨a, rfl, by simpa using h⟩

theorem evP_sound (hr : RR ρ R s) (hg : GR G ρ) {sop : SOp} {pop : POp} {K : LV → Bool} (hc : cOp P G sop = some (.p pop)) (he : evP pop R K = true) : Good ρ P s sop K := by
  cases sop <;> simp only [cOp] at hc
  case mv x =>
    obtain ⟨ex, hx, h1⟩ := map_some hc
    cases h1
    simp only [evP] at he
    split at he
    · rename_i lv h1
      obtain ⟨v, hv, hvr⟩ := cX_ev hr hg hx h1
      exact ⟨lv, v, he, hvr, fun h K' hk => by simp only [denOp, hv]; exact hk⟩
    · cases he
  case pick c a b =>
    split at hc
    · rename_i ec ea eb h1 h2 h3
      cases hc
      simp only [evP] at he
      split at he
      · rename_i hcv
        obtain ⟨v, hv, hvr⟩ := cX_ev hr hg h1 hcv
        cases hvr
        split at he
        · rename_i lv hav
          obtain ⟨v, hv2, hvr⟩ := cX_ev hr hg h2 hav
          exact ⟨lv, v, he, hvr, fun h K' hk => by simp only [denOp, hv, br, hv2]; exact hk⟩
        · cases he
      · rename_i hcv
        obtain ⟨v, hv, hvr⟩ := cX_ev hr hg h1 hcv
        cases hvr
        split at he
        · rename_i lv hav
          obtain ⟨v, hv2, hvr⟩ := cX_ev hr hg h3 hav
          exact ⟨lv, v, he, hvr, fun h K' hk => by simp only [denOp, hv, br, hv2]; exact hk⟩
        · cases he
      · cases he
    · cases hc
  case alloc t z esc => split at hc <;> cases hc
  case box t x esc => split at hc <;> cases hc
  case load agg n x => obtain ⟨ex, hx, h1⟩ := map_some hc; cases h1
  case store n x v => split at hc <;> cases hc
  case nilCheck x =>
    obtain ⟨ex, hx, h1⟩ := map_some hc
    cases h1
    simp only [evP] at he
    split at he
    · rename_i b o h1
      obtain ⟨v, hv, hvr⟩ := cX_ev hr hg hx h1
      cases hvr with
      | ptr hb => exact ⟨_, _, he, .ptr hb, fun h K' hk => by simp only [denOp, hv]; exact hk⟩
    · rename_i f a c h1
      obtain ⟨v, hv, hvr⟩ := cX_ev hr hg hx h1
      cases hvr with
      | fn k1 k2 k3 k4 => exact ⟨_, _, he, .fn k1 k2 k3 k4, fun h K' hk => by simp only [denOp, hv]; exact hk⟩
    · cases he
  case fieldAddr off x =>
    obtain ⟨ex, hx, h1⟩ := map_some hc
    cases h1
    simp only [evP] at he
    split at he
    · rename_i b o h1
      obtain ⟨v, hv, hvr⟩ := cX_ev hr hg hx h1
      rw [natK_eq] at he
      cases hvr with
      | ptr hb => exact ⟨_, _, he, .ptr hb, fun h K' hk => by simp only [denOp, hv]; exact hk⟩
    · cases he
  case indexAddr size x i =>
    split at hc
    · rename_i ex ei hx hi
      cases hc
      simp only [evP] at he
      split at he
      · rename_i b o n c g h1
        split at he
        · rename_i k i' h2
          split at he
          · rename_i hlt
            have hlt := Nat.blt_eq.mp hlt
            obtain ⟨v, hv, hvr⟩ := cX_ev hr hg hx h1
            obtain ⟨v2, hv2, hvr2⟩ := cX_ev hr hg hi h2
            cases hvr2
            rw [natK_eq] at he
            cases hvr with
            | slice hb =>
              refine ⟨_, _, he, .ptr hb, fun h K' hk => ?_⟩
              simp only [denOp, hv, hv2]
              exact ⟨⟨Int.natCast_nonneg i', Int.ofNat_lt.mpr hlt⟩, hk⟩
          · cases he
        · cases he
      · cases he
    · cases hc
  case indexArr len size x i =>
    split at hc
    · rename_i ex ei hx hi
      cases hc
      simp only [evP] at he
      split at he
      · rename_i b o h1
        split at he
        · rename_i k i' h2
          split at he
          · rename_i hlt
            have hlt := Nat.blt_eq.mp hlt
            obtain ⟨v, hv, hvr⟩ := cX_ev hr hg hx h1
            obtain ⟨v2, hv2, hvr2⟩ := cX_ev hr hg hi h2
            cases hvr2
            rw [natK_eq] at he
            cases hvr with
            | ptr hb =>
              refine ⟨_, _, he, .ptr hb, fun h K' hk => ?_⟩
              simp only [denOp, hv, hv2]
              exact ⟨⟨Int.natCast_nonneg i', Int.ofNat_lt.mpr hlt⟩, hk⟩
          · cases he
        · cases he
      · cases he
    · cases hc
  case len str x =>
    obtain ⟨ex, hx, h1⟩ := map_some hc
    cases h1
    simp only [evP] at he
    split at he
    · split at he
      · rename_i b o n c g h1
        obtain ⟨v, hv, hvr⟩ := cX_ev hr hg hx h1
        cases hvr with
        | slice hb => exact ⟨_, _, he, .int _ _, fun h K' hk => by simp only [denOp, hv]; exact hk⟩
      · rename_i h1
        obtain ⟨v, hv, hvr⟩ := cX_ev hr hg hx h1
        cases hvr
        exact ⟨_, _, he, .int _ _, fun h K' hk => by simp only [denOp, hv]; exact hk⟩
      · cases he
    · split at he
      · rename_i n m h1
        obtain ⟨v, hv, hvr⟩ := cX_ev hr hg hx h1
        cases hvr
        exact ⟨_, _, he, .int _ _, fun h K' hk => by simp only [denOp, hv, bytesOf_length]; exact hk⟩
      · cases he
  case call f args => split at hc <;> cases hc
  case pure op ty => exact cPure_sound hr hg hc he
  case puref op ty => exact cPuref_sound hr hg hc he
  case raw op ty =>
    exfalso
    revert hc
    unfold cRaw cUpd cApp
    repeat' split
    all_goals intro hc; cases hc
  case conv k x =>
    obtain ⟨ex, hx, h1⟩ := map_some hc
    cases h1
    simp only [evP] at he
    split at he
    · rename_i j i h1
      obtain ⟨v, hv, hvr⟩ := cX_ev hr hg hx h1
      cases hvr
      rw [wrapK_eq] at he
      exact ⟨_, _, he, .int _ _, fun h K' hk => by simp only [denOp, hv]; exact hk⟩
    · cases he
  case build z parts =>
    split at hc
    · rename_i z' ps hz hps
      cases hc
      simp only [evP] at he
      obtain ⟨l, l', hk, hl, hf⟩ := fillK_sound hr hg hps (lvs0_LR hz) he
      exact ⟨_, _, hk, .agg hl.1 hl.2, fun h K' hK => by simp only [denOp]; exact hf _ hK⟩
    · cases hc
  case buildSlice e len z parts => split at hc <;> cases hc
  case field agg off n x =>
    obtain ⟨ex, hx, h1⟩ := map_some hc
    cases h1
    simp only [evP] at he
    split at he
    · rename_i l h1
      obtain ⟨v, hv, hvr⟩ := cX_ev hr hg hx h1
      cases hvr with
      | agg k1 k2 =>
        rename_i l'
        have hlr : LR ρ l l' := ⟨k1, k2⟩
        split at he
        · obtain ⟨h2, h3⟩ := partK_sound he
          have h4 := (hlr.drop off).take n
          refine ⟨_, _, h2, .agg h4.1 h4.2, fun h K' hk => ?_⟩
          simp only [denOp, hv]
          have : Nat.ble (off + n) l'.length = true := by rw [Nat.ble_eq, ← k1]; exact h3
          rw [this]; exact hk
        · split at he
          · rename_i hn
            have hn := Nat.eq_of_beq_eq_true hn
            subst hn
            split at he
            · rename_i lv hlv
              rw [nthK_eq] at hlv
              obtain ⟨v', hv', hr'⟩ := hlr.get hlv
              refine ⟨lv, v', he, hr', fun h K' hk => ?_⟩
              simp only [denOp, hv]
              have hlt := (List.getElem?_eq_some_iff.1 hv').1
              have : Nat.ble (off + 1) l'.length = true := by rw [Nat.ble_eq]; exact hlt
              rw [this]
              have e : (l'.drop off).take 1 = [v'] := by
                rw [List.drop_eq_getElem_cons hlt]
                have := (List.getElem?_eq_some_iff.1 hv').2
                simp [this]
              simp only [packV, e]; exact hk
            · cases he
          · cases he
    · cases he
  case idxS x i =>
    split at hc
    · rename_i ex ei hx hi
      cases hc
      simp only [evP] at he
      split at he
      · rename_i len n h1
        split at he
        · rename_i k i' h2
          split at he
          · rename_i hlt
            have hlt := Nat.blt_eq.mp hlt
            obtain ⟨v, hv, hvr⟩ := cX_ev hr hg hx h1
            obtain ⟨v2, hv2, hvr2⟩ := cX_ev hr hg hi h2
            cases hvr2; cases hvr
            rw [natK_eq] at he
            have hget := bytesOf_get len n i' hlt
            have hm : n / 2 ^ (8 * i') % 256 < 256 := Nat.mod_lt _ (by omega)
            have e1 : Nat.mod (Nat.shiftRight n (Nat.mul 8 i')) 256 = (UInt8.ofNat (n / 2 ^ (8 * i') % 256)).toNat := by
              show (n >>> (8 * i')) % 256 = _
              rw [Nat.shiftRight_eq_div_pow, UInt8.toNat_ofNat']
              omega
            rw [e1] at he
            refine ⟨_, _, he, .int _ _, fun h K' hk => ?_⟩
            simp only [denOp, hv, hv2]
            exact ⟨Int.natCast_nonneg i', _, hget, hk⟩
          · cases he
        · cases he
      · cases he
    · cases hc
  case sliceS x lo hi =>
    split at hc
    · rename_i ex elo ehi hx hlo hhi
      cases hc
      simp only [evP] at he
      split at he
      · rename_i len n h1
        obtain ⟨v, hv, hvr⟩ := cX_ev hr hg hx h1
        cases hvr
        obtain ⟨a, ha1, ha2⟩ := bndK_sound hr hg hlo he
        obtain ⟨b, hb1, hb2⟩ := bndK_sound hr hg hhi ha1
        split at hb1
        · rename_i hle
          simp only [Bool.and_eq_true, Nat.ble_eq] at hle
          simp only [strK, natK_eq] at hb1
          refine ⟨_, _, hb1, .str _ _, fun h K' hk => ?_⟩
          simp only [denOp, hv, bytesOf_length]
          refine ha2 _ (hb2 _ ⟨⟨Int.natCast_nonneg a, Int.ofNat_le.mpr hle.1, Int.ofNat_le.mpr hle.2⟩, ?_⟩)
          have e : ((bytesOf len n).drop (a : Int).toNat).take ((b : Int).toNat - (a : Int).toNat) = bytesOf (Nat.sub b a) (Nat.mod (Nat.shiftRight n (Nat.mul 8 a)) (Nat.pow 2 (Nat.mul 8 (Nat.sub b a)))) := by
            show _ = bytesOf (b - a) ((n >>> (8 * a)) % 2 ^ (8 * (b - a)))
            rw [bytesOf_mod, Nat.shiftRight_eq_div_pow, Int.toNat_natCast, Int.toNat_natCast, bytesOf_drop, bytesOf_take _ _ _ (by omega)]
          rw [e]; exact hk
        · cases hb1
      · cases he
    · cases hc
  case sliceL k x lo hi =>
    split at hc
    · rename_i ex elo ehi hx hlo hhi
      cases hc
      simp only [evP] at he
      split at he
      · rename_i b o n c g h1
        obtain ⟨v, hv, hvr⟩ := cX_ev hr hg hx h1
        cases hvr with
        | slice hb =>
          rename_i rb κ
          obtain ⟨i, hi1, hi2⟩ := bndK_sound hr hg hlo he
          obtain ⟨j, hj1, hj2⟩ := bndK_sound hr hg hhi hi1
          split at hj1
          · rename_i hle
            simp only [Bool.and_eq_true, Nat.ble_eq, Bool.or_eq_true, Nat.blt_eq] at hle
            simp only [natK_eq] at hj1
            refine ⟨_, _, hj1, .slice hb, fun h K' hk => ?_⟩
            simp only [denOp, hv]
            have hcc : c ≤ (bif g then c + κ else c) := by cases g <;> simp
            refine hi2 _ (hj2 _ ⟨⟨Int.natCast_nonneg i, Int.ofNat_le.mpr hle.1.1, ?_⟩, fun o' ho' => ?_⟩)
            · exact Int.ofNat_le.mpr (Nat.le_trans hle.1.2 hcc)
            · have h3 : o' = o + (i : Int).toNat * k := ho' (by
                rcases hle.2 with h4 | h4
                · left; rw [Int.toNat_natCast]; omega
                · right; rw [Int.toNat_natCast]; exact Nat.eq_of_beq_eq_true h4)
              rw [h3, Int.toNat_natCast, Int.toNat_natCast]
              have e : (bif g then Nat.sub c i + κ else Nat.sub c i) = (bif g then c + κ else c) - i := by
                have : i ≤ c := Nat.le_trans hle.1.1 hle.1.2
                cases g
                · rfl
                · show c - i + κ = c + κ - i; omega
              rw [e] at hk
              exact hk
          · cases hj1
      · rename_i h1
        obtain ⟨v, hv, hvr⟩ := cX_ev hr hg hx h1
        cases hvr
        obtain ⟨i, hi1, hi2⟩ := bndK_sound hr hg hlo he
        obtain ⟨j, hj1, hj2⟩ := bndK_sound hr hg hhi hi1
        split at hj1
        · rename_i hle
          simp only [Bool.and_eq_true] at hle
          have ei := Nat.eq_of_beq_eq_true hle.1
          have ej := Nat.eq_of_beq_eq_true hle.2
          subst ei; subst ej
          refine ⟨_, _, hj1, .nils, fun h K' hk => ?_⟩
          simp only [denOp, hv]
          exact hi2 _ (hj2 _ ⟨⟨rfl, rfl⟩, hk⟩)
        · cases hj1
      · cases he
    · cases hc
  case addS x y =>
    split at hc
    · rename_i ex ey hx hy
      cases hc
      simp only [evP] at he
      split at he
      · rename_i a n h1
        split at he
        · rename_i b m h2
          split at he
          · rename_i hle
            have hle := Nat.le_of_ble_eq_true hle
            obtain ⟨v, hv, hvr⟩ := cX_ev hr hg hx h1
            obtain ⟨v2, hv2, hvr2⟩ := cX_ev hr hg hy h2
            cases hvr; cases hvr2
            simp only [strK, natK_eq] at he
            refine ⟨_, _, he, .str _ _, fun h K' hk => ?_⟩
            simp only [denOp, hv, hv2, bytesOf_length]
            have e : bytesOf (Nat.add a b) (Nat.add (Nat.mod n (Nat.pow 2 (Nat.mul 8 a))) (Nat.mul m (Nat.pow 2 (Nat.mul 8 a)))) = bytesOf a n ++ bytesOf b m := bytesOf_append a b n m
            rw [e] at hk
            exact ⟨hle, hk⟩
          · cases he
        · cases he
      · cases he
    · cases hc
  case eqS neg x y =>
    have symS : ∀ {ex : List (Nat × Nat)} {len n : Nat} {neg : Bool} {b : List UInt8}, (∀ p, p ∈ ex → b ≠ bytesOf p.1 p.2) → symEq neg ex len n K = true → K (.bool neg) = true ∧ b ≠ bytesOf len n := by
      intro ex len n neg b hb hs
      unfold symEq at hs
      split at hs
      · rename_i hin
        rw [boolK_eq] at hs
        refine ⟨hs, ?_⟩
        clear hs
        induction ex with
        | nil => cases hin
        | cons p ex ih =>
          obtain ⟨a, c⟩ := p
          simp only [inEx] at hin
          split at hin
          · rename_i h1
            rw [Bool.and_eq_true] at h1
            rw [Nat.eq_of_beq_eq_true h1.1, Nat.eq_of_beq_eq_true h1.2]
            exact hb (a, c) List.mem_cons_self
          · exact ih (fun p hp => hb p (List.mem_cons_of_mem _ hp)) hin
      · cases hs
    split at hc
    · rename_i ex ey hx hy
      cases hc
      simp only [evP] at he
      split at he
      · rename_i a n h1
        split at he
        · rename_i b m h2
          obtain ⟨v, hv, hvr⟩ := cX_ev hr hg hx h1
          obtain ⟨v2, hv2, hvr2⟩ := cX_ev hr hg hy h2
          cases hvr; cases hvr2
          have e : (Nat.beq a b && Nat.beq (Nat.mod n (Nat.pow 2 (Nat.mul 8 a))) (Nat.mod m (Nat.pow 2 (Nat.mul 8 a)))) = (bytesOf a n == bytesOf b m) := by
            rw [Bool.eq_iff_iff, Bool.and_eq_true, Nat.beq_eq, Nat.beq_eq, beq_iff_eq]
            constructor
            · rintro ⟨rfl, h4⟩
              have h4 : n % 2 ^ (8 * a) = m % 2 ^ (8 * a) := h4
              rw [← bytesOf_mod a n, ← bytesOf_mod a m, h4]
            · intro h4
              have h5 : a = b := by have := congrArg List.length h4; simpa [bytesOf_length] using this
              subst h5
              exact ⟨rfl, bytesOf_inj a n m h4⟩
          rw [e] at he
          split at he
          · rw [boolK_eq] at he
            exact ⟨_, _, he, .bool _, fun h K' hk => by simp only [denOp, hv, hv2]; exact hk⟩
          · rw [boolK_eq] at he
            exact ⟨_, _, he, .bool _, fun h K' hk => by simp only [denOp, hv, hv2]; exact hk⟩
        · rename_i ex2 h2
          obtain ⟨v, hv, hvr⟩ := cX_ev hr hg hx h1
          obtain ⟨v2, hv2, hvr2⟩ := cX_ev hr hg hy h2
          cases hvr
          cases hvr2 with
          | sym hs =>
            obtain ⟨h3, h4⟩ := symS hs he
            have e : (bytesOf a n == _) = false := beq_eq_false_iff_ne.2 (Ne.symm h4)
            refine ⟨_, _, h3, .bool neg, fun h K' hk => ?_⟩
            cases neg <;> simp only [denOp, hv, hv2, e] <;> exact hk
        · cases he
      · rename_i ex1 h1
        split at he
        · rename_i b m h2
          obtain ⟨v, hv, hvr⟩ := cX_ev hr hg hx h1
          obtain ⟨v2, hv2, hvr2⟩ := cX_ev hr hg hy h2
          cases hvr2
          cases hvr with
          | sym hs =>
            obtain ⟨h3, h4⟩ := symS hs he
            have e : (_ == bytesOf b m) = false := beq_eq_false_iff_ne.2 h4
            refine ⟨_, _, h3, .bool neg, fun h K' hk => ?_⟩
            cases neg <;> simp only [denOp, hv, hv2, e] <;> exact hk
        · cases he
      · cases he
    · cases hc
  case bytesS x => obtain ⟨ex, hx, h1⟩ := map_some hc; cases h1
  case bad => cases hc
end
end Go.Ev
