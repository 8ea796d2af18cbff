import Derived.Test.YtifjnoabmbckpaaGreatDoorDenS7
namespace Go.Den
open Go
section
variable {P : Program} {n : Nat} {w0 : World} {h0 : PHeap} {s : St} {bs : Nat → Nat} {h : PHeap} {a : Act} {w : World} {o : Oper}

/-- What a read asks to stay, abstractly and concretely. -/
def Stays (n : Nat) (w0 : World) (h0 : PHeap) (s : St) (bs : Nat → Nat) (h : PHeap) (Sw : World → Prop) : Option (St → PHeap → Prop) → Prop
  | none => ∀ w', Sw w'
  | some S => S s h ∧ ∀ s' bs' h' a' w', Rel n w0 h0 s' bs' h' a' w' → Agree s.nl bs bs' → s.nl ≤ s'.nl → S s' h' → Sw w'

/-- What an operation that only reads leaves. -/
def Gives (P : Program) (n : Nat) (w0 : World) (h0 : PHeap) (s : St) (bs : Nat → Nat) (h : PHeap) (a : Act) (w : World) (o : Oper) (K : SV → Option (St → PHeap → Prop) → Prop) : Prop :=
  ∃ (x : SV) (v : Value) (S : Option (St → PHeap → Prop)) (Sw : World → Prop), K x S ∧ x.sat bs v ∧ (∀ i off, x = .loc i off → i < s.nl) ∧ Stays n w0 h0 s bs h Sw S ∧ Sw w ∧
    (∀ w', Sw w' → (execOp a.eval o).run P w' = .ok (.value v) w')

theorem Gives.plain {K : SV → Option (St → PHeap → Prop) → Prop} {x : SV} {v : Value} (hk : K x none) (hx : x.sat bs v) (hl : ∀ i off, x = .loc i off → i < s.nl)
    (hr : ∀ w', (execOp a.eval o).run P w' = .ok (.value v) w') : Gives P n w0 h0 s bs h a w o K :=
  ⟨x, v, none, fun _ => True, hk, hx, hl, fun _ => trivial, trivial, fun w' _ => hr w'⟩

theorem take_sound {esc : Nat → Bool} {so : SOp} {K : SV → Option (St → PHeap → Prop) → Prop} (ht : takeable so = true) (hl : lowOp P esc o.dst o.op o.type = some so) (r : Rel n w0 h0 s bs h a w)
    (hd : denTake P so s h K) : Gives P n w0 h0 s bs h a w o K := by
  have hpf : (∀ cs b, o.op ≠ .select cs b) → so = .puref o.op o.type → Gives P n w0 h0 s bs h a w o K := fun hs e => by
    subst e
    simp only [denTake, denOp] at hd
    split at hd
    · rename_i hall
      obtain ⟨v, hv, hk⟩ := hd
      exact .plain hk rfl noLoc fun w' => by rw [execOp_vv r hs hall]; exact hv w'
    · exact hd.elim
  have hpu : (∀ cs b, o.op ≠ .select cs b) → so = .pure o.op o.type → Gives P n w0 h0 s bs h a w o K := fun hs e => by
    subst e
    simp only [denTake, denOp] at hd
    split at hd
    · rename_i hall
      split at hd
      · rename_i v hv
        exact .plain hd rfl noLoc fun w' => by rw [execOp_vv r hs hall]; exact pureVal_run _ hv w'
      · exact hd.elim
    · exact hd.elim
  have hmv : ∀ x, (o.op = .move x ∨ o.op = .assign x) → so = .mv x → Gives P n w0 h0 s bs h a w o K := fun x hop e => by
    subst e
    simp only [denTake, denOp] at hd
    exact .plain hd (r.ev x) (St.ev_loc_lt r x) fun w' => by rcases hop with e | e <;> simp [execOp, e]
  cases hop : o.op with
  | move x => simp only [lowOp, hop] at hl; cases hl; exact hmv x (.inl hop) rfl
  | assign x => simp only [lowOp, hop] at hl; cases hl; exact hmv x (.inr hop) rfl
  | pick c x y =>
    simp only [lowOp, hop] at hl; cases hl
    simp only [denTake, denOp] at hd
    split at hd
    · rename_i b hb
      have hc := (r.vv hb).1
      cases b
      · exact .plain (v := a.eval y) hd (r.ev y) (St.ev_loc_lt r y) fun w' => by simp [execOp, hop, hc, asBool]
      · exact .plain (v := a.eval x) hd (r.ev x) (St.ev_loc_lt r x) fun w' => by simp [execOp, hop, hc, asBool]
    · exact hd.elim
  | alloc t =>
    simp only [lowOp, hop] at hl
    split at hl <;> cases hl <;> cases ht
  | box t x => simp only [lowOp, hop] at hl; cases hl; cases ht
  | load t x =>
    rcases lowLoad hop hl with rfl | ⟨agg, k, rfl, h1, h2, h3⟩
    · exact hd.elim
    simp only [denTake] at hd
    split at hd
    · rename_i i off hx
      obtain ⟨hx', hi⟩ := r.evloc hx
      split at hd
      · rename_i hle
        have hle := Nat.le_of_ble_eq_true hle
        have hlen : (((s.locs i).drop off).take k).length = k := by simp; omega
        refine ⟨_, _, _, fun w' => ∀ j v, (((s.locs i).drop off).take k)[j]? = some v → w'.cell? ((⟨bs i, off, none⟩ : Addr).add j) = some v, hd, rfl, noLoc,
          ⟨rfl, fun s' bs' h' a' w' r' hag hnl hS j v hj => ?_⟩, fun j v hj => by rw [addNone]; exact r.localCell hi (drop_take_get hj), fun w' hS => ?_⟩
        · rw [← hS] at hj
          rw [addNone, ← hag i hi]
          exact r'.localCell (Nat.lt_of_lt_of_le hi hnl) (drop_take_get hj)
        · exact run_loadCellsT (w := w') (l := ((s.locs i).drop off).take k) hop hx' h1 (fun e => by rw [hlen]; exact h2 e) (fun e => by rw [hlen]; exact h3 e) hS
      · exact hd.elim
    · rename_i b off hx
      obtain ⟨l, hlen, hrow, hk⟩ := hd
      refine ⟨_, _, _, fun w' => ∀ j v, l[j]? = some v → w'.cell? ((⟨b, off, none⟩ : Addr).add j) = some v, hk, rfl, noLoc, ⟨hrow, fun s' bs' h' a' w' r' _ _ hS j v hj => r'.sub.row hS j v hj⟩, fun j v hj => r.sub.row hrow j v hj, fun w' hS => ?_⟩
      exact run_loadCellsT (w := w') (l := l) hop (r.vv hx).1 h1 (fun e => by rw [hlen]; exact h2 e) (fun e => by rw [hlen]; exact h3 e) hS
    · exact hd.elim
  | store t x y =>
    simp only [lowOp, hop] at hl
    split at hl <;> cases hl <;> cases ht
  | nilCheck x =>
    simp only [lowOp, hop] at hl; cases hl
    simp only [denTake, denOp] at hd
    split at hd
    · rename_i i off hx
      exact .plain (v := a.eval x) hd (by rw [(r.evloc hx).1]; rfl) (fun _ _ e => by cases e; exact (r.evloc hx).2) fun w' => by simp [execOp, hop, (r.evloc hx).1]
    · rename_i ad hx
      exact .plain hd rfl noLoc fun w' => by simp [execOp, hop, (r.vv hx).1]
    · rename_i f u v hx
      exact .plain hd rfl noLoc fun w' => by simp [execOp, hop, (r.vv hx).1]
    · exact hd.elim
  | fieldAddr t x f =>
    simp only [lowOp, hop] at hl
    cases hz : fieldOff P t f with
    | none => rw [hz] at hl; cases hl; exact hd.elim
    | some k =>
      rw [hz] at hl; cases hl
      simp only [denTake, denOp] at hd
      split at hd
      · rename_i i off hx
        exact .plain hd rfl (fun _ _ e => by cases e; exact (r.evloc hx).2) fun w' => run_fieldAddr hop hz (r.evloc hx).1
      · rename_i b off hx
        exact .plain hd rfl noLoc fun w' => run_fieldAddr hop hz (r.vv hx).1
      · exact hd.elim
  | indexAddr t x i =>
    simp only [lowOp, hop] at hl
    cases hz : elemSize P t with
    | none =>
      rw [hz] at hl
      cases hz2 : arrSize P t with
      | none => rw [hz2] at hl; cases hl; exact hpf (by simp [hop]) (by rw [hop])
      | some p =>
        rw [hz2] at hl; cases hl
        simp only [denTake, denOp] at hd
        split at hd
        · rename_i b off ik i hx hi
          exact .plain hd.2 rfl noLoc fun w' => run_indexArr hop hz2 (r.vv hx).1 (r.vv hi).1 hd.1.1 hd.1.2
        · exact hd.elim
    | some k =>
      rw [hz] at hl; cases hl
      simp only [denTake, denOp] at hd
      split at hd
      · rename_i b off m c ik i hx hi
        exact .plain hd.2 rfl noLoc fun w' => run_indexAddr hop hz (r.vv hx).1 (r.vv hi).1 hd.1.1 hd.1.2
      · exact hd.elim
  | call c =>
    simp only [lowOp, hop] at hl
    cases hc : c.callee with
    | value f => rw [hc] at hl; cases hl; cases ht
    | invoke x y => rw [hc] at hl; cases hl; exact hd.elim
    | builtin b =>
      rw [hc] at hl
      by_cases hlen : b = .len
      · subst hlen
        simp only [lowBuiltin] at hl
        split at hl
        · rename_i x t hargs hts
          cases hz : lenable P t with
          | none => rw [hz] at hl; cases hl; cases ht
          | some str =>
            rw [hz] at hl; cases hl
            have ha : c.args = #[x] := by rw [← hargs]
            have htt : c.argTypes = #[t] := by rw [← hts]
            simp only [denTake] at hd
            unfold lenable at hz
            split at hz
            · rename_i e hu
              cases hz
              simp only [denOp] at hd
              split at hd
              · rename_i b m cp hx
                exact .plain hd rfl noLoc fun w' => by simp [execOp, hop, resolve, hc, ha, htt, invoke, builtin, Builtin.len_, run_underlying hu, (r.vv hx).1, goInt]
              · exact hd.elim
            · rename_i hu
              cases hz
              simp only [denOp] at hd
              split at hd
              · rename_i b hx
                exact .plain hd rfl noLoc fun w' => by
                  simp [execOp, hop, resolve, hc, ha, htt, invoke, builtin, Builtin.len_, run_underlying hu, (r.vv hx).1, goInt]
                  rfl
              · exact hd.elim
            · cases hz
        · cases hl; exact hd.elim
      · cases b <;> simp only [lowBuiltin] at hl <;> first | exact absurd rfl hlen | (cases hl; refine hpf (by simp [hop]) ?_; rw [hop]; done) | (cases hl; cases ht)
  | unOp => simp only [lowOp, hop] at hl; cases hl; exact hpu (by simp [hop]) (by rw [hop])
  | extract => simp only [lowOp, hop] at hl; cases hl; exact hpu (by simp [hop]) (by rw [hop])
  | makeFunc => simp only [lowOp, hop] at hl; cases hl; exact hpu (by simp [hop]) (by rw [hop])
  | binOp op t x y u =>
    simp only [lowOp, hop] at hl
    split at hl
    · split at hl
      · cases hl
        simp only [denTake, denOp] at hd
        split at hd
        · rename_i l m hx hy
          exact .plain hd.2 rfl noLoc fun w' => run_addS hop (r.vv hx).1 (r.vv hy).1 hd.1
        · exact hd.elim
      · cases hl; exact hpu (by simp [hop]) (by rw [hop])
    · split at hl
      · cases hl
        simp only [denTake, denOp] at hd
        split at hd
        · rename_i l m hx hy
          exact .plain hd rfl noLoc fun w' => run_eqS hop (r.vv hx).1 (r.vv hy).1
        · exact hd.elim
      · cases hl; exact hpu (by simp [hop]) (by rw [hop])
    · split at hl
      · cases hl
        simp only [denTake, denOp] at hd
        split at hd
        · rename_i l m hx hy
          exact .plain hd rfl noLoc fun w' => run_neqS hop (r.vv hx).1 (r.vv hy).1
        · exact hd.elim
      · cases hl; exact hpu (by simp [hop]) (by rw [hop])
    all_goals try split at hl
    all_goals cases hl
    all_goals first | (refine hpf (by simp [hop]) ?_; rw [hop]; done) | (refine hpu (by simp [hop]) ?_; rw [hop])
  | build t parts =>
    rcases lowBuild hop hl r with rfl | ⟨z, ps, rfl, hb⟩
    · exact hd.elim
    · simp only [denTake, denOp] at hd
      obtain ⟨l, hk, hrun⟩ := hb hd
      exact .plain hk rfl noLoc hrun
  | buildSlice t m parts =>
    rcases lowBuildSlice hop hl r with rfl | ⟨e, z, ps, rfl, hb⟩ <;> cases ht
  | field t x f =>
    rcases lowField (a := a) hop hl with rfl | ⟨agg, off, k, rfl, hb⟩
    · exact hd.elim
    · simp only [denTake, denOp] at hd
      split at hd
      · rename_i l hx
        split at hd
        · rename_i hle
          exact .plain hd rfl noLoc fun w' => hb l w' (r.vv hx).1 (Nat.le_of_ble_eq_true hle)
        · exact hd.elim
      · exact hd.elim
  | convert src dst x =>
    simp only [lowOp, hop] at hl
    split at hl
    · rename_i k1 k h1 h2
      cases hl
      simp only [denTake, denOp] at hd
      split at hd
      · rename_i k2 i hx
        exact .plain hd rfl noLoc fun w' => run_conv hop h1 h2 (r.vv hx).1
      · exact hd.elim
    · split at hl <;> cases hl <;> cases ht
    · cases hl; cases ht
  | index t x i =>
    simp only [lowOp, hop] at hl
    split at hl
    · rename_i hu
      cases hl
      simp only [denTake, denOp] at hd
      split at hd
      · rename_i l k j hx hi
        obtain ⟨h0, c, hc, hk⟩ := hd
        exact .plain hk rfl noLoc fun w' => run_idxS hop hu (r.vv hx).1 (r.vv hi).1 h0 hc
      · exact hd.elim
    · cases hl; exact hpf (by simp [hop]) (by rw [hop])
  | slice t x lo hi mx =>
    simp only [lowOp, hop] at hl
    split at hl
    · rename_i hu
      cases hl
      simp only [denTake, denOp] at hd
      split at hd
      · rename_i l hx
        obtain ⟨v, hk, hrun⟩ := run_sliceS (K := fun v => K (.val v) none) r hop hu (r.vv hx).1 hd
        exact .plain hk rfl noLoc hrun
      · exact hd.elim
    · rename_i e hu
      split at hl
      · rename_i k hk
        cases hl
        simp only [denTake, denOp] at hd
        split at hd
        · rename_i b off m c hx
          obtain ⟨v, hk, hrun⟩ := run_sliceL (K := fun v => K (.val v) none) r hop hu hk (r.vv hx).1 hd
          exact .plain hk rfl noLoc hrun
        · rename_i hx
          obtain ⟨v, hk, hrun⟩ := run_sliceNil (K := fun v => K (.val v) none) r hop hu hk (r.vv hx).1 hd
          exact .plain hk rfl noLoc hrun
        · exact hd.elim
      · cases hl; exact hd.elim
    · cases hl; exact hpf (by simp [hop]) (by rw [hop])
  | makeInterface => simp only [lowOp, hop] at hl; cases hl; exact hpf (by simp [hop]) (by rw [hop])
  | makeMap | makeSlice | lookup | mapUpdate | insert => simp only [lowOp, hop] at hl; cases hl; cases ht
  | _ => simp only [lowOp, hop] at hl; cases hl; exact hd.elim
end
end Go.Den
