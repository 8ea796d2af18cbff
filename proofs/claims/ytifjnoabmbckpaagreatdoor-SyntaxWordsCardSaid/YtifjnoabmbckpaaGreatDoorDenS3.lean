import Derived.Test.YtifjnoabmbckpaaGreatDoorDenS2
namespace Go.Den
open Go
section
variable {P : Program} {n : Nat} {w0 : World} {h0 : PHeap} {s : St} {bs : Nat → Nat} {h : PHeap} {a : Act} {w : World}

/-- What an operation must leave. -/
def Nxt (n : Nat) (w0 : World) (h0 : PHeap) (s : St) (bs : Nat → Nat) (a : Act) (K : SV → St → PHeap → Prop) (next : Value → World → Prop) : Prop :=
  ∀ x s' h' bs' v w', K x s' h' → x.sat bs' v → Rel n w0 h0 s' bs' h' a w' → Agree s.nl bs bs' → s.nl ≤ s'.nl → (∀ i off, x = .loc i off → i < s'.nl) → next v w'

variable {K : SV → St → PHeap → Prop} {next : Act → World → Prop} {Q : Exit → Act → World → Prop} {o : Oper}

theorem wp_of_run {v : Value} {w' : World} (hrun : (execOp a.eval o).run P w = .ok (.value v) w') (hn : next (a.put o.dst v) w') : o.wp P a w next Q := by
  unfold Oper.wp; rw [hrun]; exact hn
theorem wp_of_skip {w' : World} (hrun : (execOp a.eval o).run P w = .ok .skip w') (hn : next (a.put o.dst undef) w') : o.wp P a w next Q := by
  unfold Oper.wp; rw [hrun]; exact hn

theorem St.ev_loc_lt (r : Rel n w0 h0 s bs h a w) (x : Operand) : ∀ i off, s.ev x = .loc i off → i < s.nl := fun _ _ e => (r.evloc e).2

theorem sound_mv {x : Operand} (hop : o.op = .move x ∨ o.op = .assign x) (r : Rel n w0 h0 s bs h a w) (hd : denOp P (.mv x) s h K)
    (hn : Nxt n w0 h0 s bs a K fun v => next (a.put o.dst v)) : o.wp P a w next Q := by
  have hrun : (execOp a.eval o).run P w = .ok (.value (a.eval x)) w := by
    rcases hop with e | e <;> simp [execOp, e]
  exact wp_of_run hrun (hn _ s h bs _ w hd (r.ev x) r (Agree.refl bs) (Nat.le_refl _) (St.ev_loc_lt r x))

theorem sound_pick {c x y : Operand} (hop : o.op = .pick c x y) (r : Rel n w0 h0 s bs h a w) (hd : denOp P (.pick c x y) s h K)
    (hn : Nxt n w0 h0 s bs a K fun v => next (a.put o.dst v)) : o.wp P a w next Q := by
  simp only [denOp] at hd
  split at hd
  · rename_i b hb
    have hc := (r.vv hb).1
    have hrun : (execOp a.eval o).run P w = .ok (.value (if b then a.eval x else a.eval y)) w := by
      simp [execOp, hop, hc, asBool]
    cases b
    · exact wp_of_run hrun (hn _ s h bs _ w hd (r.ev y) r (Agree.refl bs) (Nat.le_refl _) (St.ev_loc_lt r y))
    · exact wp_of_run hrun (hn _ s h bs _ w hd (r.ev x) r (Agree.refl bs) (Nat.le_refl _) (St.ev_loc_lt r x))
  · exact hd.elim

theorem run_allocOp {t : TypeId} {z : Value} (hop : o.op = .alloc t) (hz : (P.info? t).bind (·.zero) = some z) :
    (execOp a.eval o).run P w = .ok (.value (.pointer (some ⟨w.heap.size, 0, none⟩))) (w.alloc (.cells ⟨z.cells.toList⟩ t)) := by
  cases hi : P.info? t with
  | none => rw [hi] at hz; cases hz
  | some i =>
    rw [hi] at hz
    have hz' : i.zero = some z := hz
    simp [execOp, hop, Instr.alloc, zeroValue, typeInfo, program, hi, hz', newVar, newRow, newObj, Sem.run]

theorem sound_alloc {t : TypeId} {z : Value} {e : Bool} (hop : o.op = .alloc t) (hz : (P.info? t).bind (·.zero) = some z) (r : Rel n w0 h0 s bs h a w)
    (hd : denOp P (.alloc t z.cells.toList e) s h K) (hn : Nxt n w0 h0 s bs a K fun v => next (a.put o.dst v)) : o.wp P a w next Q := by
  have hrun := run_allocOp (a := a) (w := w) hop hz
  cases e with
  | false =>
    obtain ⟨r', hag⟩ := r.newLocal z.cells.toList t
    exact wp_of_run hrun (hn _ _ h _ _ _ hd (by simp only [SV.sat, updSame]) r' hag (by simp [St.newL]) (fun i off e => by cases e; simp [St.newL]))
  | true => exact wp_of_run hrun (hn _ s _ bs _ _ (hd _ r.sub.fresh) rfl (r.newReal _) (Agree.refl bs) (Nat.le_refl _) (fun i off e => by cases e))

theorem sound_box {t : TypeId} {x : Operand} {e : Bool} (hop : o.op = .box t x) (r : Rel n w0 h0 s bs h a w)
    (hd : denOp P (.box t x e) s h K) (hn : Nxt n w0 h0 s bs a K fun v => next (a.put o.dst v)) : o.wp P a w next Q := by
  simp only [denOp] at hd
  split at hd
  · rename_i v hv
    have hc := (r.vv hv).1
    have hrun : (execOp a.eval o).run P w = .ok (.value (.pointer (some ⟨w.heap.size, 0, none⟩))) (w.alloc (.cells ⟨cellsL v⟩ t)) := by
      simp [execOp, hop, hc, Instr.box, newVar, newRow, newObj, Sem.run, cellsL]
    cases e with
    | false =>
      obtain ⟨r', hag⟩ := r.newLocal (cellsL v) t
      exact wp_of_run hrun (hn _ _ h _ _ _ hd (by simp only [SV.sat, updSame]) r' hag (by simp [St.newL]) (fun i off e => by cases e; simp [St.newL]))
    | true => exact wp_of_run hrun (hn _ s _ bs _ _ (hd _ r.sub.fresh) rfl (r.newReal _) (Agree.refl bs) (Nat.le_refl _) (fun i off e => by cases e))
  · exact hd.elim

theorem drop_take_get {l : List Value} {o k j : Nat} {v : Value} (hj : ((l.drop o).take k)[j]? = some v) : l[o + j]? = some v := by
  rw [List.getElem?_take] at hj
  split at hj
  · rw [List.getElem?_drop] at hj; exact hj
  · cases hj

theorem Rel.localCell (r : Rel n w0 h0 s bs h a w) {i : Nat} (hi : i < s.nl) {j : Nat} {v : Value} (hj : (s.locs i)[j]? = some v) : w.cell? ⟨bs i, j, none⟩ = some v := by
  obtain ⟨_, _, t, h3⟩ := r.loc i hi
  simp [World.cell?, h3, hj]

/-- The run of a load, from the cells. -/
theorem run_loadCellsT {t : TypeId} {agg : Bool} {x : Operand} {b off : Nat} {l : List Value} (hop : o.op = .load t x) (hx : a.eval x = .pointer (some ⟨b, off, none⟩))
    (ha : isAggT P t = some agg) (hz : agg = true → sizeT P t = some l.length) (h1 : agg = false → l.length = 1)
    (hc : ∀ j v, l[j]? = some v → w.cell? ((⟨b, off, none⟩ : Addr).add j) = some v) : (execOp a.eval o).run P w = .ok (.value (packV agg l)) w := by
  cases agg with
  | true => simp [execOp, hop, hx, Instr.loadAt, Instr.sureAddr, run_loadAgg ha (hz rfl) hc, packV]
  | false =>
    match l, h1 rfl with
    | [v], _ =>
      have := hc 0 v rfl
      rw [addNone, Nat.add_zero] at this
      simp [execOp, hop, hx, Instr.loadAt, Instr.sureAddr, run_loadOne (v := v) ha this, packV]

theorem lowLoad {t : TypeId} {x : Operand} {esc : Nat → Bool} {so : SOp} (hop : o.op = .load t x) (hl : lowOp P esc o.dst o.op o.type = some so) :
    so = .bad ∨ ∃ agg k, so = .load agg k x ∧ isAggT P t = some agg ∧ (agg = true → sizeT P t = some k) ∧ (agg = false → k = 1) := by
  simp only [lowOp, hop] at hl
  split at hl
  · rename_i h1 h2; cases hl; exact .inr ⟨true, _, rfl, h1, fun _ => h2, fun e => by cases e⟩
  · rename_i h1 h2; cases hl; exact .inr ⟨false, 1, rfl, h1, (fun e => by cases e), fun _ => rfl⟩
  · cases hl; exact .inl rfl

theorem sound_load {t : TypeId} {x : Operand} {agg : Bool} {k : Nat} (hop : o.op = .load t x) (ha : isAggT P t = some agg) (hz : agg = true → sizeT P t = some k) (h1 : agg = false → k = 1)
    (r : Rel n w0 h0 s bs h a w) (hd : denOp P (.load agg k x) s h K) (hn : Nxt n w0 h0 s bs a K fun v => next (a.put o.dst v)) : o.wp P a w next Q := by
  simp only [denOp] at hd
  split at hd
  · rename_i i off hx
    obtain ⟨hx', hi⟩ := r.evloc hx
    split at hd
    · rename_i hle
      have hle := Nat.le_of_ble_eq_true hle
      have hlen : (((s.locs i).drop off).take k).length = k := by simp; omega
      have hrun := run_loadCellsT (w := w) (l := ((s.locs i).drop off).take k) hop hx' ha (fun e => by rw [hlen]; exact hz e) (fun e => by rw [hlen]; exact h1 e)
        (fun j v hj => by rw [addNone]; exact r.localCell hi (drop_take_get hj))
      exact wp_of_run hrun (hn _ s h bs _ w hd rfl r (Agree.refl bs) (Nat.le_refl _) (fun i off e => by cases e))
    · exact hd.elim
  · rename_i b off hx
    obtain ⟨l, hlen, hrow, hk⟩ := hd
    have hrun := run_loadCellsT (w := w) (l := l) hop (r.vv hx).1 ha (fun e => by rw [hlen]; exact hz e) (fun e => by rw [hlen]; exact h1 e) (fun j v hj => r.sub.row hrow j v hj)
    exact wp_of_run hrun (hn _ s h bs _ w hk rfl r (Agree.refl bs) (Nat.le_refl _) (fun i off e => by cases e))
  · exact hd.elim

theorem sound_store {t : TypeId} {x y : Operand} {k : Nat} (hop : o.op = .store t x y) (hz : sizeT P t = some k)
    (r : Rel n w0 h0 s bs h a w) (hd : denOp P (.store k x y) s h K) (hn : Nxt n w0 h0 s bs a K fun v => next (a.put o.dst v)) : o.wp P a w next Q := by
  simp only [denOp] at hd
  split at hd
  · rename_i v hv
    have hv' := (r.vv hv).1
    split at hd
    · rename_i hb
      simp only [Bool.and_eq_true] at hb
      obtain ⟨hlen, hone⟩ := hb
      have hlen : (cellsL v).length = k := Nat.eq_of_beq_eq_true hlen
      have hz' : sizeT P t = some (cellsL v).length := by rw [hlen]; exact hz
      split at hd
      · rename_i i off hx
        obtain ⟨hx', hi⟩ := r.evloc hx
        split at hd
        · rename_i hle
          have hle := Nat.le_of_ble_eq_true hle
          obtain ⟨_, _, e, h3⟩ := r.loc i hi
          have hst := run_storeAny (P := P) (o := off) hz' h3 (Nat.zero_le _) (by omega) hone
          have hrun : (execOp a.eval o).run P w = .ok .skip (w.setRow (bs i) ⟨splice (s.locs i) off (cellsL v)⟩) := by
            simp [execOp, hop, hx', hv', Instr.storeAt, Instr.sureAddr, hst]
          exact wp_of_skip hrun (hn _ _ h bs _ _ hd rfl (r.setLocal hi _) (Agree.refl bs) (Nat.le_refl _) (fun i off e => by cases e))
        · exact hd.elim
      · rename_i b off hx
        obtain ⟨l, e, fz, hb, ⟨hle, hfz⟩, hk⟩ := hd
        have hst := run_storeAny (P := P) (o := off) hz' (r.sub _ _ hb) hfz (by omega) hone
        have hrun : (execOp a.eval o).run P w = .ok .skip (w.setRow b ⟨splice l off (cellsL v)⟩) := by
          simp [execOp, hop, (r.vv hx).1, hv', Instr.storeAt, Instr.sureAddr, hst]
        exact wp_of_skip hrun (hn _ s _ bs _ _ hk rfl (r.setReal hb) (Agree.refl bs) (Nat.le_refl _) (fun i off e => by cases e))
      · exact hd.elim
    · exact hd.elim
  · exact hd.elim
end
end Go.Den
