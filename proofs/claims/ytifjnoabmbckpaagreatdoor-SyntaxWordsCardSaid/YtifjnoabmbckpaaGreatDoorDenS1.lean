import Derived.Test.YtifjnoabmbckpaaGreatDoorDen
namespace Go.Den
open Go
section
variable {P : Program} {n : Nat} {w0 : World} {h0 : PHeap} {s : St} {bs : Nat → Nat} {h : PHeap} {a : Act} {w : World}

theorem addNone (b o k : Nat) : (⟨b, o, none⟩ : Addr).add k = ⟨b, o + k, none⟩ := by
  unfold Addr.add; split <;> simp_all

theorem Sub.cell (hs : Sub w h) {b o : Nat} {v : Value} (hc : h.cell b o = some v) : w.cell? ⟨b, o, none⟩ = some v := by
  unfold PHeap.cell at hc
  split at hc
  · rename_i c t f hb
    simp [World.cell?, hs _ _ hb, hc]
  · cases hc

theorem PHeap.row_get {b : Nat} : ∀ {l : List Value} {o : Nat}, h.row b o l → ∀ j v, l[j]? = some v → h.cell b (o + j) = some v
  | [], _, _, j, v, hj => by simp at hj
  | [x], o, hr, j, v, hj => by
    cases j with
    | zero => simp at hj; subst hj; exact hr
    | succ j => simp at hj
  | x :: y :: l, o, hr, j, v, hj => by
    cases j with
    | zero => simp at hj; subst hj; exact hr.1
    | succ j =>
      have := PHeap.row_get hr.2 j v (by simpa using hj)
      rw [show o + (j + 1) = o + 1 + j by omega]; exact this

theorem Sub.row (hs : Sub w h) {b o : Nat} {l : List Value} (hr : h.row b o l) (j : Nat) (v : Value) (hj : l[j]? = some v) :
    w.cell? ((⟨b, o, none⟩ : Addr).add j) = some v := by
  rw [addNone]; exact hs.cell (PHeap.row_get hr j v hj)

theorem isAggT_true {t : TypeId} (ht : isAggT P t = some true) : (isAgg t).run P w = .ok true w := by
  unfold isAggT at ht
  unfold isAgg underlying
  cases hu : P.underlying t with
  | none => rw [hu] at ht; cases ht
  | some d =>
    rw [hu] at ht
    cases d <;> simp_all [program, Sem.run]

theorem isAggT_false {t : TypeId} (ht : isAggT P t = some false) : (isAgg t).run P w = .ok false w := by
  unfold isAggT at ht
  unfold isAgg underlying
  cases hu : P.underlying t with
  | none => rw [hu] at ht; cases ht
  | some d =>
    rw [hu] at ht
    cases d <;> simp_all [program, Sem.run]

theorem zeroL_eq (z : Value) : zeroL z = z.cells.toList := by cases z <;> rfl

theorem sizeT_run {t : TypeId} {k : Nat} (ht : sizeT P t = some k) : (sizeOf t).run P w = .ok k w := by
  unfold sizeT at ht
  unfold sizeOf typeInfo
  cases hu : P.info? t with
  | none => rw [hu] at ht; cases ht
  | some i =>
    rw [hu] at ht
    simp_all [program, Sem.run]

theorem run_loadAgg {t : TypeId} {b o : Nat} {l : List Value} (ha : isAggT P t = some true) (hz : sizeT P t = some l.length)
    (hc : ∀ j v, l[j]? = some v → w.cell? ((⟨b, o, none⟩ : Addr).add j) = some v) : (loadVar t ⟨b, o, none⟩).run P w = .ok (.agg ⟨l⟩) w := by
  unfold loadVar
  simp only [Sem.run_bind, isAggT_true ha, Result.andThen_ok, if_true, sizeT_run hz, run_loadCells_list w _ l hc, Sem.run_pure]

theorem run_loadOne {t : TypeId} {b o : Nat} {v : Value} (ha : isAggT P t = some false)
    (hc : w.cell? ⟨b, o, none⟩ = some v) : (loadVar t ⟨b, o, none⟩).run P w = .ok v w := by
  unfold loadVar
  simp [isAggT_false ha, hc]

theorem run_storeAny {t : TypeId} {b o : Nat} {v : Value} {cur : List Value} {e : TypeId} {fz : Nat × Nat} (hz : sizeT P t = some (cellsL v).length)
    (hb : w.heap[b]? = some (.cells ⟨cur⟩ e fz)) (hf : fz.2 ≤ o) (hl : o + (cellsL v).length ≤ cur.length) (h1 : allOne (cellsL v) = true) :
    (storeVar t ⟨b, o, none⟩ v).run P w = .ok () (w.setRow b ⟨splice cur o (cellsL v)⟩) := by
  have hone : ∀ l : List Value, allOne l = true → ∀ x ∈ l, x.oneCell' = true := by
    intro l
    induction l with
    | nil => intro _ x hx; cases hx
    | cons y l ih =>
      intro hl x hx
      simp only [allOne, Bool.and_eq_true] at hl
      cases hx with
      | head => exact hl.1
      | tail _ hm => exact ih hl.2 x hm
  have hst := Go.run_storeCells_atF P b o e fz (cellsL v) 0 ⟨cur⟩ w hb (by omega) (by simpa using hl) (hone _ h1)
  unfold storeVar
  simp only [Sem.run_bind, sizeT_run hz, Result.andThen_ok]
  have : v.cells.size = (cellsL v).length := by simp [cellsL]
  rw [this]
  simp only [ne_eq, not_true_eq_false, if_false]
  show (storeCells ⟨b, o, none⟩ (cellsL v) 0).run P w = _
  rw [hst]
  simp [splice]

end
end Go.Den
