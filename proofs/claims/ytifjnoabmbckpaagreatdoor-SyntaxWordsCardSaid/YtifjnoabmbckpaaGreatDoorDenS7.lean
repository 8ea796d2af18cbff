import Derived.Test.YtifjnoabmbckpaaGreatDoorDenS6
namespace Go.Den
open Go
section
variable {P : Program} {ops : Array Oper} {Q : Exit → Act → World → Prop}

/-- i waits for k, by way of others perhaps. -/
inductive Waits (ops : Array Oper) : Nat → Nat → Prop
  | one {i k : Nat} {o : Oper} (ho : ops[i]? = some o) (hk : k ∈ edges o) : Waits ops i k
  | more {i j k : Nat} {o : Oper} (ho : ops[i]? = some o) (hj : j ∈ edges o) (hw : Waits ops j k) : Waits ops i k

/-- What has come up is closed under what it waited for. -/
def Closed (ops : Array Oper) (listed : Array Bool) : Prop :=
  ∀ i o, ops[i]? = some o → listed.getD i false = true → ∀ k ∈ edges o, listed.getD k false = true

theorem mem_edgesL {k : Nat} : ∀ {l : List Edge}, k ∈ edgesL l ↔ ∃ e ∈ l, Region.binds .any e = true ∧ e.on = k
  | [] => by simp [edgesL]
  | ⟨j, g⟩ :: l => by
    unfold edgesL
    split
    · rename_i hb
      simp only [List.mem_cons, mem_edgesL (l := l)]
      constructor
      · rintro (rfl | ⟨e, he, h1, h2⟩)
        · exact ⟨_, .inl rfl, hb, rfl⟩
        · exact ⟨e, .inr he, h1, h2⟩
      · rintro ⟨e, (rfl | he), h1, h2⟩
        · exact .inl h2.symm
        · exact .inr ⟨e, he, h1, h2⟩
    · rename_i hb
      rw [mem_edgesL (l := l)]
      constructor
      · rintro ⟨e, he, h1, h2⟩; exact ⟨e, List.mem_cons_of_mem _ he, h1, h2⟩
      · rintro ⟨e, he, h1, h2⟩
        cases he with
        | head => rw [hb] at h1; cases h1
        | tail _ ht => exact ⟨e, ht, h1, h2⟩

theorem mem_edges {o : Oper} {k : Nat} : k ∈ edges o ↔ ∃ e ∈ o.after, Region.binds .any e = true ∧ e.on = k := by
  obtain ⟨d, op, ty, p, af, g⟩ := o
  simp only [edges, mem_edgesL, Array.mem_toList_iff]

theorem Waits.listed {listed : Array Bool} (hc : Closed ops listed) {i k : Nat} (hw : Waits ops i k) : (∀ o, ops[i]? = some o → ∀ j ∈ edges o, listed.getD j false = true) → listed.getD k false = true := by
  induction hw with
  | one ho hk => exact fun h => h _ ho _ hk
  | more ho hj hw ih => exact fun h => ih fun o' ho' => hc _ _ ho' (h _ ho _ hj)

abbrev PenW := List (Nat × (World → Prop))

def wpAnyT (P : Program) (ops : Array Oper) (W : Nat → Nat → Bool) (Q : Exit → Act → World → Prop) : Nat → Array Bool → PenW → Act → World → Prop
  | 0, listed, _, a, w => Region.ready .any ops listed = [] ∧ Q .normal a w
  | fuel + 1, listed, pen, a, w =>
    (Region.ready .any ops listed = [] → Q .normal a w) ∧
    ∀ i ∈ Region.ready .any ops listed, wpOp P ops Q i (fun a' w' => (∀ p ∈ pen, W i p.1 = false → p.2 w') ∧ wpAnyT P ops W Q fuel (listed.setIfInBounds i true) (pen.filter fun p => !W i p.1) a' w') a w

theorem wpAny_of_T {W : Nat → Nat → Bool} : ∀ (fuel : Nat) (listed : Array Bool) (pen : PenW) (a : Act) (w : World), wpAnyT P ops W Q fuel listed pen a w → wpAny P .any ops Q fuel listed a w
  | 0, _, _, _, _, h => h
  | fuel + 1, _, _, _, _, h => ⟨h.1, fun i hi => wpOp_mono (fun a' w' h' => wpAny_of_T fuel _ _ a' w' h'.2) (h.2 i hi)⟩

theorem wpAnyT_drop' {W : Nat → Nat → Bool} : ∀ (fuel : Nat) (listed : Array Bool) (pen pen' : PenW) (a : Act) (w : World), (∀ p ∈ pen', p ∈ pen ∨ ∀ w, p.2 w) → wpAnyT P ops W Q fuel listed pen a w → wpAnyT P ops W Q fuel listed pen' a w
  | 0, _, _, _, _, _, _, h => h
  | fuel + 1, _, pen, pen', _, _, hs, h => ⟨h.1, fun i hi => wpOp_mono (fun a' w' h' => ⟨fun p hp hw => (hs p hp).elim (fun hm => h'.1 p hm hw) (fun ht => ht w'), wpAnyT_drop' fuel _ _ _ a' w' (fun p hp => by
      rw [List.mem_filter] at hp
      rcases hs p hp.1 with hm | ht
      · exact .inl (List.mem_filter.2 ⟨hm, hp.2⟩)
      · exact .inr ht) h'.2⟩) (h.2 i hi)⟩

theorem wpAnyT_drop {W : Nat → Nat → Bool} (fuel : Nat) (listed : Array Bool) (pen pen' : PenW) (a : Act) (w : World) (hs : ∀ p ∈ pen', p ∈ pen) (h : wpAnyT P ops W Q fuel listed pen a w) : wpAnyT P ops W Q fuel listed pen' a w :=
  wpAnyT_drop' fuel listed pen pen' a w (fun p hp => .inl (hs p hp)) h

theorem ready_edges {listed : Array Bool} {i : Nat} (hi : i ∈ Region.ready .any ops listed) : ∀ o, ops[i]? = some o → ∀ k ∈ edges o, listed.getD k false = true := by
  intro o ho k hk
  obtain ⟨_, o', ho', hall⟩ := mem_ready.1 hi
  rw [ho] at ho'
  cases ho'
  obtain ⟨e, he, hb, rfl⟩ := mem_edges.1 hk
  exact hall e he hb

theorem Closed.set {listed : Array Bool} (hc : Closed ops listed) {i : Nat} (hi : i ∈ Region.ready .any ops listed) : Closed ops (listed.setIfInBounds i true) := by
  intro j o ho hj k hk
  by_cases e : j = i
  · subst e
    exact getD_set_true (ready_edges hi o ho k hk)
  · rw [getD_set_ne false (Ne.symm e)] at hj
    exact getD_set_true (hc j o ho hj k hk)

theorem wpAnyT_first {W : Nat → Nat → Bool} (hW : ∀ i k, W i k = true → Waits ops i k) {i : Nat} {oi : Oper} {v : Value} {S : World → Prop} (hi : ops[i]? = some oi) (hsel : ∀ (j : Nat) (o : Oper) cs b, ops[j]? = some o → o.op ≠ .select cs b)
    (hQ : ∀ c a w, Q (.panic c) (a.put oi.dst v) w → Q (.panic c) a w) :
    ∀ (fuel : Nat) (listed : Array Bool) (pen : PenW) (a : Act) (w : World),
      Closed ops listed →
      (∀ j oj, ops[j]? = some oj → j ≠ i → listed.getD j true = false → (∀ e ∈ oj.after, Region.binds .any e = true → e.on ≠ i) → oi.apart ops oj = true) →
      i ∈ Region.ready .any ops listed → YieldsIf P ops S oi v a → S w → (∀ p ∈ pen, p.2 w) →
      wpAnyT P ops W Q fuel (listed.setIfInBounds i true) ((i, S) :: pen) (a.put oi.dst v) w → wpAnyT P ops W Q (fuel + 1) listed pen a w := by
  have hself : ∀ (fuel : Nat) (listed : Array Bool) (pen : PenW) (a : Act) (w : World), YieldsIf P ops S oi v a → S w → (∀ p ∈ pen, p.2 w) → wpAnyT P ops W Q fuel (listed.setIfInBounds i true) ((i, S) :: pen) (a.put oi.dst v) w →
      wpOp P ops Q i (fun a' w' => (∀ p ∈ pen, W i p.1 = false → p.2 w') ∧ wpAnyT P ops W Q fuel (listed.setIfInBounds i true) (pen.filter fun p => !W i p.1) a' w') a w := by
    intro fuel listed pen a w hy hS hpen H
    refine hy.wpOp hi hS ⟨fun p hp _ => hpen p hp, wpAnyT_drop fuel _ _ _ _ _ (fun p hp => ?_) H⟩
    exact List.mem_cons_of_mem _ (List.mem_filter.1 hp).1
  intro fuel
  induction fuel with
  | zero =>
    intro listed pen a w _ _ hr hy hS hpen H
    refine ⟨fun h => (by rw [h] at hr; cases hr), fun j hj => ?_⟩
    by_cases hji : j = i
    · subst hji; exact hself 0 listed pen a w hy hS hpen H
    · have := ready_mono hj hji
      rw [H.1] at this
      cases this
  | succ fuel ih =>
    intro listed pen a w hcl hfree hr hy hS hpen H
    refine ⟨fun h => (by rw [h] at hr; cases hr), fun j hj => ?_⟩
    by_cases hji : j = i
    · subst hji; exact hself (fuel + 1) listed pen a w hy hS hpen H
    · have h1 := H.2 j (ready_mono hj hji)
      obtain ⟨hjun, oj, hoj, hall⟩ := mem_ready.1 hj
      have hun : listed.getD i false ≠ true := fun h1 => by
        have h0 := (mem_ready.1 hr).1
        rcases Nat.lt_or_ge i listed.size with h' | h'
        · simp [h'] at h0 h1; rw [h0] at h1; cases h1
        · simp [Array.getElem?_eq_none h'] at h1
      have hnot : ∀ e ∈ oj.after, Region.binds .any e = true → e.on ≠ i := fun e he hb heq => hun (heq ▸ hall e he hb)
      have hWji : W j i = false := by
        cases hx : W j i with
        | false => rfl
        | true => exact absurd ((hW j i hx).listed hcl (ready_edges hj)) hun
      have h2 := wpOp_putIf hoj (hfree j oj hoj hji hjun hnot) (fun cs b => hsel i oi cs b hi) (fun cs b => hsel j oj cs b hoj) hQ hy h1
      have hfree' : ∀ k ok, ops[k]? = some ok → k ≠ i → (listed.setIfInBounds j true).getD k true = false →
          (∀ e ∈ ok.after, Region.binds .any e = true → e.on ≠ i) → oi.apart ops ok = true := fun k ok hk hki hun hno => by
        refine hfree k ok hk hki ?_ hno
        by_cases hjk : j = k
        · subst hjk; exact hjun
        · rw [getD_set_ne true hjk] at hun; exact hun
      refine wpOp_mono (fun a' w' h3 => ?_) h2
      obtain ⟨hy', hp', h3⟩ := h3
      have hS' : S w' := hp' (i, S) List.mem_cons_self hWji
      have hpen' : ∀ p ∈ pen, W j p.1 = false → p.2 w' := fun p hp => hp' p (List.mem_cons_of_mem _ hp)
      refine ⟨hpen', ih (listed.setIfInBounds j true) _ a' w' (hcl.set hj) hfree' (ready_mono hr (Ne.symm hji)) hy' hS' (fun p hp => ?_) ?_⟩
      · obtain ⟨h4, h5⟩ := List.mem_filter.1 hp
        exact hpen' p h4 (by simpa using h5)
      · rw [Array.setIfInBounds_comm _ _ hji]
        have : (((i, S) :: pen).filter fun p => !W j p.1) = (i, S) :: (pen.filter fun p => !W j p.1) := by
          rw [List.filter_cons]; simp [hWji]
        rw [this] at h3
        exact h3
end
end Go.Den
