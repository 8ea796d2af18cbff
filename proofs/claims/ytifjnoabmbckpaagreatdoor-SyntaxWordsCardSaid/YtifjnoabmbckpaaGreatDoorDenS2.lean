import Derived.Test.YtifjnoabmbckpaaGreatDoorDenS1
namespace Go.Den
open Go

theorem Keep.refl (w : World) (h : PHeap) : Keep w h w h := ⟨rfl, rfl, rfl, Nat.le_refl _, fun _ _ hk => ⟨hk, rfl⟩⟩

theorem Keep.trans {w w' w'' : World} {h h' h'' : PHeap} (k : Keep w h w' h') (k' : Keep w' h' w'' h'') : Keep w h w'' h'' :=
  ⟨k'.os.trans k.os, k'.tape.trans k.tape, k'.output.trans k.output, Nat.le_trans k.size k'.size, fun i hi hn =>
    have h1 := k.out i hi hn
    have h2 := k'.out i (Nat.lt_of_lt_of_le hi k.size) h1.1
    ⟨h2.1, h2.2.trans h1.2⟩⟩

section
variable {P : Program} {n : Nat} {w0 : World} {h0 : PHeap} {s : St} {bs : Nat → Nat} {h : PHeap} {a : Act} {w : World}

theorem Sub.fresh (hs : Sub w h) : h w.heap.size = none := by
  cases hh : h w.heap.size with
  | none => rfl
  | some o => have := hs _ _ hh; simp at this

theorem heap_alloc_lt (w : World) (o : Obj) {k : Nat} (hk : k < w.heap.size) : (w.alloc o).heap[k]? = w.heap[k]? := by
  show (w.heap.push o)[k]? = _
  rw [Array.getElem?_push, if_neg (by omega)]

theorem heap_alloc_new (w : World) (o : Obj) : (w.alloc o).heap[w.heap.size]? = some o := by
  show (w.heap.push o)[w.heap.size]? = _
  simp

theorem size_alloc' (w : World) (o : Obj) : (w.alloc o).heap.size = w.heap.size + 1 := by
  show (w.heap.push o).size = _
  simp

theorem lt_of_heap {w : World} {k : Nat} {o : Obj} (hk : w.heap[k]? = some o) : k < w.heap.size := (Array.getElem?_eq_some_iff.1 hk).1

theorem Keep.alloc (w : World) (h : PHeap) (o : Obj) : Keep w h (w.alloc o) h :=
  ⟨rfl, rfl, rfl, by rw [size_alloc']; omega, fun k hk hn => ⟨hn, heap_alloc_lt w o hk⟩⟩

theorem Keep.allocReal (w : World) (h : PHeap) (o : Obj) : Keep w h (w.alloc o) (h.put w.heap.size o) :=
  ⟨rfl, rfl, rfl, by rw [size_alloc']; omega, fun k hk hn => ⟨by simp only [PHeap.put]; rw [if_neg (by omega)]; exact hn, heap_alloc_lt w o hk⟩⟩

theorem Sub.allocReal (hs : Sub w h) (o : Obj) : Sub (w.alloc o) (h.put w.heap.size o) := by
  intro k o' hk
  simp only [PHeap.put] at hk
  split at hk
  · rename_i e; subst e; cases hk; exact heap_alloc_new w o
  · have := hs _ _ hk; rw [heap_alloc_lt w o (lt_of_heap this)]; exact this

/-- Known blocks and locals after a step of which the rest is kept. -/
theorem Rel.step (r : Rel n w0 h0 s bs h a w) {w' : World} {h' : PHeap} (hs : Sub w' h') (hk : Keep w h w' h') : Rel n w0 h0 s bs h' a w' where
  size := r.size
  defers := r.defers
  regs := r.regs
  big := r.big
  sub := hs
  keep := r.keep.trans hk
  loc := fun i hi => by
    obtain ⟨h1, h2, t, h3⟩ := r.loc i hi
    have := hk.out (bs i) (lt_of_heap h3) h2
    exact ⟨h1, this.1, t, this.2.trans h3⟩
  inj := r.inj
  lt := r.lt

theorem Rel.newReal (r : Rel n w0 h0 s bs h a w) (o : Obj) : Rel n w0 h0 s bs (h.put w.heap.size o) a (w.alloc o) :=
  r.step (r.sub.allocReal o) (Keep.allocReal w h o)

theorem SV.sat_agree {bs' : Nat → Nat} {m : Nat} (hb : Agree m bs bs') {x : SV} {v : Value} (hl : ∀ i o, x = .loc i o → i < m) (hx : x.sat bs v) : x.sat bs' v := by
  cases x with
  | val u => exact hx
  | loc i o => have := hb i (hl i o rfl); simp only [SV.sat] at *; rw [this]; exact hx
  | junk => trivial

theorem updSame {α : Type} (f : Nat → α) (i : Nat) (x : α) : upd f i x i = x := by simp only [upd, beqSelf, cond_true]
theorem updNe {α : Type} (f : Nat → α) {i j : Nat} (x : α) (hj : j ≠ i) : upd f i x j = f j := by simp only [upd, beqNe hj, cond_false]

theorem Rel.newLocal (r : Rel n w0 h0 s bs h a w) (l : List Value) (t : TypeId) :
    Rel n w0 h0 (s.newL l) (upd bs s.nl w.heap.size) h a (w.alloc (.cells ⟨l⟩ t)) ∧ Agree s.nl bs (upd bs s.nl w.heap.size) := by
  have hag : Agree s.nl bs (upd bs s.nl w.heap.size) := fun i hi => updNe bs _ (by omega)
  refine ⟨⟨r.size, r.defers, fun j hj => SV.sat_agree hag (fun i o e => r.lt j i o hj e) (r.regs j hj), r.big, ?_, r.keep.trans (Keep.alloc w h _), ?_, ?_, ?_⟩, hag⟩
  · intro k o hk
    have := r.sub _ _ hk; rw [heap_alloc_lt _ _ (lt_of_heap this)]; exact this
  · intro i hi
    simp only [St.newL] at hi ⊢
    by_cases hin : i = s.nl
    · subst hin
      rw [updSame, updSame]
      refine ⟨r.keep.size, r.sub.fresh, t, heap_alloc_new w _⟩
    · rw [updNe _ _ hin, updNe _ _ hin]
      obtain ⟨h1, h2, t, h3⟩ := r.loc i (by omega)
      exact ⟨h1, h2, t, by rw [heap_alloc_lt _ _ (lt_of_heap h3)]; exact h3⟩
  · intro i j hi hj he
    simp only [St.newL] at hi hj
    by_cases hin : i = s.nl <;> by_cases hjn : j = s.nl
    · omega
    · subst hin
      rw [updSame, updNe _ _ hjn] at he
      obtain ⟨_, _, t, h3⟩ := r.loc j (by omega)
      have := lt_of_heap h3; omega
    · subst hjn
      rw [updSame, updNe _ _ hin] at he
      obtain ⟨_, _, t, h3⟩ := r.loc i (by omega)
      have := lt_of_heap h3; omega
    · rw [updNe _ _ hin, updNe _ _ hjn] at he
      exact r.inj i j (by omega) (by omega) he
  · intro j i o hj he
    have := r.lt j i o hj he
    simp only [St.newL]; omega

theorem Rel.setLocal (r : Rel n w0 h0 s bs h a w) {i : Nat} (hi : i < s.nl) (l : List Value) :
    Rel n w0 h0 (s.setL i l) bs h a (w.setRow (bs i) ⟨l⟩) where
  size := r.size
  defers := r.defers
  regs := r.regs
  big := r.big
  sub := fun k o hk => by
    have h1 := r.sub _ _ hk
    have : k ≠ bs i := fun e => by subst e; rw [(r.loc i hi).2.1] at hk; cases hk
    rw [setRow_other _ _ _ _ this]; exact h1
  keep := by
    obtain ⟨h1, h2, t, h3⟩ := r.loc i hi
    refine ⟨r.keep.os, r.keep.tape, r.keep.output, by rw [size_setRow]; exact r.keep.size, fun k hk hn => ?_⟩
    have := r.keep.out k hk hn
    exact ⟨this.1, by rw [setRow_other _ _ _ _ (by omega)]; exact this.2⟩
  loc := fun j hj => by
    have hj' : j < s.nl := hj
    obtain ⟨h1, h2, t, h3⟩ := r.loc j hj'
    by_cases hji : j = i
    · subst hji
      refine ⟨h1, h2, t, ?_⟩
      simp only [St.setL, updSame]
      exact setRow_heap _ _ _ _ _ _ h3
    · refine ⟨h1, h2, t, ?_⟩
      simp only [St.setL, updNe _ _ hji]
      rw [setRow_other _ _ _ _ (fun e => hji (r.inj j i hj' hi e))]; exact h3
  inj := r.inj
  lt := r.lt

theorem Rel.setReal (r : Rel n w0 h0 s bs h a w) {b : Nat} {l l' : List Value} {t : TypeId} {fz : Nat × Nat} (hb : h b = some (.cells ⟨l⟩ t fz)) :
    Rel n w0 h0 s bs (h.put b (.cells ⟨l'⟩ t fz)) a (w.setRow b ⟨l'⟩) := by
  refine r.step ?_ ⟨rfl, rfl, rfl, by rw [size_setRow]; exact Nat.le_refl _, fun k hk hn => ?_⟩
  · intro k o hk
    simp only [PHeap.put] at hk
    split at hk
    · rename_i e; subst e; cases hk
      exact setRow_heap _ _ _ _ _ _ (r.sub _ _ hb)
    · rename_i e
      rw [setRow_other _ _ _ _ e]; exact r.sub _ _ hk
  · have : k ≠ b := fun e => by subst e; rw [hb] at hn; cases hn
    exact ⟨by simp only [PHeap.put]; rw [if_neg this]; exact hn, setRow_other _ _ _ _ this⟩
end
end Go.Den
