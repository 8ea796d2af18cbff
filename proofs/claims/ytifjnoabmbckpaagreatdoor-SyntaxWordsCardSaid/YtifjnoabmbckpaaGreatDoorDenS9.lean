import Derived.Test.YtifjnoabmbckpaaGreatDoorDenS8
namespace Go.Den
open Go
section
variable {P : Program} {n : Nat} {w0 : World} {h0 : PHeap} {esc : Nat → Bool} {ops : Array Oper}

theorem lowDraw_get : ∀ {l : List Oper} {sl : List (SOper × List Nat)}, lowDraw P esc ops l = some sl → ∀ i : Nat,
    (∀ o, l[i]? = some o → ∃ so, lowOper P esc ops o = some so ∧ sl[i]? = some (so, edges o)) ∧ (∀ so af, sl[i]? = some (so, af) → ∃ o, l[i]? = some o ∧ lowOper P esc ops o = some so ∧ af = edges o)
  | [], sl, hl, i => by cases hl; exact ⟨by simp, by simp⟩
  | x :: l, sl, hl, i => by
    unfold lowDraw at hl
    split at hl
    · rename_i y ys hy hys
      cases hl
      cases i with
      | zero =>
        refine ⟨fun o ho => ?_, fun so af hs => ?_⟩
        · simp at ho; subst ho; exact ⟨y, hy, by simp⟩
        · simp at hs; obtain ⟨rfl, rfl⟩ := hs; exact ⟨x, by simp, hy, rfl⟩
      | succ i => simpa using lowDraw_get hys i
    · cases hl

theorem memN_iff {k : Nat} : ∀ {l : List Nat}, memN k l = true ↔ k ∈ l
  | [] => by simp [memN]
  | x :: l => by
    simp only [memN]
    by_cases e : k = x
    · subst e; simp
    · simp [beqNe e, memN_iff (l := l), e]

theorem subN_iff {m : List Nat} : ∀ {l : List Nat}, subN l m = true ↔ ∀ k ∈ l, memN k m = true
  | [] => by simp [subN]
  | x :: l => by simp [subN, subN_iff (l := l)]

theorem readyL_iff {done : List Nat} : ∀ {l : List (SOper × List Nat)} {i : Nat} {p : Nat × SOper}, i ≤ p.1 → (∃ af, l[p.1 - i]? = some (p.2, af) ∧ memN p.1 done = false ∧ subN af done = true) → p ∈ readyL done i l
  | [], i, p, _, hp => by simp at hp
  | (o, af) :: l, i, p, hi, ⟨af', h1, h2, h3⟩ => by
    unfold readyL
    by_cases e : p.1 = i
    · subst e
      simp at h1
      obtain ⟨rfl, rfl⟩ := h1
      rw [h2, h3]
      simp
    · have hrec : p ∈ readyL done (i + 1) l := readyL_iff (by omega) ⟨af', by
        rw [show p.1 - i = (p.1 - (i + 1)) + 1 by omega] at h1; simpa using h1, h2, h3⟩
      split
      · exact List.mem_cons_of_mem _ hrec
      · exact hrec

theorem waitsN_sound {sl : List (SOper × List Nat)} (hl : lowDraw P esc ops ops.toList = some sl) {k i : Nat} (hw : waitsN sl k i = true) : Waits ops i k := by
  unfold waitsN at hw
  rw [nthL_eq] at hw
  split at hw
  · rename_i so af hs
    obtain ⟨o, ho, _, rfl⟩ := (lowDraw_get hl i).2 so af hs
    have ho' : ops[i]? = some o := by simpa using ho
    exact .one ho' (memN_iff.1 hw)
  · cases hw

/-- The lists of what has come up agree. -/
structure Lst (ops : Array Oper) (done : List Nat) (listed : Array Bool) : Prop where
  size : listed.size = ops.size
  eq : ∀ i, i < ops.size → listed.getD i false = memN i done
  lt : ∀ i, memN i done = true → i < ops.size

theorem Lst.set {done : List Nat} {listed : Array Bool} (hl : Lst ops done listed) {i : Nat} (hi : i < ops.size) : Lst ops (i :: done) (listed.setIfInBounds i true) where
  size := by simp [hl.size]
  eq := fun j hj => by
    simp only [memN]
    by_cases e : j = i
    · subst e
      simp [hl.size, hj]
    · rw [beqNe e, getD_set_ne false (Ne.symm e)]; exact hl.eq j hj
  lt := fun j hj => by
    simp only [memN] at hj
    by_cases e : j = i
    · subst e; exact hi
    · rw [beqNe e] at hj; exact hl.lt j hj

theorem Lst.not {done : List Nat} {listed : Array Bool} (hl : Lst ops done listed) {i : Nat} (hi : i < ops.size) : listed.getD i true = memN i done := by
  have := hl.eq i hi
  rw [Array.getD_eq_getD_getElem?] at this ⊢
  have hsz : i < listed.size := by rw [hl.size]; exact hi
  rw [Array.getElem?_eq_getElem hsz] at this ⊢
  exact this

theorem Lst.edge {done : List Nat} {listed : Array Bool} (hl : Lst ops done listed) {k : Nat} : (listed.getD k false = true) ↔ memN k done = true := by
  rcases Nat.lt_or_ge k ops.size with h1 | h1
  · rw [hl.eq k h1]
  · constructor
    · intro h2
      rw [Array.getD_eq_getD_getElem?, Array.getElem?_eq_none (by rw [hl.size]; exact h1)] at h2
      cases h2
    · intro h2; have := hl.lt k h2; omega

theorem ready_iff {sl : List (SOper × List Nat)} (hlow : lowDraw P esc ops ops.toList = some sl) {done : List Nat} {listed : Array Bool} (hl : Lst ops done listed) {i : Nat} :
    i ∈ Region.ready .any ops listed ↔ ∃ so, (i, so) ∈ readyL done 0 sl := by
  rw [mem_ready]
  constructor
  · rintro ⟨hun, o, ho, hall⟩
    have hi : i < ops.size := (Array.getElem?_eq_some_iff.1 ho).1
    obtain ⟨so, hso, hs⟩ := (lowDraw_get hlow i).1 o (by simpa using ho)
    refine ⟨so, readyL_iff (Nat.zero_le _) ⟨edges o, by simpa using hs, ?_, ?_⟩⟩
    · rw [← hl.not hi]; exact hun
    · rw [subN_iff]
      intro k hk
      obtain ⟨e, he, hb, rfl⟩ := mem_edges.1 hk
      exact hl.edge.1 (hall e he hb)
  · rintro ⟨so, hso⟩
    obtain ⟨af, _, _, hget, hnot, hsub⟩ := readyL_mem hso
    obtain ⟨o, ho, _, rfl⟩ := (lowDraw_get hlow i).2 so af (by simpa using hget)
    have ho' : ops[i]? = some o := by simpa using ho
    have hi : i < ops.size := (Array.getElem?_eq_some_iff.1 ho').1
    refine ⟨by rw [hl.not hi]; exact hnot, o, ho', fun e he hb => ?_⟩
    exact hl.edge.2 (subN_iff.1 hsub e.on (mem_edges.2 ⟨e, he, hb, rfl⟩))

/-- What the pending reads ask, abstractly and concretely. -/
def PenRel (n : Nat) (w0 : World) (h0 : PHeap) (k : Nat) (bs : Nat → Nat) (p : Nat × (St → PHeap → Prop)) (q : Nat × (World → Prop)) : Prop :=
  p.1 = q.1 ∧ ∀ s' bs' h' a' w', Rel n w0 h0 s' bs' h' a' w' → Agree k bs bs' → k ≤ s'.nl → p.2 s' h' → q.2 w'

theorem PenRel.agree {k k' : Nat} {bs bs' : Nat → Nat} (hag : Agree k bs bs') (hk : k ≤ k') {p : Nat × (St → PHeap → Prop)} {q : Nat × (World → Prop)} (hp : PenRel n w0 h0 k bs p q) : PenRel n w0 h0 k' bs' p q :=
  ⟨hp.1, fun s' bs'' h' a' w' r hag' hk' hs => hp.2 s' bs'' h' a' w' r (fun i hi => (hag' i (Nat.lt_of_lt_of_le hi hk)).trans (hag i hi)) (Nat.le_trans hk hk') hs⟩

def Pens (n : Nat) (w0 : World) (h0 : PHeap) (k : Nat) (bs : Nat → Nat) : Pen → PenW → Prop
  | [], [] => True
  | p :: ps, q :: qs => PenRel n w0 h0 k bs p q ∧ Pens n w0 h0 k bs ps qs
  | _, _ => False

theorem Pens.agree {k k' : Nat} {bs bs' : Nat → Nat} (hag : Agree k bs bs') (hk : k ≤ k') : ∀ {ps : Pen} {qs : PenW}, Pens n w0 h0 k bs ps qs → Pens n w0 h0 k' bs' ps qs
  | [], [], _ => trivial
  | _ :: _, _ :: _, h => ⟨h.1.agree hag hk, Pens.agree hag hk h.2⟩

/-- From the look at the pending reads behind an operation. -/
theorem penOk_sound {sl : List (SOper × List Nat)} {i k : Nat} {bs bs' : Nat → Nat} {s' : St} {h' : PHeap} {a' : Act} {w' : World} (r : Rel n w0 h0 s' bs' h' a' w') (hag : Agree k bs bs') (hk : k ≤ s'.nl) :
    ∀ {ps : Pen} {qs : PenW} {R : Pen → Prop}, Pens n w0 h0 k bs ps qs → penOk sl i s' h' ps R →
      ∃ ps', R ps' ∧ (∀ q ∈ qs, waitsN sl q.1 i = false → q.2 w') ∧ Pens n w0 h0 k bs ps' (qs.filter fun q => !waitsN sl q.1 i) ∧ (∀ p ∈ ps', p.2 s' h')
  | [], [], R, _, hp => ⟨[], hp, by simp, trivial, by simp⟩
  | p :: ps, q :: qs, R, hpen, hp => by
    obtain ⟨⟨hpq, hpq2⟩, hrest⟩ := hpen
    unfold penOk at hp
    split at hp
    · rename_i hw
      obtain ⟨ps', h1, h2, h3, h4⟩ := penOk_sound r hag hk hrest hp
      refine ⟨ps', h1, fun q' hq' hn => ?_, ?_, h4⟩
      · cases hq' with
        | head => rw [← hpq] at hn; rw [hw] at hn; cases hn
        | tail _ ht => exact h2 q' ht hn
      · rw [List.filter_cons, if_neg]
        · exact h3
        · rw [← hpq, hw]; decide
    · rename_i hw
      obtain ⟨ps', h1, h2, h3, h4⟩ := penOk_sound r hag hk hrest hp.2
      have hS := hpq2 s' bs' h' a' w' r hag hk hp.1
      refine ⟨_, h1, fun q' hq' hn => ?_, ?_, ?_⟩
      · cases hq' with
        | head => exact hS
        | tail _ ht => exact h2 q' ht hn
      · rw [List.filter_cons, if_pos (by rw [← hpq, hw]; decide)]
        exact ⟨⟨hpq, hpq2⟩, h3⟩
      · intro p' hp'
        cases hp' with
        | head => exact hp.1
        | tail _ ht => exact h4 p' ht
end
end Go.Den
