import Derived.Test.YtifjnoabmbckpaaGreatDoorNes2
/- Heap lemmas and the parser's state. -/
namespace Go.Proofs.D
open Go Go.Den Go.Sx

theorem br_pos {c : Bool} {X Y : Prop} (h : c = true) (x : X) : br c X Y := by subst h; exact x
theorem br_neg {c : Bool} {X Y : Prop} (h : c = false) (y : Y) : br c X Y := by subst h; exact y

theorem put_same (h : PHeap) (b : Nat) (o : Obj) : (h.put b o) b = some o := if_pos rfl
theorem put_ne {h : PHeap} {k b : Nat} {o : Obj} (hk : k ≠ b) : (h.put b o) k = h k := if_neg hk
theorem put_put (h : PHeap) (b : Nat) (o o' : Obj) : (h.put b o).put b o' = h.put b o' := by
  funext k; simp only [PHeap.put]; split <;> rfl
theorem cell_of {h : PHeap} {b : Nat} {l : List Value} {t : TypeId} {z : Nat × Nat} (hb : h b = some (.cells ⟨l⟩ t z)) (o : Nat) : h.cell b o = l[o]? := by
  simp [PHeap.cell, hb]
theorem cell_eq {h h' : PHeap} {b : Nat} (e : h' b = h b) (o : Nat) : h'.cell b o = h.cell b o := by simp only [PHeap.cell, e]
theorem row_eq {h h' : PHeap} {b : Nat} (e : h' b = h b) : ∀ (l : List Value) (o : Nat), h.row b o l → h'.row b o l
  | [], _, _ => trivial
  | [v], o, hr => by show h'.cell b o = _; rw [cell_eq e]; exact hr
  | v :: w :: l, o, hr => ⟨by rw [cell_eq e]; exact hr.1, row_eq e (w :: l) (o + 1) hr.2⟩
theorem row_get {h : PHeap} {b : Nat} : ∀ {l : List Value} {o j : Nat} {v : Value}, h.row b o l → l[j]? = some v → h.cell b (o + j) = some v
  | [], _, _, _, _, hj => by simp at hj
  | [w], o, 0, v, hr, hj => by simp at hj; subst hj; exact hr
  | [w], o, j + 1, v, hr, hj => by simp at hj
  | w :: x :: l, o, 0, v, hr, hj => by simp at hj; subst hj; exact hr.1
  | w :: x :: l, o, j + 1, v, hr, hj => by
    have := row_get (l := x :: l) (j := j) hr.2 (by simpa using hj)
    rw [show o + (j + 1) = o + 1 + j by omega]; exact this
/-- The row of a block's literal. -/
theorem row_lit {h : PHeap} {b : Nat} {l : List Value} {t : TypeId} {z : Nat × Nat} (hb : h b = some (.cells ⟨l⟩ t z)) {o : Nat} {vs : List Value} (hv : ∀ j v, vs[j]? = some v → l[o + j]? = some v) : h.row b o vs :=
  Go.Den.row_of vs o fun j v hj => by rw [cell_of hb]; exact hv j v hj

/-- What was there stays. -/
def Ext (h h' : PHeap) : Prop := ∀ k o, h k = some o → h' k = some o
/-- What was there stays, but for a block. -/
def Away (p : Nat) (h h' : PHeap) : Prop := ∀ k o, k ≠ p → h k = some o → h' k = some o
/-- Nothing changes but a block. -/
def Chg (p : Nat) (h h' : PHeap) : Prop := ∀ k, k ≠ p → h' k = h k

theorem Ext.refl (h : PHeap) : Ext h h := fun _ _ x => x
theorem Ext.trans {a b c : PHeap} (x : Ext a b) (y : Ext b c) : Ext a c := fun k o z => y k o (x k o z)
theorem Ext.put {h : PHeap} {b : Nat} (hb : h b = none) (o : Obj) : Ext h (h.put b o) := fun k o' hk => by
  have : k ≠ b := fun e => by subst e; rw [hb] at hk; cases hk
  rw [put_ne this]; exact hk
theorem Away.refl (p : Nat) (h : PHeap) : Away p h h := fun _ _ _ x => x
theorem Away.trans {p : Nat} {a b c : PHeap} (x : Away p a b) (y : Away p b c) : Away p a c := fun k o hk z => y k o hk (x k o hk z)
theorem Ext.away {p : Nat} {a b : PHeap} (x : Ext a b) : Away p a b := fun k o _ z => x k o z
theorem Chg.away {p : Nat} {a b : PHeap} (x : Chg p a b) : Away p a b := fun k o hk z => by rw [x k hk]; exact z
theorem Chg.refl (p : Nat) (h : PHeap) : Chg p h h := fun _ _ => rfl
theorem Chg.trans {p : Nat} {a b c : PHeap} (x : Chg p a b) (y : Chg p b c) : Chg p a c := fun k hk => (y k hk).trans (x k hk)
theorem Chg.put (p : Nat) (h : PHeap) (o : Obj) : Chg p h (h.put p o) := fun _ hk => put_ne hk

theorem cell_ext {h h' : PHeap} {b o : Nat} {v : Value} (x : ∀ ob, h b = some ob → h' b = some ob) (hc : h.cell b o = some v) : h'.cell b o = some v := by
  unfold PHeap.cell at hc
  split at hc
  · rename_i c t z hb
    simp only [PHeap.cell, x _ hb]; exact hc
  · cases hc
theorem row_ext {h h' : PHeap} {b : Nat} (x : ∀ ob, h b = some ob → h' b = some ob) : ∀ {l : List Value} {o : Nat}, h.row b o l → h'.row b o l
  | [], _, _ => trivial
  | [v], o, hr => cell_ext x hr
  | v :: w :: l, o, hr => ⟨cell_ext x hr.1, row_ext x (l := w :: l) hr.2⟩

/-! ### Tokens in memory -/

def tokC (s : Bytes) (t : Tok) : List Value := [vI t.kind, vS t.text, vI t.value, vS t.bytes, vI (place s t.pos).1, vI (place s t.pos).2]

def TokRow (s : Bytes) (h : PHeap) (b : Nat) : Nat → List Tok → Prop
  | _, [] => True
  | o, t :: ts => h.row b o (tokC s t) ∧ TokRow s h b (o + 6) ts

theorem TokRow.ext {s : Bytes} {h h' : PHeap} {b : Nat} (x : ∀ ob, h b = some ob → h' b = some ob) : ∀ {ts : List Tok} {o : Nat}, TokRow s h b o ts → TokRow s h' b o ts
  | [], _, _ => trivial
  | _ :: _, _, hr => ⟨row_ext x hr.1, TokRow.ext x hr.2⟩

theorem _root_.Go.Sx.Ended.tail {ts : List Tok} (h : Ended ts) (hk : (hd ts).kind ≠ 0) : Ended ts.tail ∧ 2 ≤ ts.length ∧ ts = hd ts :: ts.tail := by
  match ts, h with
  | t :: ts, .inl ⟨h, _⟩ => exact absurd h hk
  | t :: ts, .inr ⟨_, h⟩ =>
    refine ⟨h, ?_, rfl⟩
    cases ts with
    | nil => exact h.elim
    | cons _ _ => simp only [List.length_cons]; omega
theorem _root_.Go.Sx.Ended.cons {ts : List Tok} (h : Ended ts) : ts = hd ts :: ts.tail := by
  match ts, h with
  | t :: ts, _ => rfl

/-! ### The parser's state -/

def PB (sl : Value) (d : Int) (m : Nat) (l k e : Int) : Obj := .cells ⟨[sl, vI d, vM m, vI l, vI k, vI e]⟩ 81 (0, 0)

/-- The readers of statements, by their first words. -/
def smap (p q : Nat) : Array MapEntry := #[
  ⟨vS [118, 97, 114], vF 36 [vP p 0] [], 0⟩,
  ⟨vS [105, 102], vF 37 [vP p 0] [], 1⟩,
  ⟨vS [119, 104, 105, 108, 101], vF 38 [vP p 0] [], 2⟩,
  ⟨vS [114, 101, 116, 117, 114, 110], vF 39 [vP p 0] [], 3⟩,
  ⟨vS [98, 114, 101, 97, 107], vF 40 [] [vP q 0], 4⟩,
  ⟨vS [99, 111, 110, 116, 105, 110, 117, 101], vF 42 [] [vP q 0], 5⟩]

/-- The blocks that stay while a text is read: the tokens, the readers, the box of the parser's address. -/
structure PK where
  tok : Nat
  map : Nat
  box : Nat
  clock : Nat

structure PK.In (K : PK) (h : PHeap) (p : Nat) : Prop where
  tok : h K.tok ≠ none
  map : h K.map ≠ none
  box : h K.box ≠ none
  tokp : K.tok ≠ p
  mapp : K.map ≠ p
  boxp : K.box ≠ p

structure POk (K : PK) (s : Bytes) (h : PHeap) (p : Nat) (ts : List Tok) (d : Int) : Prop where
  ex : ∃ o c l k, h p = some (PB (vL (ad K.tok o) ts.length c) d K.map l k 0) ∧ TokRow s h K.tok o ts ∧ ts.length ≤ c ∧ h K.map = some (.map (smap p K.box) K.clock) ∧ h K.box = some (.cells ⟨[vP p 0]⟩ 78 (0, 0))
  isin : K.In h p
  ended : Ended ts
  lo : (ts.length : Int) - 1000000 ≤ d
  hi : d ≤ 32
  len : ts.length ≤ 100000
  wf : ∀ t ∈ ts, t.kind = 5 → words.contains t.text = false

def PErr (K : PK) (s : Bytes) (h : PHeap) (p : Nat) (e : Nat × Nat) : Prop :=
  e.1 ≠ 0 ∧ K.In h p ∧ ∃ a n c d m, h p = some (PB (vL a n c) d m (place s e.2).1 (place s e.2).2 e.1)

def PS {α : Type} (K : PK) (s : Bytes) (h : PHeap) (p : Nat) : R α → Prop
  | .error e => PErr K s h p e
  | .ok (_, ts, d) => POk K s h p ts d

/-- Blocks of a kind stay. -/
def Stay (D : Nat → Prop) (h h' : PHeap) : Prop := ∀ k o, D k → h k = some o → h' k = some o
theorem Stay.ne {D : Nat → Prop} {h h' : PHeap} (x : Stay D h h') {k : Nat} (hk : D k) (hn : h k ≠ none) : h' k ≠ none := by
  cases e : h k with
  | none => exact absurd e hn
  | some o => rw [x k o hk e]; exact fun e => by cases e
def PK.blocks (K : PK) (p k : Nat) : Prop := k = p ∨ k = K.tok ∨ k = K.map ∨ k = K.box

theorem PK.In.stay {K : PK} {h h' : PHeap} {p : Nat} (x : Stay (K.blocks p) h h') (hI : K.In h p) : K.In h' p :=
  ⟨x.ne (.inr (.inl rfl)) hI.tok, x.ne (.inr (.inr (.inl rfl))) hI.map, x.ne (.inr (.inr (.inr rfl))) hI.box, hI.tokp, hI.mapp, hI.boxp⟩
theorem PS.stay {α : Type} {K : PK} {s : Bytes} {h h' : PHeap} {p : Nat} {r : R α} (x : Stay (K.blocks p) h h') (hP : PS K s h p r) : PS K s h' p r := by
  match r, hP with
  | .error e, hP =>
    obtain ⟨h0, hI, a, n, c, d, m, h1⟩ := hP
    exact ⟨h0, hI.stay x, a, n, c, d, m, x _ _ (.inl rfl) h1⟩
  | .ok (_, ts, d), hP =>
    obtain ⟨⟨o, c, l, k, h1, h3, h4, h6, h8⟩, hI, e1, e2, e3, e4, e5⟩ := hP
    exact ⟨⟨o, c, l, k, x _ _ (.inl rfl) h1, h3.ext (fun ob => x _ ob (.inr (.inl rfl))), h4, x _ _ (.inr (.inr (.inl rfl))) h6, x _ _ (.inr (.inr (.inr rfl))) h8⟩, hI.stay x, e1, e2, e3, e4, e5⟩
theorem PS.ext {α : Type} {K : PK} {s : Bytes} {h h' : PHeap} {p : Nat} {r : R α} (x : Ext h h') (hP : PS K s h p r) : PS K s h' p r := hP.stay fun k o _ => x k o
theorem POk.ext {K : PK} {s : Bytes} {h h' : PHeap} {p : Nat} {ts : List Tok} {d : Int} (x : Ext h h') (hP : POk K s h p ts d) : POk K s h' p ts d := PS.ext (r := (.ok ((), ts, d) : R Unit)) x hP
theorem PErr.ext {K : PK} {s : Bytes} {h h' : PHeap} {p : Nat} {e : Nat × Nat} (x : Ext h h') (hP : PErr K s h p e) : PErr K s h' p e := PS.ext (r := (.error e : R Unit)) x hP
theorem PS.isin {α : Type} {K : PK} {s : Bytes} {h : PHeap} {p : Nat} {r : R α} (hP : PS K s h p r) : K.In h p := by
  match r, hP with
  | .error e, hP => exact hP.2.1
  | .ok (_, ts, d), hP => exact POk.isin hP

def isKr {α : Type} (r : R α) (k : Nat) : Bool :=
  match r with
  | .error _ => false
  | .ok (_, ts, _) => isK ts k
def isTr {α : Type} (r : R α) (t : Bytes) : Bool :=
  match r with
  | .error _ => false
  | .ok (_, ts, _) => isT ts t
def failR {α β : Type} (r : R α) (e : Nat) : R β :=
  match r with
  | .error x => .error x
  | .ok (_, ts, _) => .error (e, (hd ts).pos)
end Go.Proofs.D
/- The parser's small functions. -/
namespace Go.Proofs.D
open Go Go.Den Go.Sx
set_option maxRecDepth 100000
attribute [local irreducible] IntKind.wrap

section
variable {α β : Type} {K : PK} {s : Bytes} {h : PHeap} {p : Nat} {r : R α} {ts : List Tok} {d : Int}

theorem PB_cell {sl : Value} {m : Nat} {l k e : Int} (hp : h p = some (PB sl d m l k e)) (o : Nat) : h.cell p o = [sl, vI d, vM m, vI l, vI k, vI e][o]? := cell_of hp o

theorem kind_beq (a b : Nat) : ((a : Int) == (b : Int)) = (a == b) := by
  rw [Bool.eq_iff_iff]; simp; omega

theorem POk.row {a o : Nat} (hT : TokRow s h a o ts) (he : Ended ts) : h.row a o (tokC s (hd ts)) := by
  rw [he.cons] at hT; exact hT.1

theorem len_pos (he : Ended ts) : (0 : Int) < (ts.length : Nat) := by
  rw [he.cons]; simp only [List.length_cons]; omega

theorem err_ne {e : Nat × Nat} (h0 : e.1 ≠ 0) : ((e.1 : Int) == 0) = false := by
  rw [show ((e.1 : Int) == 0) = (e.1 == 0) from kind_beq e.1 0]; simpa using h0

theorem PK.In.chg {h' : PHeap} (x : Chg p h h') (hI : K.In h p) : K.In h' p :=
  ⟨by rw [x _ hI.tokp]; exact hI.tok, by rw [x _ hI.mapp]; exact hI.map, by rw [x _ hI.boxp]; exact hI.box, hI.tokp, hI.mapp, hI.boxp⟩

theorem isKind_tri (hP : PS K s h p r) (k : Nat) : Tri Tryz.prog 43 [vP p 0, vI k] h fun v h' => v = vB (isKr r k) ∧ h' = h := by
  refine T43 ?_
  unfold R43
  match r, hP with
  | .error e, hP =>
    obtain ⟨h0, hI, a, n, c, d, m, hp⟩ := hP
    refine ⟨_, PB_cell hp 5, ?_⟩
    exact br_neg (err_ne h0) ⟨rfl, rfl⟩
  | .ok (x, ts, d), hP =>
    obtain ⟨⟨o, c, l, k', hp, hT, hc, _⟩, hI, he, _⟩ := hP
    refine ⟨_, PB_cell hp 5, br_pos rfl ⟨_, _, _, PB_cell hp 0, K.tok, o, rfl, ⟨Int.le_refl _, len_pos he⟩, _, (POk.row hT he).1, ?_, rfl⟩⟩
    rw [kind_beq]; rfl

theorem is_tri (hP : PS K s h p r) (t : Bytes) : Tri Tryz.prog 44 [vP p 0, vS t] h fun v h' => v = vB (isTr r t) ∧ h' = h := by
  refine T44 ?_
  unfold R44
  refine Tri.mono (isKind_tri hP 4) ?_
  rintro _ h ⟨rfl, rfl⟩
  refine ⟨_, rfl, ?_⟩
  match r, hP with
  | .error e, hP =>
    refine br_neg rfl ?_
    refine Tri.mono (isKind_tri (r := (.error e : R α)) hP 5) ?_
    rintro _ h ⟨rfl, rfl⟩
    exact ⟨_, rfl, br_neg rfl ⟨rfl, rfl⟩⟩
  | .ok (x, ts, d), hP =>
    have hP' := hP
    obtain ⟨⟨o, c, l, k', hp, hT, hc, _⟩, hI, he, _⟩ := hP
    refine br_split (fun h1 => ?_) (fun h1 => ?_)
    · refine ⟨_, _, _, PB_cell hp 0, K.tok, o, rfl, ⟨Int.le_refl _, len_pos he⟩, _, (POk.row hT he).2.1, ?_, rfl⟩
      simp only [isKr, isK] at h1
      simp [isTr, isT, h1]
    · refine Tri.mono (isKind_tri (r := (.ok (x, ts, d) : R α)) hP' 5) ?_
      rintro _ h ⟨rfl, rfl⟩
      refine ⟨_, rfl, ?_⟩
      simp only [isKr, isK] at h1
      refine br_split (fun h2 => ?_) (fun h2 => ?_)
      · refine ⟨_, _, _, PB_cell hp 0, K.tok, o, rfl, ⟨Int.le_refl _, len_pos he⟩, _, (POk.row hT he).2.1, ?_, rfl⟩
        simp only [isKr, isK] at h2
        simp [isTr, isT, h1, h2]
      · simp only [isKr, isK] at h2
        refine ⟨?_, rfl⟩
        simp [isTr, isT, h1, h2]

theorem fail_tri (hP : PS K s h p r) (e : Nat) (h0 : e ≠ 0) : Tri Tryz.prog 47 [vP p 0, vI e] h fun v h' => v = vT [] ∧ Chg p h h' ∧ PS K s h' p (failR r e : R β) := by
  refine T47 ?_
  unfold R47
  match r, hP with
  | .error x, hP =>
    have hP' := hP
    obtain ⟨h1, hI, a, n, c, d, m, hp⟩ := hP
    refine ⟨_, PB_cell hp 5, ?_⟩
    exact br_neg (err_ne h1) ⟨rfl, Chg.refl _ _, hP'⟩
  | .ok (x, ts, d), hP =>
    obtain ⟨⟨o, c, l, k', hp, hT, hc, _⟩, hI, he, _⟩ := hP
    have hr := POk.row hT he
    refine ⟨_, PB_cell hp 5, br_pos rfl ⟨_, _, _, PB_cell hp 0, K.tok, o, rfl, ⟨Int.le_refl _, len_pos he⟩, _, hr.2.2.2.2.1, _, _, _, PB_cell hp 0, K.tok, o, rfl, ⟨Int.le_refl _, len_pos he⟩, _, hr.2.2.2.2.2, _, _, _, hp, ⟨by simp, Nat.zero_le _⟩, ?_⟩⟩
    rintro h1 rfl
    refine ⟨_, _, _, put_same _ _ _, ⟨by simp [splice], Nat.zero_le _⟩, ?_⟩
    rintro h1 rfl
    refine ⟨_, _, _, put_same _ _ _, ⟨by simp [splice], Nat.zero_le _⟩, ?_⟩
    rintro h1 rfl
    rw [put_put, put_put]
    refine ⟨rfl, Chg.put _ _ _, h0, hI.chg (Chg.put _ _ _), ad K.tok o, ts.length, c, d, K.map, ?_⟩
    rw [put_same]; rfl

theorem SlA_get {a o c : Nat} {a1 : Option Addr} (hs : SlA (ad a o) a1 1 c 6) (hc : 2 ≤ c) : a1 = ad a (o + 6) := by
  obtain ⟨o', h1, h2⟩ := hs.1 a o rfl
  rw [h1, h2 (.inl (by omega))]

theorem advance_tri (hP : POk K s h p ts d) (hk : (hd ts).kind ≠ 0) : Tri Tryz.prog 139 [vP p 0] h fun v h' => v = vA (tokC s (hd ts)) ∧ Chg p h h' ∧ POk K s h' p ts.tail d := by
  refine T139 ?_
  unfold R139
  obtain ⟨⟨o, c, l, k', hp, hT, hc, hM, hq'⟩, hI, he, hlo, hhi, hl, hwf⟩ := hP
  have hr := POk.row hT he
  obtain ⟨he', h2, hcons⟩ := he.tail hk
  refine ⟨_, _, _, PB_cell hp 0, K.tok, o, rfl, ⟨Int.le_refl _, len_pos he⟩, _, _, _, _, _, _, hr, _, _, _, PB_cell hp 0, ⟨.inl ⟨K.tok, o, rfl⟩, by decide, by omega, by omega⟩, ?_⟩
  intro a1 hs
  have ha1 := SlA_get hs (by omega)
  subst ha1
  refine ⟨_, _, _, hp, ⟨by simp, Nat.zero_le _⟩, ?_⟩
  rintro h1 rfl
  have hlen : ts.tail.length = ts.length - 1 := List.length_tail
  refine ⟨rfl, Chg.put _ _ _, ⟨o + 6, c - 1, l, k', ?_, ?_, by omega, ?_, ?_⟩, hI.chg (Chg.put _ _ _), he', by omega, hhi, by omega, fun t ht => hwf t (List.mem_of_mem_tail ht)⟩
  · rw [put_same, hlen]; rfl
  · rw [hcons] at hT
    exact hT.2.ext fun ob hob => by rw [put_ne hI.tokp]; exact hob
  · rw [put_ne hI.mapp]; exact hM
  · rw [put_ne hI.boxp]; exact hq'

/-- The state behind an attempt at a token. -/
def accR (r : R α) (t : Bytes) : R Unit :=
  match r with
  | .error e => .error e
  | .ok (_, ts, d) => if isT ts t then takeT t ts d else .ok ((), ts, d)
def accB (r : R α) (t : Bytes) : Bool :=
  match r with
  | .error _ => false
  | .ok (_, ts, d) => isT ts t && !(opens t && d == 32)

theorem isT_kind {t : Bytes} (hi : isT ts t = true) : (hd ts).kind ≠ 0 := by
  unfold isT at hi
  intro e
  rw [e] at hi; simp at hi

theorem POk.depth (hP : POk K s h p ts d) (d' : Int) (h1 : (ts.length : Int) - 1 - 1000000 ≤ d') (h2 : d' ≤ 32) (hk : (hd ts).kind ≠ 0) {l : List Value} {t : TypeId} {z : Nat × Nat} (hl : h p = some (.cells ⟨l⟩ t z)) :
    Tri Tryz.prog 139 [vP p 0] (h.put p (.cells ⟨splice l 1 [vI d']⟩ t z)) fun v h' => (∃ k tx vl b ln cl, v = vA [vI k, vS tx, vI vl, vS b, vI ln, vI cl]) ∧ Chg p h h' ∧ POk K s h' p ts.tail d' := by
  obtain ⟨⟨o, c, l', k', hp, hT, hc, hM, hq'⟩, hI, he, hlo, hhi, hl2, hwf⟩ := hP
  rw [hp] at hl
  cases hl
  refine T139 ?_
  unfold R139
  have hg : ∀ k, k ≠ p → (h.put p (.cells ⟨splice [vL (ad K.tok o) ts.length c, vI d, vM K.map, vI l', vI k', vI 0] 1 [vI d']⟩ 81 (0, 0))) k = h k := fun k hk => put_ne hk
  have hp2 : (h.put p (.cells ⟨splice [vL (ad K.tok o) ts.length c, vI d, vM K.map, vI l', vI k', vI 0] 1 [vI d']⟩ 81 (0, 0))) p = some (PB (vL (ad K.tok o) ts.length c) d' K.map l' k' 0) := put_same _ _ _
  generalize h.put p (.cells ⟨splice [vL (ad K.tok o) ts.length c, vI d, vM K.map, vI l', vI k', vI 0] 1 [vI d']⟩ 81 (0, 0)) = g at *
  have hT2 : TokRow s g K.tok o ts := hT.ext fun ob hob => by rw [hg K.tok hI.tokp]; exact hob
  have hr := POk.row hT2 he
  obtain ⟨he', h2', hcons⟩ := he.tail hk
  refine ⟨_, _, _, PB_cell hp2 0, K.tok, o, rfl, ⟨Int.le_refl _, len_pos he⟩, _, _, _, _, _, _, hr, _, _, _, PB_cell hp2 0, ⟨.inl ⟨K.tok, o, rfl⟩, by decide, by omega, by omega⟩, ?_⟩
  intro a1 hs
  have ha1 := SlA_get hs (by omega)
  subst ha1
  refine ⟨_, _, _, hp2, ⟨by simp, Nat.zero_le _⟩, ?_⟩
  rintro h1 rfl
  have hlen : ts.tail.length = ts.length - 1 := List.length_tail
  refine ⟨⟨_, _, _, _, _, _, rfl⟩, fun k hk => by rw [put_ne hk, hg k hk], ⟨o + 6, c - 1, l', k', ?_, ?_, by omega, ?_, ?_⟩, hI.chg (fun k hk => by rw [put_ne hk, hg k hk]), he', by omega, h2, by omega, fun t ht => hwf t (List.mem_of_mem_tail ht)⟩
  · rw [put_same, hlen]; rfl
  · rw [hcons] at hT2
    exact hT2.2.ext fun ob hob => by rw [put_ne hI.tokp]; exact hob
  · rw [put_ne hI.mapp, hg K.map hI.mapp]; exact hM
  · rw [put_ne hI.boxp, hg K.box hI.boxp]; exact hq'

theorem wrap64 {n : Int} (h1 : -9223372036854775808 ≤ n) (h2 : n ≤ 9223372036854775807) : IntKind.i64.wrap n = n := Go.Proofs.L.wrap64 h1 h2

theorem accept_tri (hP : PS K s h p r) (t : Bytes) : Tri Tryz.prog 90 [vP p 0, vS t] h fun v h' => v = vB (accB r t) ∧ Chg p h h' ∧ PS K s h' p (accR r t) := by
  refine T90 ?_
  unfold R90
  refine Tri.mono (is_tri hP t) ?_
  rintro _ h ⟨rfl, rfl⟩
  refine ⟨_, rfl, ?_⟩
  match r, hP with
  | .error e, hP => exact br_pos rfl ⟨rfl, Chg.refl _ _, hP⟩
  | .ok (x, ts, d), hP =>
    refine br_split (fun h1 => ?_) (fun h1 => ?_)
    · have h1 : isT ts t = false := by simpa [isTr] using h1
      refine ⟨?_, Chg.refl _ _, ?_⟩
      · simp [accB, h1]
      · simp only [accR, h1]; exact hP
    have h1 : isT ts t = true := by simpa [isTr] using h1
    have hk := isT_kind h1
    have hP' : POk K s h p ts d := hP
    have hP2 := hP'
    obtain ⟨⟨o, c, l', k', hp, hT, hc, hM, hq'⟩, hI, he, hlo, hhi, hl2, hwf⟩ := hP2
    have hlen := len_pos he
    have key : ∀ {d' : Int} {t' : Bytes}, ((ts.length : Int) - 1 - 1000000 ≤ d') → d' ≤ 32 → accB (.ok (x, ts, d) : R α) t' = true → accR (.ok (x, ts, d) : R α) t' = .ok ((), ts.tail, d') →
        Tri Tryz.prog 139 [vP p 0] (h.put p (.cells ⟨splice [vL (ad K.tok o) ts.length c, vI d, vM K.map, vI l', vI k', vI 0] 1 [vI d']⟩ 81 (0, 0))) fun v h' => ∃ k tx vl b ln cl, v = vA [vI k, vS tx, vI vl, vS b, vI ln, vI cl] ∧ vB true = vB (accB (.ok (x, ts, d) : R α) t') ∧ Chg p h h' ∧ PS K s h' p (accR (.ok (x, ts, d) : R α) t') := by
      intro d' t' g1 g2 g3 g4
      refine Tri.mono (hP'.depth d' g1 g2 hk hp) ?_
      rintro v h' ⟨⟨k, tx, vl, b, ln, cl, rfl⟩, hc, hok⟩
      exact ⟨k, tx, vl, b, ln, cl, rfl, by rw [g3], hc, by rw [g4]; exact hok⟩
    have opn : ∀ {t' : Bytes}, isT ts t' = true → opens t' = true → closes t' = false →
      (∃ i1, h.cell p 1 = some (vI i1) ∧ br (i1 == 32) (Tri Tryz.prog 47 [vP p 0, vI 9] h fun v_2 h_2 => v_2 = vT [] ∧ vB false = vB (accB (.ok (x, ts, d) : R α) t') ∧ Chg p h h_2 ∧ PS K s h_2 p (accR (.ok (x, ts, d) : R α) t'))
        (∃ i2, h.cell p 1 = some (vI i2) ∧ ∃ l1 t1 z1, h p = some (.cells ⟨l1⟩ t1 z1) ∧ (0 + 1 + 1 ≤ l1.length ∧ z1.2 ≤ 0 + 1) ∧ ∀ h_3, h_3 = h.put p (.cells ⟨splice l1 (0 + 1) [vI (IntKind.i64.wrap (i2 + 1))]⟩ t1 z1) →
          Tri Tryz.prog 139 [vP p 0] h_3 fun v h' => ∃ k tx vl b ln cl, v = vA [vI k, vS tx, vI vl, vS b, vI ln, vI cl] ∧ vB true = vB (accB (.ok (x, ts, d) : R α) t') ∧ Chg p h h' ∧ PS K s h' p (accR (.ok (x, ts, d) : R α) t'))) := by
      intro t' g1 g2 g3
      refine ⟨d, PB_cell hp 1, ?_⟩
      refine br_split (fun e => ?_) (fun e => ?_)
      · have e : d = 32 := by simpa using e
        refine Tri.mono (fail_tri (β := Unit) (r := (.ok (x, ts, d) : R α)) hP' 9 (by decide)) ?_
        rintro v h' ⟨rfl, hc, hf⟩
        refine ⟨rfl, ?_, hc, ?_⟩
        · simp [accB, g1, g2, e]
        · simp only [accR, g1, takeT, g2, e, failR] at hf ⊢; exact hf
      · have e : d ≠ 32 := by simpa using e
        refine ⟨d, PB_cell hp 1, _, _, _, hp, ⟨by simp, Nat.zero_le _⟩, ?_⟩
        rintro h3 rfl
        rw [wrap64 (by omega) (by omega)]
        refine key (by omega) (by omega) ?_ ?_
        · simp [accB, g1, g2, e]
        · simp [accR, g1, takeT, g2, e]
    have cls : ∀ {t' : Bytes}, isT ts t' = true → opens t' = false → closes t' = true →
        (∃ i2, h.cell p 1 = some (vI i2) ∧ ∃ l1 t1 z1, h p = some (.cells ⟨l1⟩ t1 z1) ∧ (0 + 1 + 1 ≤ l1.length ∧ z1.2 ≤ 0 + 1) ∧ ∀ h_3, h_3 = h.put p (.cells ⟨splice l1 (0 + 1) [vI (IntKind.i64.wrap (i2 - 1))]⟩ t1 z1) →
          Tri Tryz.prog 139 [vP p 0] h_3 fun v h' => ∃ k tx vl b ln cl, v = vA [vI k, vS tx, vI vl, vS b, vI ln, vI cl] ∧ vB true = vB (accB (.ok (x, ts, d) : R α) t') ∧ Chg p h h' ∧ PS K s h' p (accR (.ok (x, ts, d) : R α) t')) := by
      intro t' g1 g2 g3
      refine ⟨d, PB_cell hp 1, _, _, _, hp, ⟨by simp, Nat.zero_le _⟩, ?_⟩
      rintro h3 rfl
      rw [wrap64 (by omega) (by omega)]
      refine key (by omega) (by omega) ?_ ?_
      · simp [accB, g1, g2]
      · simp [accR, g1, takeT, g2, g3]
    refine br_split (fun e => ?_) (fun e1 => ?_)
    · have e : t = [40] := by simpa using e
      subst e; exact opn h1 rfl rfl
    refine br_split (fun e => ?_) (fun e2 => ?_)
    · have e : t = [91] := by simpa using e
      subst e; exact opn h1 rfl rfl
    refine br_split (fun e => ?_) (fun e3 => ?_)
    · have e : t = [123] := by simpa using e
      subst e; exact opn h1 rfl rfl
    refine br_split (fun e => ?_) (fun e4 => ?_)
    · have e : t = [41] := by simpa using e
      subst e; exact cls h1 rfl rfl
    refine br_split (fun e => ?_) (fun e5 => ?_)
    · have e : t = [93] := by simpa using e
      subst e; exact cls h1 rfl rfl
    refine br_split (fun e => ?_) (fun e6 => ?_)
    · have e : t = [125] := by simpa using e
      subst e; exact cls h1 rfl rfl
    refine Tri.mono (advance_tri hP' hk) ?_
    rintro v h' ⟨rfl, hc, hok⟩
    have g2 : opens t = false := by simp only [opens, e1, e2, e3]; rfl
    have g3 : closes t = false := by simp only [closes, e4, e5, e6]; rfl
    refine ⟨_, _, _, _, _, _, rfl, ?_, hc, ?_⟩
    · simp [accB, h1, g2]
    · simp only [accR, h1, takeT, g2, g3]; exact hok

theorem take_eq (r : R α) (t : Bytes) : (accB r t = true → bindR r (fun _ ts d => takeT t ts d) = accR r t) ∧ (accB r t = false → bindR r (fun _ ts d => takeT t ts d) = failR (accR r t) 30) := by
  match r with
  | .error e => exact ⟨(fun h => by cases h), fun _ => rfl⟩
  | .ok (x, ts, d) =>
    simp only [accB, accR, bindR]
    cases h1 : isT ts t
    · refine ⟨fun h => by simp at h, fun _ => ?_⟩
      simp [takeT, h1, failR]
    · refine ⟨fun _ => by simp, fun h => ?_⟩
      simp at h
      simp [takeT, h1, h, failR]

theorem take_tri (hP : PS K s h p r) (t : Bytes) : Tri Tryz.prog 92 [vP p 0, vS t] h fun v h' => v = vT [] ∧ Chg p h h' ∧ PS K s h' p (bindR r fun _ ts d => takeT t ts d) := by
  refine T92 ?_
  unfold R92
  refine Tri.mono (accept_tri hP t) ?_
  rintro _ h1 ⟨rfl, hc, hA⟩
  refine ⟨_, rfl, ?_⟩
  refine br_split (fun e => ?_) (fun e => ?_)
  · refine Tri.mono (fail_tri (β := Unit) hA 30 (by decide)) ?_
    rintro _ h2 ⟨rfl, hc2, hf⟩
    refine ⟨rfl, rfl, hc.trans hc2, ?_⟩
    rw [(take_eq r t).2 (by simpa using e)]; exact hf
  · refine ⟨rfl, hc, ?_⟩
    rw [(take_eq r t).1 (by simpa using e)]; exact hA

/-- The six cells of a token. -/
structure TC where
  kind : Int
  text : List UInt8
  value : Int
  bytes : List UInt8
  line : Int
  column : Int
def TC.l (t : TC) : List Value := [vI t.kind, vS t.text, vI t.value, vS t.bytes, vI t.line, vI t.column]
def TC.of (s : Bytes) (t : Tok) : TC := ⟨t.kind, t.text, t.value, t.bytes, (place s t.pos).1, (place s t.pos).2⟩

/-- The state and, if it is no error, something of the value. -/
def PX (K : PK) (s : Bytes) (h : PHeap) (p : Nat) (r : R α) (rel : α → Prop) : Prop :=
  match r with
  | .error e => PErr K s h p e
  | .ok (x, ts, d) => POk K s h p ts d ∧ rel x
theorem PX.ps {rel : α → Prop} (hx : PX K s h p r rel) : PS K s h p r := by
  match r, hx with
  | .error e, hx => exact hx
  | .ok (x, ts, d), hx => exact hx.1
theorem PX.mono {rel rel' : α → Prop} (hx : PX K s h p r rel) (hr : ∀ x, rel x → rel' x) : PX K s h p r rel' := by
  match r, hx with
  | .error e, hx => exact hx
  | .ok (x, ts, d), hx => exact ⟨hx.1, hr _ hx.2⟩

theorem takeKind_tri (hP : PS K s h p r) (k : Nat) (hk0 : k ≠ 0) : Tri Tryz.prog 89 [vP p 0, vI k] h fun v h' => ∃ t : TC, v = vA t.l ∧ Chg p h h' ∧ PX K s h' p (bindR r fun _ ts d => takeK k ts d) fun x => t = TC.of s x := by
  refine T89 ?_
  unfold R89
  refine Tri.mono (isKind_tri hP k) ?_
  rintro _ h ⟨rfl, rfl⟩
  refine ⟨_, rfl, ?_⟩
  match r, hP with
  | .error e, hP =>
    refine br_pos rfl ?_
    refine Tri.mono (fail_tri (β := Unit) (r := (.error e : R α)) hP 30 (by decide)) ?_
    rintro _ h2 ⟨rfl, hc2, hf⟩
    exact ⟨rfl, ⟨0, [], 0, [], 0, 0⟩, rfl, hc2, hf⟩
  | .ok (x, ts, d), hP =>
    refine br_split (fun e => ?_) (fun e => ?_)
    · have e : isK ts k = false := by simpa [isKr] using e
      refine Tri.mono (fail_tri (β := Unit) (r := (.ok (x, ts, d) : R α)) hP 30 (by decide)) ?_
      rintro _ h2 ⟨rfl, hc2, hf⟩
      refine ⟨rfl, ⟨0, [], 0, [], 0, 0⟩, rfl, hc2, ?_⟩
      simp only [bindR, takeK, e]; exact hf
    · have e : isK ts k = true := by simpa [isKr] using e
      have hk : (hd ts).kind ≠ 0 := by
        simp [isK] at e; omega
      refine Tri.mono (advance_tri hP hk) ?_
      rintro _ h2 ⟨rfl, hc2, hf⟩
      refine ⟨_, _, _, _, _, _, rfl, TC.of s (hd ts), rfl, hc2, ?_⟩
      simp only [bindR, takeK, e]; exact ⟨hf, rfl⟩

/-- The thirteen parts of a statement. -/
structure SC where
  kind : Int
  name : List UInt8
  aa : Option Addr
  an : Nat
  ac : Nat
  ba : Option Addr
  bn : Nat
  bc : Nat
  ea : Option Addr
  en : Nat
  ec : Nat
  line : Int
  column : Int
def SC.l (c : SC) : List Value := [vI c.kind, vS c.name, vL c.aa c.an c.ac, vL c.ba c.bn c.bc, vL c.ea c.en c.ec, vI c.line, vI c.column]

theorem begin_tri (hP : POk K s h p ts d) (hk : (hd ts).kind ≠ 0) (k : Int) : Tri Tryz.prog 88 [vP p 0, vI k] h fun v h' => v = vA (SC.l ⟨k, [], none, 0, 0, none, 0, 0, none, 0, 0, (place s (hd ts).pos).1, (place s (hd ts).pos).2⟩) ∧ Chg p h h' ∧ POk K s h' p ts.tail d := by
  refine T88 ?_
  unfold R88
  refine Tri.mono (advance_tri hP hk) ?_
  rintro _ h2 ⟨rfl, hc2, hf⟩
  exact ⟨_, _, _, _, _, _, rfl, rfl, hc2, hf⟩
end
end Go.Proofs.D
/- Trees in memory. -/
namespace Go.Proofs.D
open Go Go.Den Go.Sx
set_option maxRecDepth 100000

open Classical in
/-- A part of the heap. -/
noncomputable def only (D : Nat → Prop) (h : PHeap) : PHeap := fun k => if D k then h k else none
def New (h0 : PHeap) (k : Nat) : Prop := h0 k = none

theorem only_some {D : Nat → Prop} {h : PHeap} {k : Nat} {o : Obj} : only D h k = some o ↔ D k ∧ h k = some o := by
  unfold only; split
  · rename_i hd; exact ⟨fun x => ⟨hd, x⟩, fun x => x.2⟩
  · rename_i hd; exact ⟨(fun x => by cases x), fun x => absurd x.1 hd⟩
theorem only_ext {D D' : Nat → Prop} {h h' : PHeap} (x : ∀ k o, D k → h k = some o → D' k ∧ h' k = some o) : Ext (only D h) (only D' h') := fun k o hk => by
  rw [only_some] at hk ⊢; exact x k o hk.1 hk.2
theorem only_sub {D : Nat → Prop} {h : PHeap} : Ext (only D h) h := fun k o hk => (only_some.1 hk).2
theorem only_away {p : Nat} {h0 h h' : PHeap} (hp : h0 p ≠ none) (x : Away p h h') : Ext (only (New h0) h) (only (New h0) h') :=
  only_ext fun k o hn hk => ⟨hn, x k o (fun e => by subst e; exact hp hn) hk⟩
theorem only_new {h0 h1 h : PHeap} (x : ∀ k, h1 k = none → h0 k = none) : Ext (only (New h1) h) (only (New h0) h) :=
  only_ext fun k o hn hk => ⟨x k hn, hk⟩

theorem PS.mem {α : Type} {K : PK} {s : Bytes} {h : PHeap} {p : Nat} {r : R α} (hP : PS K s h p r) : h p ≠ none := by
  match r, hP with
  | .error e, ⟨_, _, _, _, _, _, _, hp⟩ => rw [hp]; exact fun e => by cases e
  | .ok (x, ts, d), ⟨⟨_, _, _, _, hp, _⟩, _, _, _, _, _, _⟩ => rw [hp]; exact fun e => by cases e
theorem Away.dom {p : Nat} {h h' : PHeap} (x : Away p h h') (hp : h' p ≠ none) : ∀ k, h' k = none → h k = none := fun k hk => by
  cases e : h k with
  | none => rfl
  | some o =>
    have : k ≠ p := fun e => by subst e; exact hp hk
    rw [x k o this e] at hk; cases hk

/-! ### Expressions -/
mutual
/-- An expression in memory; pl: how its place is laid, w: its cells. -/
def RE (pl : Nat → List Value) (w : Nat) (h : PHeap) : E → List Value → Prop
  | .mk k op nm v t args pos, cs => ∃ a c, cs = [vI k, vS op, vS nm, vI v, vS t, vL a args.length c] ++ pl pos ∧ (args = [] ∨ ∃ b o, a = ad b o ∧ REs pl w h b o args)
def REs (pl : Nat → List Value) (w : Nat) (h : PHeap) (b : Nat) : Nat → List E → Prop
  | _, [] => True
  | o, e :: es => (∃ cs, h.row b o cs ∧ RE pl w h e cs) ∧ REs pl w h b (o + w) es
end

mutual
theorem RE.ext {pl : Nat → List Value} {w : Nat} {h h' : PHeap} (x : Ext h h') : ∀ {e : E} {cs : List Value}, RE pl w h e cs → RE pl w h' e cs
  | .mk k op nm v t args pos, cs, hr => by
    obtain ⟨a, c, h1, h2⟩ := hr
    refine ⟨a, c, h1, ?_⟩
    rcases h2 with h2 | ⟨b, o, h2, h3⟩
    · exact .inl h2
    · exact .inr ⟨b, o, h2, REs.ext x h3⟩
theorem REs.ext {pl : Nat → List Value} {w : Nat} {h h' : PHeap} (x : Ext h h') {b : Nat} : ∀ {es : List E} {o : Nat}, REs pl w h b o es → REs pl w h' b o es
  | [], _, _ => trivial
  | e :: es, o, hr => by
    obtain ⟨⟨cs, h1, h2⟩, h3⟩ := hr
    exact ⟨⟨cs, row_ext (fun ob => x b ob) h1, RE.ext x h2⟩, REs.ext x h3⟩
end

def plP (s : Bytes) (n : Nat) : List Value := [vI (place s n).1, vI (place s n).2]

/-- The ten parts of an expression. -/
structure EC where
  kind : Int
  op : List UInt8
  name : List UInt8
  value : Int
  text : List UInt8
  aa : Option Addr
  an : Nat
  ac : Nat
  line : Int
  column : Int
def EC.l (c : EC) : List Value := [vI c.kind, vS c.op, vS c.name, vI c.value, vS c.text, vL c.aa c.an c.ac, vI c.line, vI c.column]

/-- What a reader of expressions leaves. -/
def PE (K : PK) (s : Bytes) (p : Nat) (h : PHeap) (r : R E) (v : Value) (h' : PHeap) : Prop :=
  ∃ c : EC, v = vA c.l ∧ Away p h h' ∧ PX K s h' p r fun e => RE (plP s) 8 (only (New h) h') e c.l

def NF {α : Type} (r : R α) : Prop := r ≠ .error (0, 0)

theorem bindR_ok {α β : Type} (x : α) (ts : List Tok) (d : Int) (f : α → List Tok → Int → R β) : bindR (.ok (x, ts, d)) f = f x ts d := rfl
theorem bindR_err {α β : Type} (e : Nat × Nat) (f : α → List Tok → Int → R β) : bindR (.error e : R α) f = .error e := rfl
theorem bindR_bind {α β γ : Type} (r : R α) (f : α → List Tok → Int → R β) (g : β → List Tok → Int → R γ) : bindR (bindR r f) g = bindR r fun x ts d => bindR (f x ts d) g := by
  match r with
  | .error e => rfl
  | .ok (x, ts, d) => rfl
theorem NF.bind {α β : Type} {r : R α} {f : α → List Tok → Int → R β} (h : NF (bindR r f)) : NF r := fun e => h (by rw [e]; rfl)
theorem failR_ok {α β : Type} (x : α) (ts : List Tok) (d : Int) (e : Nat) : (failR (.ok (x, ts, d) : R α) e : R β) = .error (e, (hd ts).pos) := rfl

theorem PX.ext {α : Type} {K : PK} {s : Bytes} {h h' : PHeap} {p : Nat} {r : R α} {rel rel' : α → Prop} (x : Ext h h') (hx : PX K s h p r rel) (hr : ∀ y, rel y → rel' y) : PX K s h' p r rel' := by
  match r, hx with
  | .error e, hx => exact PErr.ext x hx
  | .ok (y, ts, d), hx => exact ⟨hx.1.ext x, hr _ hx.2⟩
theorem PX.of {α : Type} {K : PK} {s : Bytes} {h : PHeap} {p : Nat} {r : R α} {rel : α → Prop} (hx : PS K s h p r) (hr : ∀ y ts d, r = .ok (y, ts, d) → rel y) : PX K s h p r rel := by
  match r, hx with
  | .error e, hx => exact hx
  | .ok (y, ts, d), hx => exact ⟨hx, hr _ _ _ rfl⟩

def okR {α : Type} (r : R α) : Bool :=
  match r with
  | .error _ => false
  | .ok _ => true
/-- The first error cell. -/
theorem PS.err {α : Type} {K : PK} {s : Bytes} {h : PHeap} {p : Nat} {r : R α} (hP : PS K s h p r) : ∃ i : Int, h.cell p 5 = some (vI i) ∧ (i == 0) = okR r := by
  match r, hP with
  | .error e, ⟨h0, _, _, _, _, _, _, hp⟩ => exact ⟨_, PB_cell hp 5, err_ne h0⟩
  | .ok (x, ts, d), ⟨⟨_, _, _, _, hp, _⟩, _, _, _, _, _, _⟩ => exact ⟨_, PB_cell hp 5, rfl⟩
theorem okR_true {α : Type} {r : R α} (e : okR r = true) : ∃ x ts d, r = .ok (x, ts, d) := by
  match r, e with
  | .error x, e => cases e
  | .ok (x, ts, d), e => exact ⟨x, ts, d, rfl⟩
theorem okR_false {α : Type} {r : R α} (e : okR r = false) : ∃ x, r = .error x := by
  match r, e with
  | .error x, e => exact ⟨x, rfl⟩
  | .ok x, e => cases e
end Go.Proofs.D
namespace Go.Proofs.D
open Go Go.Den Go.Sx

/-! ### Readers one after another -/
section
variable {α β γ : Type} {K : PK} {s : Bytes} {h h' : PHeap} {p : Nat}

def thenR (r : R α) (g : List Tok → Int → R β) : R α := bindR r fun x ts d => bindR (g ts d) fun _ ts d => .ok (x, ts, d)
def pairR (r : R α) (g : List Tok → Int → R β) : R (α × β) := bindR r fun x ts d => bindR (g ts d) fun y ts d => .ok ((x, y), ts, d)
def mapR (k : α → β) (r : R α) : R β := bindR r fun x ts d => .ok (k x, ts, d)

theorem PX.then {r : R α} {g : List Tok → Int → R β} {rel rel' : α → Prop} (hx : PX K s h p r rel) (hP : PS K s h' p (bindR r fun _ ts d => g ts d)) (hr : ∀ x, rel x → rel' x) : PX K s h' p (thenR r g) rel' := by
  match r, hx, hP with
  | .error e, hx, hP => exact hP
  | .ok (x, ts, d), hx, hP =>
    simp only [thenR, bindR_ok] at hP ⊢
    generalize g ts d = r2 at *
    match r2, hP with
    | .error e, hP => exact hP
    | .ok (y, ts2, d2), hP => exact ⟨hP, hr _ hx.2⟩
theorem PX.pair {r : R α} {g : List Tok → Int → R β} {rel : α → Prop} {rel2 : β → Prop} {rel3 : α × β → Prop} (hx : PX K s h p r rel) (hP : PX K s h' p (bindR r fun _ ts d => g ts d) rel2) (hr : ∀ x y, rel x → rel2 y → rel3 (x, y)) : PX K s h' p (pairR r g) rel3 := by
  match r, hx, hP with
  | .error e, hx, hP => exact hP
  | .ok (x, ts, d), hx, hP =>
    simp only [pairR, bindR_ok] at hP ⊢
    generalize g ts d = r2 at *
    match r2, hP with
    | .error e, hP => exact hP
    | .ok (y, ts2, d2), hP => exact ⟨hP.1, hr _ _ hx.2 hP.2⟩
theorem PX.stay {r : R α} {rel rel' : α → Prop} (x : Stay (K.blocks p) h h') (hx : PX K s h p r rel) (hr : ∀ y, rel y → rel' y) : PX K s h' p r rel' := by
  match r, hx with
  | .error e, hx => exact PS.stay (r := (.error e : R Unit)) x hx
  | .ok (y, ts, d), hx => exact ⟨PS.stay (r := (.ok ((), ts, d) : R Unit)) x hx.1, hr _ hx.2⟩
/-- Where the blocks of before stay, the parser's do. -/
theorem PK.In.old {h0 : PHeap} (hI : K.In h0 p) (hp : h0 p ≠ none) (x : ∀ q o, h0 q ≠ none → h q = some o → h' q = some o) : Stay (K.blocks p) h h' := fun k o hk => by
  rcases hk with rfl | rfl | rfl | rfl
  · exact x _ o hp
  · exact x _ o hI.tok
  · exact x _ o hI.map
  · exact x _ o hI.box
theorem PX.map {r : R α} {k : α → β} {rel : α → Prop} {rel' : β → Prop} (hx : PX K s h p r rel) (hr : ∀ x, rel x → rel' (k x)) : PX K s h p (mapR k r) rel' := by
  match r, hx with
  | .error e, hx => exact hx
  | .ok (x, ts, d), hx => exact ⟨hx.1, hr _ hx.2⟩
theorem PX.unit {r : R α} (hx : PS K s h p r) : PX K s h p r fun _ => True := by
  match r, hx with
  | .error e, hx => exact hx
  | .ok (x, ts, d), hx => exact ⟨hx, trivial⟩
theorem NF.map {r : R α} {k : α → β} (h : NF (mapR k r)) : NF r := h.bind
theorem NF.then {r : R α} {g : List Tok → Int → R β} (h : NF (thenR r g)) : NF (bindR r fun _ ts d => g ts d) := fun e => h (by
  unfold thenR
  match r, e with
  | .error x, e => simp only [bindR_err] at e ⊢; cases e; rfl
  | .ok (x, ts, d), e =>
    simp only [bindR_ok] at e ⊢
    rw [e]; rfl)
theorem NF.pair {r : R α} {g : List Tok → Int → R β} (h : NF (pairR r g)) : NF (bindR r fun _ ts d => g ts d) := fun e => h (by
  unfold pairR
  match r, e with
  | .error x, e => simp only [bindR_err] at e ⊢; cases e; rfl
  | .ok (x, ts, d), e =>
    simp only [bindR_ok] at e ⊢
    rw [e]; rfl)

theorem Put.ext {h h1 : PHeap} {b : Nat} {o : Obj} (e : h1 = h.put b o) (hb : h b = none) : Ext h h1 := e ▸ Ext.put hb o
theorem Put.at {h h1 : PHeap} {b : Nat} {o : Obj} (e : h1 = h.put b o) : h1 b = some o := e ▸ put_same h b o
theorem Put.chg {h h1 : PHeap} {b : Nat} {o : Obj} (e : h1 = h.put b o) : Chg b h h1 := e ▸ Chg.put b h o

theorem RE_mk {pl : Nat → List Value} {w : Nat} {H : PHeap} (k : Nat) (op nm : Bytes) (v : Nat) (t : Bytes) (args : List E) (pos : Nat) (a : Option Addr) (c : Nat) (hr : args = [] ∨ ∃ b o, a = ad b o ∧ REs pl w H b o args) :
    RE pl w H (.mk k op nm v t args pos) ([vI k, vS op, vS nm, vI v, vS t, vL a args.length c] ++ pl pos) := ⟨a, c, rfl, hr⟩

/-- The list that a block of one or two elements holds. -/
theorem REs_one {pl : Nat → List Value} {w : Nat} {H : PHeap} {b : Nat} {e : E} {l : List Value} {t : TypeId} {z : Nat × Nat} (hb : H b = some (.cells ⟨l⟩ t z)) (he : RE pl w H e l) : REs pl w H b 0 [e] :=
  ⟨⟨l, row_lit hb fun j v hj => by simpa using hj, he⟩, trivial⟩
theorem REs_two {pl : Nat → List Value} {w : Nat} {H : PHeap} {b : Nat} {e e' : E} {l m : List Value} {t : TypeId} {z : Nat × Nat} (hw : l.length = w) (hb : H b = some (.cells ⟨l ++ m⟩ t z)) (he : RE pl w H e l) (he' : RE pl w H e' m) : REs pl w H b 0 [e, e'] :=
  ⟨⟨l, row_lit hb fun j v hj => by
      have : j < l.length := (List.getElem?_eq_some_iff.1 hj).1
      simp only [Nat.zero_add]; rw [List.getElem?_append_left this]; exact hj, he⟩,
    ⟨m, row_lit hb fun j v hj => by
      simp only [Nat.zero_add]; rw [List.getElem?_append_right (by omega)]; rw [show w + j - l.length = j by omega]; exact hj, he'⟩, trivial⟩
end
end Go.Proofs.D
namespace Go.Proofs.D
open Go Go.Den
set_option maxRecDepth 100000
set_option maxHeartbeats 4000000
/- replevin/syntax.Level -/
def d26 : DCode :=
  .seq (.ops [⟨some 2, .base (.mv (.const (vI 0))), none⟩])
 (.seq (.seq (.ops [⟨some 3, .base (.mv (.tmp 0)), none⟩])
 (.block 0 (.seq (.ops [⟨some 5, .base (.eqS false (.tmp 3) (.const (vS [124, 124]))), none⟩,
    ⟨some 4, .base (.mv (.tmp 5)), none⟩])
   (.cond (.tmp 4) (.seq (.ops [⟨some 2, .base (.mv (.const (vI 1))), none⟩])
     (.ret))
   (.seq (.ops [⟨some 7, .base (.eqS false (.tmp 3) (.const (vS [38, 38]))), none⟩,
      ⟨some 6, .base (.mv (.tmp 7)), none⟩])
     (.cond (.tmp 6) (.seq (.ops [⟨some 2, .base (.mv (.const (vI 2))), none⟩])
       (.ret))
     (.seq (.ops [⟨some 9, .base (.eqS false (.tmp 3) (.const (vS [124]))), none⟩,
        ⟨some 8, .base (.mv (.tmp 9)), none⟩])
       (.cond (.tmp 8) (.seq (.ops [⟨some 2, .base (.mv (.const (vI 3))), none⟩])
         (.ret))
       (.seq (.ops [⟨some 11, .base (.eqS false (.tmp 3) (.const (vS [94]))), none⟩,
          ⟨some 10, .base (.mv (.tmp 11)), none⟩])
         (.cond (.tmp 10) (.seq (.ops [⟨some 2, .base (.mv (.const (vI 4))), none⟩])
           (.ret))
         (.seq (.ops [⟨some 13, .base (.eqS false (.tmp 3) (.const (vS [38]))), none⟩,
            ⟨some 12, .base (.mv (.tmp 13)), none⟩])
           (.cond (.tmp 12) (.seq (.ops [⟨some 2, .base (.mv (.const (vI 5))), none⟩])
             (.ret))
           (.seq (.seq (.ops [⟨some 15, .base (.eqS false (.tmp 3) (.const (vS [61, 61]))), none⟩,
              ⟨some 14, .base (.mv (.tmp 15)), none⟩])
             (.cond (.tmp 14) (.skip)
             (.ops [⟨some 16, .base (.eqS false (.tmp 3) (.const (vS [33, 61]))), none⟩,
                ⟨some 14, .base (.mv (.tmp 16)), none⟩])))
             (.cond (.tmp 14) (.seq (.ops [⟨some 2, .base (.mv (.const (vI 6))), none⟩])
               (.ret))
             (.seq (.seq (.ops [⟨some 18, .base (.eqS false (.tmp 3) (.const (vS [60]))), none⟩,
                ⟨some 17, .base (.mv (.tmp 18)), none⟩])
               (.cond (.tmp 17) (.skip)
               (.seq (.ops [⟨some 19, .base (.eqS false (.tmp 3) (.const (vS [60, 61]))), none⟩,
                  ⟨some 17, .base (.mv (.tmp 19)), none⟩])
                 (.cond (.tmp 17) (.skip)
                 (.seq (.ops [⟨some 20, .base (.eqS false (.tmp 3) (.const (vS [62]))), none⟩,
                    ⟨some 17, .base (.mv (.tmp 20)), none⟩])
                   (.cond (.tmp 17) (.skip)
                   (.ops [⟨some 21, .base (.eqS false (.tmp 3) (.const (vS [62, 61]))), none⟩,
                      ⟨some 17, .base (.mv (.tmp 21)), none⟩])))))))
               (.cond (.tmp 17) (.seq (.ops [⟨some 2, .base (.mv (.const (vI 7))), none⟩])
                 (.ret))
               (.seq (.seq (.ops [⟨some 23, .base (.eqS false (.tmp 3) (.const (vS [60, 60]))), none⟩,
                  ⟨some 22, .base (.mv (.tmp 23)), none⟩])
                 (.cond (.tmp 22) (.skip)
                 (.ops [⟨some 24, .base (.eqS false (.tmp 3) (.const (vS [62, 62]))), none⟩,
                    ⟨some 22, .base (.mv (.tmp 24)), none⟩])))
                 (.cond (.tmp 22) (.seq (.ops [⟨some 2, .base (.mv (.const (vI 8))), none⟩])
                   (.ret))
                 (.seq (.seq (.ops [⟨some 26, .base (.eqS false (.tmp 3) (.const (vS [43]))), none⟩,
                    ⟨some 25, .base (.mv (.tmp 26)), none⟩])
                   (.cond (.tmp 25) (.skip)
                   (.ops [⟨some 27, .base (.eqS false (.tmp 3) (.const (vS [45]))), none⟩,
                      ⟨some 25, .base (.mv (.tmp 27)), none⟩])))
                   (.cond (.tmp 25) (.seq (.ops [⟨some 2, .base (.mv (.const (vI 9))), none⟩])
                     (.ret))
                   (.seq (.seq (.ops [⟨some 29, .base (.eqS false (.tmp 3) (.const (vS [42]))), none⟩,
                      ⟨some 28, .base (.mv (.tmp 29)), none⟩])
                     (.cond (.tmp 28) (.skip)
                     (.seq (.ops [⟨some 30, .base (.eqS false (.tmp 3) (.const (vS [47]))), none⟩,
                        ⟨some 28, .base (.mv (.tmp 30)), none⟩])
                       (.cond (.tmp 28) (.skip)
                       (.ops [⟨some 31, .base (.eqS false (.tmp 3) (.const (vS [37]))), none⟩,
                          ⟨some 28, .base (.mv (.tmp 31)), none⟩])))))
                     (.cond (.tmp 28) (.seq (.ops [⟨some 2, .base (.mv (.const (vI 10))), none⟩])
                       (.ret))
                     (.skip)))))))))))))))))))))))
 (.seq (.ops [⟨some 2, .base (.mv (.const (vI 0))), none⟩])
 (.ret)))
theorem low26 : low Tryz.prog (fun _ => false) (Tryz.f26.body.getD .skip) = some (eC d26) := by kernel_rfl
theorem res26 : lowRes Tryz.prog Tryz.f26.results.toList = some [.tmp 2] := by kernel_rfl
def R26 (op1 : List UInt8) (h : PHeap) (Q : Value → PHeap → Prop) : Prop :=
  br (op1 == [124, 124])
  (Q (vI 1) h)
  (br (op1 == [38, 38])
    (Q (vI 2) h)
    (br (op1 == [124])
      (Q (vI 3) h)
      (br (op1 == [94])
        (Q (vI 4) h)
        (br (op1 == [38])
          (Q (vI 5) h)
          (br (op1 == [61, 61])
            (Q (vI 6) h)
            (br (op1 == [33, 61])
              (Q (vI 6) h)
              (br (op1 == [60])
                (Q (vI 7) h)
                (br (op1 == [60, 61])
                  (Q (vI 7) h)
                  (br (op1 == [62])
                    (Q (vI 7) h)
                    (br (op1 == [62, 61])
                      (Q (vI 7) h)
                      (br (op1 == [60, 60])
                        (Q (vI 8) h)
                        (br (op1 == [62, 62])
                          (Q (vI 8) h)
                          (br (op1 == [43])
                            (Q (vI 9) h)
                            (br (op1 == [45])
                              (Q (vI 9) h)
                              (br (op1 == [42])
                                (Q (vI 10) h)
                                (br (op1 == [47])
                                  (Q (vI 10) h)
                                  (br (op1 == [37])
                                    (Q (vI 10) h)
                                    (Q (vI 0) h))))))))))))))))))
theorem e26 (op1 : List UInt8) (h : PHeap) (Q : Value → PHeap → Prop) : dnF Tryz.prog Tryz.f26.ntmps d26 [.tmp 2] [vS op1] h Q = R26 op1 h Q := by kernel_rfl
theorem T26 {op1 : List UInt8} {h : PHeap} {Q : Value → PHeap → Prop} (hR : R26 op1 h Q) : Tri Tryz.prog 26 [vS op1] h Q :=
  tri_of_dn mixed Tryz.func26 rfl (by kernel_rfl) low26 res26 rfl (Eq.mpr (e26 op1 h Q) hR)
/- slices.Contains<<>string,string> -/
abbrev o102_0 : Op := .binOp Go.BinOp.geq 3 (Go.Operand.tmp 7) (Go.Operand.const (vI 0)) 3
def d102 : DCode :=
  .seq (.ops [⟨some 4, .base (.mv (.const (vB false))), none⟩])
 (.seq (.ops [⟨some 5, .base (.mv (.tmp 0)), none⟩,
  ⟨some 6, .base (.mv (.tmp 1)), none⟩,
  ⟨some 7, .call (.func 149) [.tmp 5, .tmp 6] (.one false [.int .i64]), none⟩,
  ⟨some 8, .base (.pure o102_0 4), none⟩,
  ⟨some 4, .base (.mv (.tmp 8)), none⟩])
 (.ret))
theorem low102 : low Tryz.prog (fun _ => false) (Tryz.f102.body.getD .skip) = some (eC d102) := by kernel_rfl
theorem res102 : lowRes Tryz.prog Tryz.f102.results.toList = some [.tmp 4] := by kernel_rfl
def R102 (sa1 : Option Addr) (sn1 : Nat) (sc1 : Nat) (v_1 : List UInt8) (h : PHeap) (Q : Value → PHeap → Prop) : Prop :=
  Tri Tryz.prog 149 [vL sa1 sn1 sc1, vS v_1] h fun v_2 h_1 =>
  ∃ (i1 : Int), v_2 = vI i1 ∧
  Q (vB (decide (i1 ≥ 0))) h_1
theorem e102 (sa1 : Option Addr) (sn1 : Nat) (sc1 : Nat) (v_1 : List UInt8) (h : PHeap) (Q : Value → PHeap → Prop) : dnF Tryz.prog Tryz.f102.ntmps d102 [.tmp 4] [vL sa1 sn1 sc1, vS v_1] h Q = R102 sa1 sn1 sc1 v_1 h Q := by kernel_rfl
theorem T102 {sa1 : Option Addr} {sn1 : Nat} {sc1 : Nat} {v_1 : List UInt8} {h : PHeap} {Q : Value → PHeap → Prop} (hR : R102 sa1 sn1 sc1 v_1 h Q) : Tri Tryz.prog 102 [vL sa1 sn1 sc1, vS v_1] h Q :=
  tri_of_dn mixed Tryz.func102 rfl (by kernel_rfl) low102 res102 rfl (Eq.mpr (e102 sa1 sn1 sc1 v_1 h Q) hR)
/- slices.Index<<>string,string> -/
abbrev o149_0 : Op := .binOp Go.BinOp.lss 3 (Go.Operand.tmp 8) (Go.Operand.tmp 7) 3
abbrev o149_1 : Op := .binOp Go.BinOp.add 3 (Go.Operand.tmp 8) (Go.Operand.const (vI 1)) 3
def d149 : DCode :=
  .seq (.ops [⟨some 4, .base (.mv (.const (vI 0))), none⟩])
 (.seq (.seq (.ops [⟨some 6, .base (.mv (.tmp 0)), none⟩,
  ⟨some 7, .base (.len false (.tmp 6)), none⟩,
  ⟨some 8, .base (.mv (.const (vI 0))), none⟩])
 (.block 0 (.loop [9, 10, 5, 11, 12, 13, 14, 15, 16, 17, 4, 18, 8] [(8, .int .i64)] [] (.seq (.ops [⟨some 9, .base (.pure o149_0 0), none⟩])
     (.seq (.cond (.tmp 9) (.skip)
     (.exit 0))
     (.seq (.block 1 (.seq (.ops [⟨some 10, .base (.mv (.tmp 8)), none⟩,
        ⟨some 5, .base (.mv (.tmp 10)), none⟩])
       (.seq (.ops [⟨some 11, .base (.mv (.tmp 1)), none⟩,
        ⟨some 12, .base (.mv (.tmp 0)), none⟩,
        ⟨some 13, .base (.mv (.tmp 5)), none⟩,
        ⟨some 14, .indexAddr 1 (.tmp 12) (.tmp 13), none⟩,
        ⟨some 15, .load false [.str] (.tmp 14), none⟩,
        ⟨some 16, .base (.eqS false (.tmp 11) (.tmp 15)), none⟩])
       (.cond (.tmp 16) (.seq (.ops [⟨some 17, .base (.mv (.tmp 5)), none⟩,
          ⟨some 4, .base (.mv (.tmp 17)), none⟩])
         (.ret))
       (.skip)))))
     (.ops [⟨some 18, .base (.pure o149_1 3), none⟩,
      ⟨some 8, .base (.mv (.tmp 18)), none⟩])))))))
 (.seq (.ops [⟨some 4, .base (.mv (.const (vI (-1)))), none⟩])
 (.ret)))
theorem low149 : low Tryz.prog (fun _ => false) (Tryz.f149.body.getD .skip) = some (eC d149) := by kernel_rfl
theorem res149 : lowRes Tryz.prog Tryz.f149.results.toList = some [.tmp 4] := by kernel_rfl
def R149 (sa1 : Option Addr) (sn1 : Nat) (sc1 : Nat) (v_1 : List UInt8) (h : PHeap) (Q : Value → PHeap → Prop) : Prop :=
  ∃ (I_1 : Nat → Int → PHeap → Prop), (∃ (m2 : Nat), I_1 m2 (0 : Int) h) ∧
  ∀ (m1 : Nat) (i1 : Int) (h_1 : PHeap), I_1 m1 i1 h_1 →
  br (decide (i1 < ((sn1 : Nat) : Int)))
  (∃ (b1 o1 : Nat), sa1 = some ⟨b1, o1, none⟩ ∧ (0 ≤ i1 ∧ i1 < sn1) ∧
    ∃ (l1 : List UInt8), h_1.cell b1 (o1 + (i1).toNat * 1) = some (vS l1) ∧
    br (v_1 == l1)
    (Q (vI i1) h_1)
    (∃ (m3 : Nat), m3 < m1 ∧ I_1 m3 (IntKind.i64.wrap (i1 + 1)) h_1 ∧
      True))
  (Q (vI (-1)) h_1)
theorem e149 (sa1 : Option Addr) (sn1 : Nat) (sc1 : Nat) (v_1 : List UInt8) (h : PHeap) (Q : Value → PHeap → Prop) : dnF Tryz.prog Tryz.f149.ntmps d149 [.tmp 4] [vL sa1 sn1 sc1, vS v_1] h Q = R149 sa1 sn1 sc1 v_1 h Q := by kernel_rfl
theorem T149 {sa1 : Option Addr} {sn1 : Nat} {sc1 : Nat} {v_1 : List UInt8} {h : PHeap} {Q : Value → PHeap → Prop} (hR : R149 sa1 sn1 sc1 v_1 h Q) : Tri Tryz.prog 149 [vL sa1 sn1 sc1, vS v_1] h Q :=
  tri_of_dn mixed Tryz.func149 rfl (by kernel_rfl) low149 res149 rfl (Eq.mpr (e149 sa1 sn1 sc1 v_1 h Q) hR)
/- slices.ContainsFunc<<>string,string> -/
abbrev o191_0 : Op := .binOp Go.BinOp.geq 3 (Go.Operand.tmp 7) (Go.Operand.const (vI 0)) 3
def d191 : DCode :=
  .seq (.ops [⟨some 4, .base (.mv (.const (vB false))), none⟩])
 (.seq (.ops [⟨some 5, .base (.mv (.tmp 0)), none⟩,
  ⟨some 6, .base (.mv (.tmp 1)), none⟩,
  ⟨some 7, .call (.func 201) [.tmp 5, .tmp 6] (.one false [.int .i64]), none⟩,
  ⟨some 8, .base (.pure o191_0 4), none⟩,
  ⟨some 4, .base (.mv (.tmp 8)), none⟩])
 (.ret))
theorem low191 : low Tryz.prog (fun _ => false) (Tryz.f191.body.getD .skip) = some (eC d191) := by kernel_rfl
theorem res191 : lowRes Tryz.prog Tryz.f191.results.toList = some [.tmp 4] := by kernel_rfl
def R191 (sa1 : Option Addr) (sn1 : Nat) (sc1 : Nat) (f1 : Nat) (x1 : List Value) (y1 : List Value) (h : PHeap) (Q : Value → PHeap → Prop) : Prop :=
  Tri Tryz.prog 201 [vL sa1 sn1 sc1, vF f1 x1 y1] h fun v_1 h_1 =>
  ∃ (i1 : Int), v_1 = vI i1 ∧
  Q (vB (decide (i1 ≥ 0))) h_1
theorem e191 (sa1 : Option Addr) (sn1 : Nat) (sc1 : Nat) (f1 : Nat) (x1 : List Value) (y1 : List Value) (h : PHeap) (Q : Value → PHeap → Prop) : dnF Tryz.prog Tryz.f191.ntmps d191 [.tmp 4] [vL sa1 sn1 sc1, vF f1 x1 y1] h Q = R191 sa1 sn1 sc1 f1 x1 y1 h Q := by kernel_rfl
theorem T191 {sa1 : Option Addr} {sn1 : Nat} {sc1 : Nat} {f1 : Nat} {x1 : List Value} {y1 : List Value} {h : PHeap} {Q : Value → PHeap → Prop} (hR : R191 sa1 sn1 sc1 f1 x1 y1 h Q) : Tri Tryz.prog 191 [vL sa1 sn1 sc1, vF f1 x1 y1] h Q :=
  tri_of_dn mixed Tryz.func191 rfl (by kernel_rfl) low191 res191 rfl (Eq.mpr (e191 sa1 sn1 sc1 f1 x1 y1 h Q) hR)
/- slices.IndexFunc<<>string,string> -/
abbrev o201_0 : Op := .binOp Go.BinOp.lss 3 (Go.Operand.tmp 8) (Go.Operand.tmp 7) 3
abbrev o201_1 : Op := .binOp Go.BinOp.add 3 (Go.Operand.tmp 8) (Go.Operand.const (vI 1)) 3
def d201 : DCode :=
  .seq (.ops [⟨some 4, .base (.mv (.const (vI 0))), none⟩])
 (.seq (.seq (.ops [⟨some 6, .base (.mv (.tmp 0)), none⟩,
  ⟨some 7, .base (.len false (.tmp 6)), none⟩,
  ⟨some 8, .base (.mv (.const (vI 0))), none⟩])
 (.block 0 (.loop [9, 10, 5, 11, 12, 13, 14, 15, 16, 17, 4, 18, 8] [(8, .int .i64)] [] (.seq (.ops [⟨some 9, .base (.pure o201_0 0), none⟩])
     (.seq (.cond (.tmp 9) (.skip)
     (.exit 0))
     (.seq (.block 1 (.seq (.ops [⟨some 10, .base (.mv (.tmp 8)), none⟩,
        ⟨some 5, .base (.mv (.tmp 10)), none⟩])
       (.seq (.ops [⟨some 11, .base (.mv (.tmp 1)), none⟩,
        ⟨some 12, .base (.mv (.tmp 0)), none⟩,
        ⟨some 13, .base (.mv (.tmp 5)), none⟩,
        ⟨some 14, .indexAddr 1 (.tmp 12) (.tmp 13), none⟩,
        ⟨some 15, .load false [.str] (.tmp 14), none⟩,
        ⟨some 16, .call (.tmp 11) [.tmp 15] (.one false [.bool]), none⟩])
       (.cond (.tmp 16) (.seq (.ops [⟨some 17, .base (.mv (.tmp 5)), none⟩,
          ⟨some 4, .base (.mv (.tmp 17)), none⟩])
         (.ret))
       (.skip)))))
     (.ops [⟨some 18, .base (.pure o201_1 3), none⟩,
      ⟨some 8, .base (.mv (.tmp 18)), none⟩])))))))
 (.seq (.ops [⟨some 4, .base (.mv (.const (vI (-1)))), none⟩])
 (.ret)))
theorem low201 : low Tryz.prog (fun _ => false) (Tryz.f201.body.getD .skip) = some (eC d201) := by kernel_rfl
theorem res201 : lowRes Tryz.prog Tryz.f201.results.toList = some [.tmp 4] := by kernel_rfl
def R201 (sa1 : Option Addr) (sn1 : Nat) (sc1 : Nat) (f1 : Nat) (x1 : List Value) (y1 : List Value) (h : PHeap) (Q : Value → PHeap → Prop) : Prop :=
  ∃ (I_1 : Nat → Int → PHeap → Prop), (∃ (m2 : Nat), I_1 m2 (0 : Int) h) ∧
  ∀ (m1 : Nat) (i1 : Int) (h_1 : PHeap), I_1 m1 i1 h_1 →
  br (decide (i1 < ((sn1 : Nat) : Int)))
  (∃ (b1 o1 : Nat), sa1 = some ⟨b1, o1, none⟩ ∧ (0 ≤ i1 ∧ i1 < sn1) ∧
    ∃ (l1 : List UInt8), h_1.cell b1 (o1 + (i1).toNat * 1) = some (vS l1) ∧
    Tri Tryz.prog f1 (x1 ++ [vS l1] ++ y1) h_1 fun v_1 h_2 =>
    ∃ (c1 : Bool), v_1 = vB c1 ∧
    br c1
    (Q (vI i1) h_2)
    (∃ (m3 : Nat), m3 < m1 ∧ I_1 m3 (IntKind.i64.wrap (i1 + 1)) h_2 ∧
      True))
  (Q (vI (-1)) h_1)
theorem e201 (sa1 : Option Addr) (sn1 : Nat) (sc1 : Nat) (f1 : Nat) (x1 : List Value) (y1 : List Value) (h : PHeap) (Q : Value → PHeap → Prop) : dnF Tryz.prog Tryz.f201.ntmps d201 [.tmp 4] [vL sa1 sn1 sc1, vF f1 x1 y1] h Q = R201 sa1 sn1 sc1 f1 x1 y1 h Q := by kernel_rfl
theorem T201 {sa1 : Option Addr} {sn1 : Nat} {sc1 : Nat} {f1 : Nat} {x1 : List Value} {y1 : List Value} {h : PHeap} {Q : Value → PHeap → Prop} (hR : R201 sa1 sn1 sc1 f1 x1 y1 h Q) : Tri Tryz.prog 201 [vL sa1 sn1 sc1, vF f1 x1 y1] h Q :=
  tri_of_dn mixed Tryz.func201 rfl (by kernel_rfl) low201 res201 rfl (Eq.mpr (e201 sa1 sn1 sc1 f1 x1 y1 h Q) hR)
end Go.Proofs.D
/- Lists of strings; the levels of operators. -/
namespace Go.Proofs.D
open Go Go.Den Go.Sx
set_option maxRecDepth 100000
attribute [local irreducible] IntKind.wrap

theorem level_tri (op : Bytes) (h : PHeap) : Tri Tryz.prog 26 [vS op] h fun v h' => v = vI (levelS op) ∧ h' = h := by
  refine T26 ?_
  unfold R26
  iterate 18
    refine br_split (fun e => ?_) (fun e => ?_)
    · refine ⟨?_, rfl⟩
      simp only [levelS, *]; rfl
  refine ⟨?_, rfl⟩
  simp only [levelS, *]; rfl

/-- Strings in memory. -/
def StrAt (h : PHeap) (a : Option Addr) (L : List Bytes) : Prop := L = [] ∨ ∃ b o, a = ad b o ∧ ∀ j l, L[j]? = some l → h.cell b (o + j) = some (vS l)

theorem StrAt.ext {h h' : PHeap} {a : Option Addr} {L : List Bytes} (x : Ext h h') (hs : StrAt h a L) : StrAt h' a L := by
  rcases hs with hs | ⟨b, o, ha, hs⟩
  · exact .inl hs
  · exact .inr ⟨b, o, ha, fun j l hj => cell_ext (fun ob => x b ob) (hs j l hj)⟩

theorem StrAt.get {h : PHeap} {a : Option Addr} {L : List Bytes} (hs : StrAt h a L) {n : Nat} (hn : n < L.length) : ∃ b o, a = ad b o ∧ h.cell b (o + (n : Int).toNat * 1) = some (vS L[n]) := by
  rcases hs with hs | ⟨b, o, ha, hs⟩
  · subst hs; simp at hn
  · refine ⟨b, o, ha, ?_⟩
    have := hs n L[n] (by simp [hn])
    simpa using this

def idxI (L : List Bytes) (f : Bytes → Bool) : Int :=
  match L.findIdx? f with
  | some i => i
  | none => -1

theorem idxI_some {L : List Bytes} {f : Bytes → Bool} {n : Nat} (hn : n < L.length) (hb : ∀ j (hj : j < n), f (L[j]'(by omega)) = false) (ht : f L[n] = true) : idxI L f = n := by
  have : L.findIdx? f = some n := by
    rw [List.findIdx?_eq_some_iff_getElem]
    exact ⟨hn, ht, fun j hj => by rw [hb j hj]; decide⟩
  simp [idxI, this]
theorem idxI_none {L : List Bytes} {f : Bytes → Bool} (hb : ∀ j (hj : j < L.length), f L[j] = false) : idxI L f = -1 := by
  have : L.findIdx? f = none := by
    rw [List.findIdx?_eq_none_iff]
    intro x hx
    obtain ⟨j, hj, rfl⟩ := List.getElem_of_mem hx
    exact hb j hj
  simp [idxI, this]
theorem idxI_any (L : List Bytes) (f : Bytes → Bool) : decide (idxI L f ≥ 0) = L.any f := by
  unfold idxI
  cases h : L.findIdx? f with
  | none =>
    rw [List.findIdx?_eq_none_iff] at h
    rw [eq_comm]; simpa using h
  | some i =>
    have := h
    rw [List.findIdx?_eq_some_iff_getElem] at h
    obtain ⟨hi, ht, _⟩ := h
    have : L.any f = true := by rw [List.any_eq_true]; exact ⟨_, List.getElem_mem hi, ht⟩
    rw [this]; simp

theorem indexFunc_tri {h : PHeap} {a : Option Addr} {L : List Bytes} {c f : Nat} {x y : List Value} (Pd : Bytes → Bool) (hs : StrAt h a L) (hl : L.length ≤ 1000000)
    (hf : ∀ l, l ∈ L → Tri Tryz.prog f (x ++ [vS l] ++ y) h fun v h' => v = vB (Pd l) ∧ h' = h) : Tri Tryz.prog 201 [vL a L.length c, vF f x y] h fun v h' => v = vI (idxI L Pd) ∧ h' = h := by
  refine T201 ?_
  unfold R201
  refine ⟨fun m i h' => h' = h ∧ ∃ n : Nat, i = n ∧ n + m = L.length ∧ ∀ j (hj : j < n) (hj' : j < L.length), Pd (L[j]) = false, ⟨L.length, rfl, 0, rfl, by omega, fun j hj => by omega⟩, ?_⟩
  rintro m _ _ ⟨rfl, n, rfl, hnm, hb⟩
  refine br_split (fun e => ?_) (fun e => ?_)
  · have hn : n < L.length := by simpa using e
    obtain ⟨b, o, ha, hc⟩ := hs.get hn
    refine ⟨b, o, ha, ⟨by omega, by omega⟩, _, hc, ?_⟩
    refine Tri.mono (hf _ (List.getElem_mem hn)) ?_
    rintro _ h ⟨rfl, rfl⟩
    refine ⟨_, rfl, br_split (fun e2 => ?_) (fun e2 => ?_)⟩
    · exact ⟨by rw [idxI_some hn (fun j hj => hb j hj (by omega)) e2], rfl⟩
    · refine ⟨m - 1, by omega, ⟨rfl, n + 1, ?_, by omega, fun j hj hj' => ?_⟩, trivial⟩
      · rw [wrap64 (by omega) (by omega)]; rfl
      · by_cases e3 : j = n
        · subst e3; exact e2
        · exact hb j (by omega) hj'
  · have hn : ¬ n < L.length := by simpa using e
    exact ⟨by rw [idxI_none fun j hj => hb j (by omega) hj], rfl⟩

theorem containsFunc_tri {h : PHeap} {a : Option Addr} {L : List Bytes} {c f : Nat} {x y : List Value} (Pd : Bytes → Bool) (hs : StrAt h a L) (hl : L.length ≤ 1000000)
    (hf : ∀ l, l ∈ L → Tri Tryz.prog f (x ++ [vS l] ++ y) h fun v h' => v = vB (Pd l) ∧ h' = h) : Tri Tryz.prog 191 [vL a L.length c, vF f x y] h fun v h' => v = vB (L.any Pd) ∧ h' = h := by
  refine T191 ?_
  unfold R191
  refine Tri.mono (indexFunc_tri Pd hs hl hf) ?_
  rintro _ h ⟨rfl, rfl⟩
  exact ⟨_, rfl, by rw [idxI_any], rfl⟩

theorem index_tri {h : PHeap} {a : Option Addr} {L : List Bytes} {c : Nat} (w : Bytes) (hs : StrAt h a L) (hl : L.length ≤ 1000000) : Tri Tryz.prog 149 [vL a L.length c, vS w] h fun v h' => v = vI (idxI L fun l => w == l) ∧ h' = h := by
  refine T149 ?_
  unfold R149
  refine ⟨fun m i h' => h' = h ∧ ∃ n : Nat, i = n ∧ n + m = L.length ∧ ∀ j (hj : j < n) (hj' : j < L.length), (w == L[j]) = false, ⟨L.length, rfl, 0, rfl, by omega, fun j hj => by omega⟩, ?_⟩
  rintro m _ _ ⟨rfl, n, rfl, hnm, hb⟩
  refine br_split (fun e => ?_) (fun e => ?_)
  · have hn : n < L.length := by simpa using e
    obtain ⟨b, o, ha, hc⟩ := hs.get hn
    refine ⟨b, o, ha, ⟨by omega, by omega⟩, _, hc, br_split (fun e2 => ?_) (fun e2 => ?_)⟩
    · exact ⟨by rw [idxI_some (f := fun l => w == l) hn (fun j hj => hb j hj (by omega)) e2], rfl⟩
    · refine ⟨m - 1, by omega, ⟨rfl, n + 1, ?_, by omega, fun j hj hj' => ?_⟩, trivial⟩
      · rw [wrap64 (by omega) (by omega)]; rfl
      · by_cases e3 : j = n
        · subst e3; exact e2
        · exact hb j (by omega) hj'
  · have hn : ¬ n < L.length := by simpa using e
    exact ⟨by rw [idxI_none (f := fun l => w == l) fun j hj => hb j (by omega) hj], rfl⟩

theorem contains_tri {h : PHeap} {a : Option Addr} {L : List Bytes} {c : Nat} (w : Bytes) (hs : StrAt h a L) (hl : L.length ≤ 1000000) : Tri Tryz.prog 102 [vL a L.length c, vS w] h fun v h' => v = vB (L.contains w) ∧ h' = h := by
  refine T102 ?_
  unfold R102
  refine Tri.mono (index_tri w hs hl) ?_
  rintro _ h ⟨rfl, rfl⟩
  exact ⟨_, rfl, by rw [idxI_any, List.contains_eq_any_beq], rfl⟩
end Go.Proofs.D
/- The readers of expressions. -/
namespace Go.Proofs.D
open Go Go.Den Go.Sx
set_option maxRecDepth 100000
attribute [local irreducible] IntKind.wrap Tri

structure XOk (K : PK) (s : Bytes) (p : Nat) (f : Nat) : Prop where
  bin : ∀ {α : Type} (lv : Nat) (r : R α) (h : PHeap), lv ≤ 11 → PS K s h p r → NF (bindR r fun _ ts d => pBin f lv ts d) → Tri Tryz.prog 140 [vP p 0, vI lv] h (PE K s p h (bindR r fun _ ts d => pBin f lv ts d))
  un : ∀ {α : Type} (r : R α) (h : PHeap), PS K s h p r → NF (bindR r fun _ ts d => pUn f ts d) → Tri Tryz.prog 172 [vP p 0] h (PE K s p h (bindR r fun _ ts d => pUn f ts d))
  prim : ∀ {α : Type} (r : R α) (h : PHeap), PS K s h p r → NF (bindR r fun _ ts d => pPrim f ts d) → Tri Tryz.prog 192 [vP p 0] h (PE K s p h (bindR r fun _ ts d => pPrim f ts d))
  name : ∀ (ts : List Tok) (d : Int) (h : PHeap), POk K s h p ts d → isK ts 1 = true → NF (pName f ts d) → Tri Tryz.prog 202 [vP p 0] h (PE K s p h (pName f ts d))
  call : ∀ {α : Type} (t : Tok) (r : R α) (h : PHeap), PS K s h p r → NF (bindR r fun _ ts d => pCall f t ts d) → Tri Tryz.prog 193 [vP p 0, vA (tokC s t)] h (PE K s p h (bindR r fun _ ts d => pCall f t ts d))

section
variable {K : PK} {s : Bytes} {p : Nat}

theorem PE.mono_r {h : PHeap} {r r' : R E} {v : Value} {h' : PHeap} (he : r = r') (hp : PE K s p h r v h') : PE K s p h r' v h' := he ▸ hp

/-- expr is binary at level 1. -/
theorem expr_tri {f : Nat} (X : XOk K s p f) {α : Type} (r : R α) (h : PHeap) (hP : PS K s h p r) (hn : NF (bindR r fun _ ts d => pBin f 1 ts d)) : Tri Tryz.prog 91 [vP p 0] h (PE K s p h (bindR r fun _ ts d => pBin f 1 ts d)) := by
  refine T91 ?_
  unfold R91
  refine Tri.mono (X.bin 1 r h (by decide) hP hn) ?_
  rintro _ h1 ⟨c, rfl, hA, hx⟩
  exact ⟨_, _, _, _, _, _, _, _, _, _, rfl, c, rfl, hA, hx⟩

/-- From a call within to the function's own post. -/
theorem PE.after {h h1 h2 : PHeap} {r : R E} {v : Value} (hp : h1 p ≠ none) (hA : Away p h h1) (hE : PE K s p h1 r v h2) : PE K s p h r v h2 := by
  obtain ⟨c, rfl, hA2, hx⟩ := hE
  exact ⟨c, rfl, hA.trans hA2, hx.mono fun e he => he.ext (only_new (hA.dom hp))⟩

theorem name_ok {f : Nat} (X : XOk K s p f) (ts : List Tok) (d : Int) (h : PHeap) (hP : POk K s h p ts d) (h1 : isK ts 1 = true) (hn : NF (pName (f + 1) ts d)) : Tri Tryz.prog 202 [vP p 0] h (PE K s p h (pName (f + 1) ts d)) := by
  refine T202 ?_
  unfold R202
  have hk : (hd ts).kind ≠ 0 := by simp [isK] at h1; omega
  refine Tri.mono (advance_tri hP hk) ?_
  rintro _ h1 ⟨rfl, hc1, hP1⟩
  refine ⟨_, _, _, _, _, _, rfl, ?_⟩
  refine Tri.mono (is_tri (r := (.ok ((), ts.tail, d) : R Unit)) hP1 [40]) ?_
  rintro _ h1 ⟨rfl, rfl⟩
  refine ⟨_, rfl, ?_⟩
  unfold pName at hn ⊢
  refine br_split (fun e => ?_) (fun e => ?_)
  · have e : isT ts.tail [40] = true := e
    rw [if_pos e] at hn ⊢
    refine Tri.mono (X.call (hd ts) (.ok ((), ts.tail, d) : R Unit) h1 hP1 hn) ?_
    rintro _ h2 hE
    have hE' := PE.after (PS.mem (r := (.ok ((), ts.tail, d) : R Unit)) hP1) hc1.away hE
    obtain ⟨c, rfl, _, _⟩ := hE
    exact ⟨_, _, _, _, _, _, _, _, _, _, rfl, hE'⟩
  have e : isT ts.tail [40] = false := e
  rw [if_neg (by rw [e]; decide)] at hn ⊢
  refine Tri.mono (is_tri (r := (.ok ((), ts.tail, d) : R Unit)) hP1 [91]) ?_
  rintro _ h1 ⟨rfl, rfl⟩
  refine ⟨_, rfl, ?_⟩
  refine br_split (fun e2 => ?_) (fun e2 => ?_)
  · have e2 : isT ts.tail [91] = true := e2
    rw [if_pos e2] at hn ⊢
    refine Tri.mono (take_tri (r := (.ok ((), ts.tail, d) : R Unit)) hP1 [91]) ?_
    rintro _ h2 ⟨rfl, hc2, hP2⟩
    refine ⟨rfl, ?_⟩
    rw [bindR_ok] at hP2
    have he : (bindR (takeT [91] ts.tail d) fun _ ts' d => bindR (pBin f 1 ts' d) fun e ts' d => bindR (takeT [93] ts' d) fun _ ts' d => (.ok (.mk 4 [] (hd ts).text 0 [] [e] (hd ts).pos, ts', d) : R E)) =
      mapR (fun e => .mk 4 [] (hd ts).text 0 [] [e] (hd ts).pos) (thenR (bindR (takeT [91] ts.tail d) fun _ ts d => pBin f 1 ts d) fun ts d => takeT [93] ts d) := by
        simp only [mapR, thenR, bindR_bind, bindR_ok]
    rw [he] at hn ⊢
    refine Tri.mono (expr_tri X _ h2 hP2 hn.map.then.bind) ?_
    rintro _ h3 ⟨c, rfl, hA3, hx3⟩
    refine ⟨_, _, _, _, _, _, _, _, _, _, rfl, ?_⟩
    intro b hb h3' hh
    refine Tri.mono (take_tri (hx3.ps.ext (Put.ext hh hb)) [93]) ?_
    rintro _ h4 ⟨rfl, hc4, hP4⟩
    have hp0 : h p ≠ none := PS.mem (r := (.ok ((), ts, d) : R Unit)) hP
    have hA2 : Away p h h2 := hc1.away.trans hc2.away
    have hb0 : h b = none := (hA2.trans hA3).dom hx3.ps.mem b hb
    have hbp : b ≠ p := fun e => by subst e; exact hp0 hb0
    have hA4 : Away p h3 h4 := (Put.ext hh hb).away.trans hc4.away
    have hbk : only (New h) h4 b = some (.cells ⟨c.l⟩ 48 (0, 0)) := only_some.2 ⟨hb0, (hc4 b hbp).trans (Put.at hh)⟩
    have hx4 := hx3.then (rel' := fun e => RE (plP s) 8 (only (New h) h4) e c.l) hP4 fun e he => he.ext ((only_new (hA2.dom hP2.mem)).trans (only_away hp0 hA4))
    exact ⟨rfl, ⟨4, [], (hd ts).text, 0, [], ad b 0, 1, 1, _, _⟩, rfl, (hA2.trans hA3).trans hA4, hx4.map fun e he => RE_mk 4 [] _ 0 [] [e] _ (ad b 0) 1 (.inr ⟨b, 0, rfl, REs_one hbk he⟩)⟩
  · have e2 : isT ts.tail [91] = false := e2
    rw [if_neg (by rw [e2]; decide)]
    exact ⟨⟨3, [], (hd ts).text, 0, [], none, 0, 0, _, _⟩, rfl, hc1.away, hP1, none, 0, rfl, .inl rfl⟩

theorem un_ok {f : Nat} (X : XOk K s p f) {α : Type} (r : R α) (h : PHeap) (hP : PS K s h p r) (hn : NF (bindR r fun _ ts d => pUn (f + 1) ts d)) : Tri Tryz.prog 172 [vP p 0] h (PE K s p h (bindR r fun _ ts d => pUn (f + 1) ts d)) := by
  refine T172 ?_
  unfold R172
  intro b hb h1 hh1
  have hP1 : PS K s h1 p r := hP.ext (Put.ext hh1 hb)
  have hA1 : Away p h h1 := (Put.ext hh1 hb).away
  have hs : StrAt h1 (ad b 0) [[45], [33], [126]] := .inr ⟨b, 0, rfl, fun j l hj => by
    rw [cell_of (Put.at hh1)]
    match j, hj with
    | 0, hj => simp at hj; subst hj; rfl
    | 1, hj => simp at hj; subst hj; rfl
    | 2, hj => simp at hj; subst hj; rfl
    | j + 3, hj => simp at hj⟩
  clear hh1
  have hf : ∀ l, l ∈ ([[45], [33], [126]] : List Bytes) → Tri Tryz.prog 44 ([vP p 0] ++ [vS l] ++ []) h1 fun v h' => v = vB (isTr r l) ∧ h' = h1 := fun l _ => is_tri hP1 l
  have hl : ([[45], [33], [126]] : List Bytes).length ≤ 1000000 := by decide
  refine Tri.mono (containsFunc_tri (c := 3) (x := [vP p 0]) (y := []) (isTr r) hs hl hf) ?_
  rintro _ h1 ⟨rfl, rfl⟩
  refine ⟨_, rfl, ?_⟩
  refine br_split (fun e => ?_) (fun e => ?_)
  · have he : (bindR r fun _ ts d => pUn (f + 1) ts d) = bindR r fun _ ts d => pPrim f ts d := by
      match r, e with
      | .error x, e => rfl
      | .ok (x, ts, d), e =>
        simp only [bindR_ok]
        unfold pUn
        simp [isTr] at e
        rw [if_neg (by simp [e])]
    rw [he] at hn ⊢
    refine Tri.mono (X.prim r h1 hP1 hn) ?_
    rintro _ h2 hE
    have hE' := PE.after hP1.mem hA1 hE
    obtain ⟨c, rfl, _, _⟩ := hE
    exact ⟨_, _, _, _, _, _, _, _, _, _, rfl, hE'⟩
  · match r, hP, hP1, hn, e with
    | .error x, hP, hP1, hn, e => simp [isTr] at e
    | .ok (x, ts, d), hP, hP1, hn, e =>
      have e' : (isT ts [45] || isT ts [33] || isT ts [126]) = true := by
        have e : ([[45], [33], [126]].any (isTr (.ok (x, ts, d) : R α))) = true := by
          rw [Bool.not_eq_false'] at e; exact e
        simp only [List.any_cons, List.any_nil, isTr, Bool.or_false] at e
        rw [Bool.or_assoc]; exact e
      have hk : (hd ts).kind ≠ 0 := by
        simp only [Bool.or_eq_true] at e'
        rcases e' with (e' | e') | e' <;> exact isT_kind e'
      have he : (bindR (.ok (x, ts, d) : R α) fun _ ts d => pUn (f + 1) ts d) = mapR (fun e => .mk 6 (hd ts).text [] 0 [] [e] (hd ts).pos) (pUn f ts.tail d) := by
        rw [bindR_ok]; conv => lhs; unfold pUn
        rw [if_pos e']; rfl
      rw [he] at hn ⊢
      refine Tri.mono (advance_tri hP1 hk) ?_
      rintro _ h2 ⟨rfl, hc2, hP2⟩
      refine ⟨_, _, _, _, _, _, rfl, ?_⟩
      refine Tri.mono (X.un (.ok ((), ts.tail, d) : R Unit) h2 hP2 hn.map) ?_
      rintro _ h3 ⟨c, rfl, hA3, hx3⟩
      refine ⟨_, _, _, _, _, _, _, _, _, _, rfl, rfl, rfl, rfl, ?_⟩
      intro b2 hb2 h4 hh
      have hp0 : h p ≠ none := hP.mem
      have hA2 : Away p h h2 := hA1.trans hc2.away
      have hb0 : h b2 = none := (hA2.trans hA3).dom hx3.ps.mem b2 hb2
      have hbk : only (New h) h4 b2 = some (.cells ⟨c.l⟩ 48 (0, 0)) := only_some.2 ⟨hb0, Put.at hh⟩
      have hx4 := hx3.ext (rel' := fun e => RE (plP s) 8 (only (New h) h4) e c.l) (Put.ext hh hb2) fun e he => he.ext ((only_new (hA2.dom (PS.mem (r := (.ok ((), ts.tail, d) : R Unit)) hP2))).trans (only_away hp0 (Put.ext hh hb2).away))
      exact ⟨rfl, rfl, rfl, ⟨6, (hd ts).text, [], 0, [], ad b2 0, 1, 1, _, _⟩, rfl, (hA2.trans hA3).trans (Put.ext hh hb2).away, hx4.map fun e he => RE_mk 6 _ [] 0 [] [e] _ (ad b2 0) 1 (.inr ⟨b2, 0, rfl, REs_one hbk he⟩)⟩

theorem isKr_ok {α : Type} {r : R α} {k : Nat} (e : isKr r k = true) : ∃ x ts d, r = .ok (x, ts, d) ∧ isK ts k = true := by
  match r, e with
  | .error x, e => cases e
  | .ok (x, ts, d), e => exact ⟨x, ts, d, rfl, e⟩

theorem prim_ok {f : Nat} (X : XOk K s p f) {α : Type} (r : R α) (h : PHeap) (hP : PS K s h p r) (hn : NF (bindR r fun _ ts d => pPrim (f + 1) ts d)) : Tri Tryz.prog 192 [vP p 0] h (PE K s p h (bindR r fun _ ts d => pPrim (f + 1) ts d)) := by
  refine T192 ?_
  unfold R192
  refine Tri.mono (isKind_tri hP 2) ?_
  rintro _ h ⟨rfl, rfl⟩
  refine ⟨_, rfl, br_split (fun e => ?_) (fun e => ?_)⟩
  · obtain ⟨x, ts, d, rfl, k1⟩ := isKr_ok e
    rw [bindR_ok] at hn ⊢
    refine Tri.mono (advance_tri hP (by simp [isK] at k1; omega)) ?_
    rintro _ h1 ⟨rfl, hc1, hP1⟩
    refine ⟨_, _, _, _, _, _, rfl, ⟨1, [], [], _, [], none, 0, 0, _, _⟩, rfl, hc1.away, ?_⟩
    unfold pPrim; rw [if_pos k1]
    exact ⟨hP1, none, 0, rfl, .inl rfl⟩
  refine Tri.mono (isKind_tri hP 3) ?_
  rintro _ h ⟨rfl, rfl⟩
  refine ⟨_, rfl, br_split (fun e2 => ?_) (fun e2 => ?_)⟩
  · obtain ⟨x, ts, d, rfl, k2⟩ := isKr_ok e2
    rw [bindR_ok] at hn ⊢
    refine Tri.mono (advance_tri hP (by simp [isK] at k2; omega)) ?_
    rintro _ h1 ⟨rfl, hc1, hP1⟩
    refine ⟨_, _, _, _, _, _, rfl, ⟨2, [], [], 0, _, none, 0, 0, _, _⟩, rfl, hc1.away, ?_⟩
    unfold pPrim; rw [if_neg (by rw [show isK ts 2 = false from e]; decide), if_pos k2]
    exact ⟨hP1, none, 0, rfl, .inl rfl⟩
  refine Tri.mono (isKind_tri hP 1) ?_
  rintro _ h ⟨rfl, rfl⟩
  refine ⟨_, rfl, br_split (fun e3 => ?_) (fun e3 => ?_)⟩
  · obtain ⟨x, ts, d, rfl, k3⟩ := isKr_ok e3
    rw [bindR_ok] at hn ⊢
    have he : pPrim (f + 1) ts d = pName f ts d := by
      conv => lhs; unfold pPrim
      rw [if_neg (by rw [show isK ts 2 = false from e]; decide), if_neg (by rw [show isK ts 3 = false from e2]; decide), if_pos k3]
    rw [he] at hn ⊢
    refine Tri.mono (X.name ts d h hP k3 hn) ?_
    rintro _ h1 hE
    have hE' := hE
    obtain ⟨c, rfl, _, _⟩ := hE
    exact ⟨_, _, _, _, _, _, _, _, _, _, rfl, hE'⟩
  have he : (bindR r fun _ ts d => pPrim (f + 1) ts d) = thenR (bindR (bindR r fun _ ts d => takeT [40] ts d) fun _ ts d => pBin f 1 ts d) fun ts d => takeT [41] ts d := by
    match r, e, e2, e3 with
    | .error x, _, _, _ => rfl
    | .ok (x, ts, d), e, e2, e3 =>
      simp only [bindR_ok]
      conv => lhs; unfold pPrim
      rw [if_neg (by rw [show isK ts 2 = false from e]; decide), if_neg (by rw [show isK ts 3 = false from e2]; decide), if_neg (by rw [show isK ts 1 = false from e3]; decide)]
      simp only [thenR, bindR_bind, bindR_ok]
  rw [he] at hn ⊢
  refine Tri.mono (take_tri hP [40]) ?_
  rintro _ h1 ⟨rfl, hc1, hP1⟩
  refine ⟨rfl, ?_⟩
  obtain ⟨i, hi, hz⟩ := hP1.err
  refine ⟨i, hi, br_split (fun e4 => ?_) (fun e4 => ?_)⟩
  · generalize (bindR r fun _ ts d => takeT [40] ts d) = r1 at *
    match r1, hP1, hz with
    | .ok x, hP1, hz => simp [okR] at hz e4; exact absurd hz e4
    | .error x, hP1, hz => exact ⟨⟨0, [], [], 0, [], none, 0, 0, 0, 0⟩, rfl, hc1.away, hP1⟩
  · refine Tri.mono (expr_tri X _ h1 hP1 hn.then.bind) ?_
    rintro _ h2 ⟨c, rfl, hA2, hx2⟩
    refine ⟨_, _, _, _, _, _, _, _, _, _, rfl, ?_⟩
    refine Tri.mono (take_tri hx2.ps [41]) ?_
    rintro _ h3 ⟨rfl, hc3, hP3⟩
    refine ⟨rfl, c, rfl, (hc1.away.trans hA2).trans hc3.away, hx2.then hP3 ?_⟩
    exact fun e he => he.ext ((only_new (hc1.away.dom hP1.mem)).trans (only_away hP.mem hc3.away))

theorem pLoop_succ (f lv : Nat) (e : E) (ts : List Tok) (d : Int) : pLoop (f + 1) lv e ts d = if isK ts 5 && levelS (hd ts).text == lv then
      bindR (pBin f (lv + 1) ts.tail d) fun e' ts' d' => pLoop f lv (.mk 7 (hd ts).text [] 0 [] [e, e'] (hd ts).pos) ts' d'
    else .ok (e, ts, d) := by
  conv => lhs; unfold pLoop

theorem bin_ok {f : Nat} (X : ∀ g, g ≤ f → XOk K s p g) {α : Type} (lv : Nat) (r : R α) (h : PHeap) (hlv : lv ≤ 11) (hP : PS K s h p r) (hn : NF (bindR r fun _ ts d => pBin (f + 1) lv ts d)) : Tri Tryz.prog 140 [vP p 0, vI lv] h (PE K s p h (bindR r fun _ ts d => pBin (f + 1) lv ts d)) := by
  refine T140 ?_
  unfold R140
  have hp0 : h p ≠ none := hP.mem
  refine br_split (fun e => ?_) (fun e => ?_)
  · have e : lv = 11 := by
      have : (lv : Int) = 11 := by simpa using e
      omega
    have he : (bindR r fun _ ts d => pBin (f + 1) lv ts d) = bindR r fun _ ts d => pUn f ts d := by
      congr 1; funext _ ts d; conv => lhs; unfold pBin
      rw [if_pos e]
    rw [he] at hn ⊢
    refine Tri.mono ((X f (Nat.le_refl _)).un r h hP hn) ?_
    rintro _ h1 hE
    have hE' := hE
    obtain ⟨c, rfl, _, _⟩ := hE
    exact ⟨_, _, _, _, _, _, _, _, _, _, rfl, hE'⟩
  have e : lv ≠ 11 := by
    have : ¬ (lv : Int) = 11 := by simpa using e
    omega
  have he : (bindR r fun _ ts d => pBin (f + 1) lv ts d) = bindR (bindR r fun _ ts d => pBin f (lv + 1) ts d) fun e ts d => pLoop f lv e ts d := by
    rw [bindR_bind]; congr 1; funext _ ts d; conv => lhs; unfold pBin
    rw [if_neg e]
  rw [he] at hn ⊢
  have hw : IntKind.i64.wrap ((lv : Int) + 1) = ((lv + 1 : Nat) : Int) := by rw [wrap64 (by omega) (by omega)]; rfl
  rw [hw]
  refine Tri.mono ((X f (Nat.le_refl _)).bin (lv + 1) r h (by omega) hP hn.bind) ?_
  rintro _ h2 ⟨c, rfl, hA2, hx2⟩
  refine ⟨_, _, _, _, _, _, _, _, _, _, rfl, ?_⟩
  generalize hfin : (bindR (bindR r fun _ ts d => pBin f (lv + 1) ts d) fun e ts d => pLoop f lv e ts d) = fin at *
  refine ⟨fun m k op nm vl tx a n cc ln cl h' => ∃ r' : R E, m ≤ f ∧ Away p h h' ∧ PX K s h' p r' (fun e => RE (plP s) 8 (only (New h) h') e (EC.l ⟨k, op, nm, vl, tx, a, n, cc, ln, cl⟩)) ∧ (bindR r' fun e ts d => pLoop m lv e ts d) = fin,
    ⟨f, _, Nat.le_refl _, hA2, hx2, hfin⟩, ?_⟩
  rintro m k op nm vl tx a n cc ln cl h3 ⟨r', hm, hA3, hx3, hf3⟩
  refine Tri.mono (isKind_tri hx3.ps 5) ?_
  rintro _ h3 ⟨rfl, rfl⟩
  refine ⟨_, rfl, br_split (fun e1 => ?_) (fun e1 => ?_)⟩
  · obtain ⟨x, ts, d, rfl, k5⟩ := isKr_ok e1
    obtain ⟨hP3, hE3⟩ := hx3
    have hP3' := hP3
    obtain ⟨⟨o, c', l', k', hp, hT, hc, _⟩, hI, hend, hlo, hhi, hl2, hwf⟩ := hP3'
    refine ⟨_, _, _, PB_cell hp 0, K.tok, o, rfl, ⟨Int.le_refl _, len_pos hend⟩, _, (POk.row hT hend).2.1, ?_⟩
    refine Tri.mono (level_tri _ _) ?_
    rintro _ h3 ⟨rfl, rfl⟩
    rw [bindR_ok] at hf3
    refine ⟨_, rfl, br_split (fun e2 => ?_) (fun e2 => ?_)⟩
    · have e2 : (levelS (hd ts).text == lv) = true := by rw [← kind_beq]; exact e2
      match m, hf3, hm with
      | 0, hf3, hm => exact absurd hf3.symm hn
      | m + 1, hf3, hm =>
        rw [pLoop_succ, if_pos (by rw [k5, e2]; rfl)] at hf3
        have hk : (hd ts).kind ≠ 0 := by simp [isK] at k5; omega
        refine Tri.mono (advance_tri hP3 hk) ?_
        rintro _ h4 ⟨rfl, hc4, hP4⟩
        refine ⟨_, _, _, _, _, _, rfl, ?_⟩
        have hnb : NF (pBin m (lv + 1) ts.tail d) := by rw [← hf3] at hn; exact hn.bind
        refine Tri.mono ((X m (by omega)).bin (lv + 1) (.ok ((), ts.tail, d) : R Unit) h4 (by omega) hP4 hnb) ?_
        rintro _ h5 ⟨c2, rfl, hA5, hx5⟩
        refine ⟨_, _, _, _, _, _, _, _, _, _, rfl, ?_⟩
        intro b2 hb2 h6 hh
        have hA4 : Away p h h4 := hA3.trans hc4.away
        have hb0 : h b2 = none := (hA4.trans hA5).dom hx5.ps.mem b2 hb2
        have hA6 : Away p h4 h6 := hA5.trans (Put.ext hh hb2).away
        have hbk : only (New h) h6 b2 = some (.cells ⟨EC.l ⟨k, op, nm, vl, tx, a, n, cc, ln, cl⟩ ++ c2.l⟩ 48 (0, 0)) := only_some.2 ⟨hb0, Put.at hh⟩
        have hx6 := hx5.ext (rel' := fun e => RE (plP s) 8 (only (New h) h6) e c2.l) (Put.ext hh hb2) fun e he => he.ext ((only_new (hA4.dom (PS.mem (r := (.ok ((), ts.tail, d) : R Unit)) hP4))).trans (only_away hp0 (Put.ext hh hb2).away))
        have hE6 := hE3.ext (only_away hp0 (hc4.away.trans hA6))
        refine ⟨m, by omega, ⟨mapR (fun e' => .mk 7 (hd ts).text [] 0 [] [x, e'] (hd ts).pos) (pBin m (lv + 1) ts.tail d), by omega, hA4.trans hA6, ?_, ?_⟩, rfl, trivial⟩
        · exact hx6.map fun e he => RE_mk 7 _ [] 0 [] [x, e] _ (ad b2 0) 2 (.inr ⟨b2, 0, rfl, REs_two rfl hbk hE6 he⟩)
        · rw [← hf3]; simp only [mapR, bindR_bind, bindR_ok]
    · have e2 : (levelS (hd ts).text == lv) = false := by rw [← kind_beq]; exact e2
      have : fin = .ok (x, ts, d) := by
        match m, hf3 with
        | 0, hf3 => exact absurd hf3.symm hn
        | m + 1, hf3 => rw [← hf3, pLoop_succ, if_neg (by rw [k5, e2]; decide)]
      rw [this]
      exact ⟨_, rfl, hA3, hP3, hE3⟩
  · have : fin = r' := by
      match r', hf3, e1 with
      | .error x, hf3, e1 => exact hf3.symm
      | .ok (x, ts, d), hf3, e1 =>
        rw [bindR_ok] at hf3
        match m, hf3 with
        | 0, hf3 => exact absurd hf3.symm hn
        | m + 1, hf3 => rw [← hf3, pLoop_succ, if_neg (by rw [show isK ts 5 = false from e1]; simp)]
    rw [this]
    exact ⟨_, rfl, hA3, hx3⟩
end
end Go.Proofs.D
/- Lists that grow by append. -/
namespace Go.Proofs.D
open Go Go.Den Go.Sx
set_option maxRecDepth 100000
attribute [local irreducible] IntKind.wrap Tri

/-- An element's type: its cells. -/
def ElemT (e k : Nat) : Prop := ∃ i z, Tryz.prog.info? e = some i ∧ i.zero = some z ∧ z.cells.size = k ∧ i.size = k ∧ i.bytes ≤ 200

theorem append_one {h : PHeap} {e t ty : TypeId} {k : Nat} (hu : Tryz.prog.underlying t = some (.slice e)) (he : ElemT e k) {ρ : Operand → Value} {c : Call} {x y : Operand} (hc : c.callee = .builtin .append) (ha : c.args = #[x, y]) (hts : c.argTypes = #[t, t])
    {a : Option Addr} {n cp b2 : Nat} {xs ys : List Value} (hx : ρ x = vL a n cp) (hy : ρ y = vL (ad b2 0) 1 1) (ho : Own h e k (vL a n cp) n xs) (hb2 : h b2 = some (.cells ⟨ys⟩ e (0, 0))) (hl : ys.length = k) (h1 : allOne ys = true) (hn : n ≤ 10000000) :
    Raw Tryz.prog (execOp ρ (mkO (.call c) ty)) h fun v h' => ∃ b cap, v = vL (ad b 0) (n + 1) cap ∧ Own h' e k (vL (ad b 0) (n + 1) cap) (n + 1) (xs ++ ys) ∧ (h b = none ∨ a = ad b 0) ∧ Chg b h h' := by
  obtain ⟨i, z, hi, hz, hzc, hk, hby⟩ := he
  subst hk
  have hsrc : SrcH Tryz.prog h i.size t (vL (ad b2 0) 1 1) 1 ys := SrcH.row hu (by omega) (row_lit hb2 fun j v hj => by simpa using hj) h1
  have hbig : (16 * (n + 1) + 16384) * i.bytes ≤ 281474976710656 := by
    have : (16 * (n + 1) + 16384) * i.bytes ≤ (16 * (n + 1) + 16384) * 200 := Nat.mul_le_mul_left _ hby
    omega
  refine Raw.mono (raw_append hc ha hts hu hi hz hx hy ho hsrc hzc (by omega) hbig (by omega)) ?_
  rintro v h' ⟨b, cap, rest, rfl, rfl, hr, hcap, hb⟩
  have hxl := ho.1
  refine ⟨b, cap, rfl, ⟨?_, .inr ⟨b, cap, rest, rfl, put_same _ _ _, hr, hcap⟩⟩, ?_, Chg.put _ _ _⟩
  · rw [List.length_append, hxl, hl, Nat.add_mul]; omega
  · rcases hb with hb | ⟨c2, hb⟩
    · exact .inl hb
    · injection hb with h1 h2 h3; exact .inr h1

/-- A list that a function builds: its array is the function's own. -/
structure LM (e k : Nat) (h0 h : PHeap) (a : Option Addr) (n c : Nat) (css : List (List Value)) : Prop where
  own : ∀ b, a = ad b 0 → h0 b = none ∧ h b ≠ none
  len : css.length = n
  each : ∀ (j : Nat) (cs : List Value), css[j]? = some cs → cs.length = k
  row : Own h e k (vL a n c) n css.flatten

/-- What its elements stand for. -/
def LR {α : Type} (rel : PHeap → α → List Value → Prop) (h0 h : PHeap) (a : Option Addr) (css : List (List Value)) (xs : List α) : Prop :=
  css.length = xs.length ∧ ∀ (j : Nat) (x : α) (cs : List Value), xs[j]? = some x → css[j]? = some cs → rel (only (fun b => New h0 b ∧ a ≠ ad b 0) h) x cs

/-- A list in memory. -/
def At {α : Type} (k : Nat) (rel : PHeap → α → List Value → Prop) (h : PHeap) (a : Option Addr) (xs : List α) : Prop :=
  xs = [] ∨ ∃ b o, a = ad b o ∧ ∀ (j : Nat) (x : α), xs[j]? = some x → ∃ cs, h.row b (o + j * k) cs ∧ rel h x cs

structure Mono {α : Type} (rel : PHeap → α → List Value → Prop) : Prop where
  ap : ∀ {h h' : PHeap} {x : α} {cs : List Value}, Ext h h' → rel h x cs → rel h' x cs

section
variable {α : Type} {e k : Nat} {rel : PHeap → α → List Value → Prop} {h0 h h' : PHeap} {a : Option Addr} {n c : Nat} {xs : List α}

theorem At.ext (hm : Mono rel) (x : Ext h h') (ha : At k rel h a xs) : At k rel h' a xs := by
  rcases ha with ha | ⟨b, o, ha, hj⟩
  · exact .inl ha
  · exact .inr ⟨b, o, ha, fun j y hy => let ⟨cs, h1, h2⟩ := hj j y hy; ⟨cs, row_ext (fun ob => x b ob) h1, hm.ap x h2⟩⟩

theorem LM.nil : LM e k h0 h none 0 0 [] :=
  ⟨(fun b hb => by cases hb), rfl, (fun j cs hj => by simp at hj), by simp, .inl ⟨rfl, rfl⟩⟩
theorem LR.nil : LR rel h0 h none [] ([] : List α) := ⟨rfl, fun j x cs hx => by simp at hx⟩

theorem Own.keep {xs : List Value} (hb : ∀ b, a = ad b 0 → h' b = h b) (ho : Own h e k (vL a n c) n xs) : Own h' e k (vL a n c) n xs := by
  refine ⟨ho.1, ?_⟩
  rcases ho.2 with h1 | ⟨b', cap, rest, h1, h2, h3, h4⟩
  · exact .inl h1
  · injection h1 with e1 e2 e3
    subst e3
    exact .inr ⟨b', c, rest, by rw [e1], by rw [hb b' e1]; exact h2, h3, h4⟩

variable {css : List (List Value)}
/-- The list stays where the heap grows, but for a block of before. -/
theorem LM.away {p : Nat} (hp : h0 p ≠ none) (x : Away p h h') (hL : LM e k h0 h a n c css) : LM e k h0 h' a n c css := by
  obtain ⟨h2, h3, h4, h5⟩ := hL
  have hk : ∀ b, a = ad b 0 → h' b = h b := fun b hb => by
    obtain ⟨g1, g2⟩ := h2 b hb
    cases e : h b with
    | none => exact absurd e g2
    | some o => exact x b o (fun e => by subst e; exact hp g1) e
  exact ⟨fun b hb => ⟨(h2 b hb).1, by rw [hk b hb]; exact (h2 b hb).2⟩, h3, h4, Own.keep hk h5⟩
theorem LM.ext (x : Ext h h') (hL : LM e k h0 h a n c css) : LM e k h0 h' a n c css := by
  obtain ⟨h2, h3, h4, h5⟩ := hL
  have hk : ∀ b, a = ad b 0 → h' b = h b := fun b hb => by
    obtain ⟨g1, g2⟩ := h2 b hb
    cases e : h b with
    | none => exact absurd e g2
    | some o => exact x b o e
  exact ⟨fun b hb => ⟨(h2 b hb).1, by rw [hk b hb]; exact (h2 b hb).2⟩, h3, h4, Own.keep hk h5⟩
theorem LR.away (hm : Mono rel) {p : Nat} (hp : h0 p ≠ none) (x : Away p h h') (hL : LR rel h0 h a css xs) : LR rel h0 h' a css xs :=
  ⟨hL.1, fun j y cs hy hc => hm.ap (only_ext fun k o hn hk => ⟨hn, x k o (fun e => by subst e; exact hp hn.1) hk⟩) (hL.2 j y cs hy hc)⟩
theorem LR.ext (hm : Mono rel) (x : Ext h h') (hL : LR rel h0 h a css xs) : LR rel h0 h' a css xs :=
  ⟨hL.1, fun j y cs hy hc => hm.ap (only_ext fun k o hn hk => ⟨hn, x k o hk⟩) (hL.2 j y cs hy hc)⟩

/-- What is new after a call is apart from the list. -/
theorem LM.new (hL : LM e k h0 h a n c css) (hd : ∀ b, h b = none → h0 b = none) : Ext (only (New h) h') (only (fun b => New h0 b ∧ a ≠ ad b 0) h') :=
  only_ext fun b o hn hk => ⟨⟨hd b hn, fun e => (hL.own b e).2 hn⟩, hk⟩

theorem flatten_row {k : Nat} : ∀ {css : List (List Value)} {j : Nat} {cs : List Value}, (∀ (i : Nat) (c : List Value), css[i]? = some c → c.length = k) → css[j]? = some cs → ∀ (i : Nat) (v : Value), cs[i]? = some v → css.flatten[j * k + i]? = some v
  | [], j, cs, _, hj, _, _, _ => by simp at hj
  | c :: css, 0, cs, hl, hj, i, v, hv => by
    simp at hj; subst hj
    have : i < c.length := (List.getElem?_eq_some_iff.1 hv).1
    simp [List.getElem?_append_left this, hv]
  | c :: css, j + 1, cs, hl, hj, i, v, hv => by
    have h0 := hl 0 c rfl
    have := flatten_row (k := k) (css := css) (j := j) (cs := cs) (fun i c hc => hl (i + 1) c (by simpa using hc)) (by simpa using hj) i v hv
    rw [List.flatten_cons, List.getElem?_append_right (by rw [h0, Nat.add_mul]; omega), h0, Nat.add_mul, show j * k + 1 * k + i - k = j * k + i by omega]
    exact this

/-- The list when it is done. -/
theorem LM.at (hm : Mono rel) (hM : LM e k h0 h a n c css) (hL : LR rel h0 h a css xs) : At k rel (only (New h0) h) a xs := by
  obtain ⟨h2, h3, h4, h5⟩ := hM
  obtain ⟨g0, h6⟩ := hL
  rcases h5.2 with ⟨g1, g2⟩ | ⟨b, cap, rest, g1, g2, g3, g4⟩
  · left; exact List.eq_nil_of_length_eq_zero (by omega)
  · injection g1 with g1 _ _
    right
    refine ⟨b, 0, g1, fun j x hx => ?_⟩
    have hj : j < css.length := by rw [g0]; exact (List.getElem?_eq_some_iff.1 hx).1
    have hcs : css[j]? = some css[j] := List.getElem?_eq_getElem hj
    refine ⟨css[j], ?_, hm.ap (only_ext fun b o hn hk => ⟨hn.1, hk⟩) (h6 j x _ hx hcs)⟩
    have hbk : only (New h0) h b = some (.cells ⟨css.flatten ++ rest⟩ e (0, 0)) := only_some.2 ⟨(h2 b g1).1, g2⟩
    refine row_lit hbk fun i v hv => ?_
    have hfl := flatten_row (k := k) h4 hcs i v hv
    rw [Nat.zero_add, List.getElem?_append_left (List.getElem?_eq_some_iff.1 hfl).1]
    exact hfl

/-- One element more. -/
theorem LM.append {t ty : TypeId} (hu : Tryz.prog.underlying t = some (.slice e)) (he : ElemT e k) {ρ : Operand → Value} {cl : Call} {x y : Operand} (hcl : cl.callee = .builtin .append) (hca : cl.args = #[x, y]) (hts : cl.argTypes = #[t, t])
    {b2 : Nat} {cs : List Value} (hx : ρ x = vL a n c) (hy : ρ y = vL (ad b2 0) 1 1) (hL : LM e k h0 h a n c css) (hb2 : h b2 = none) (hh : h' = h.put b2 (.cells ⟨cs⟩ e (0, 0))) (hl : cs.length = k) (h1 : allOne cs = true) (hn : n ≤ 10000000)
    (hd : ∀ b, h b = none → h0 b = none) :
    Raw Tryz.prog (execOp ρ (mkO (.call cl) ty)) h' fun w h2 => ∃ b cap, w = vL (ad b 0) (n + 1) cap ∧ (∀ q o, h0 q ≠ none → h q = some o → h2 q = some o) ∧ (∀ q, h2 q = none → h q = none) ∧ h0 b = none ∧ (∀ q o, ad b 0 ≠ ad q 0 → h q = some o → h2 q = some o) ∧
      LM e k h0 h2 (ad b 0) (n + 1) cap (css ++ [cs]) ∧ ∀ {α : Type} {rel : PHeap → α → List Value → Prop} {xs : List α} {v : α}, Mono rel → LR rel h0 h a css xs → rel (only (fun b => New h0 b ∧ a ≠ ad b 0) h) v cs → LR rel h0 h2 (ad b 0) (css ++ [cs]) (xs ++ [v]) := by
  have hL' := hL.ext (Put.ext hh hb2)
  obtain ⟨g2, g3, g4, g5⟩ := hL'
  refine Raw.mono (append_one hu he hcl hca hts hx hy g5 (Put.at hh) hl h1 hn) ?_
  rintro w h2 ⟨b, cap, rfl, ho, hb, hc⟩
  have hbh : h' b ≠ none → a = ad b 0 := fun hne => hb.resolve_left hne
  have hb0 : h0 b = none := by
    rcases hb with hb | hb
    · refine hd b ?_
      cases e : h b with
      | none => rfl
      | some o => rw [Put.ext hh hb2 b o e] at hb; cases hb
    · exact (g2 b hb).1
  have hown : h2 b ≠ none := by
    rcases ho.2 with ⟨g, _⟩ | ⟨b', c', rest, g, g', _⟩
    · cases g
    · injection g with g; injection g with g; injection g with g; subst g; rw [g']; exact fun e => by cases e
  have hq : ∀ q o, q ≠ b → h q = some o → h2 q = some o := fun q o e hqo => by rw [hc q e]; exact Put.ext hh hb2 q o hqo
  refine ⟨b, cap, rfl, fun q o hq0 hqo => hq q o (fun e => by subst e; exact hq0 hb0) hqo, fun q hqn => ?_, hb0, fun q o e hqo => hq q o (fun e' => by subst e'; exact e rfl) hqo, ⟨fun q hq => ?_, by simp [g3], fun j cs' hj => ?_, by simpa using ho⟩, fun {α rel xs v} hm hR hrel => ⟨by simp [hR.1], fun j x cs' hx hcs => ?_⟩⟩
  · by_cases e : q = b
    · subst e; exact absurd hqn hown
    · cases e2 : h q with
      | none => rfl
      | some o => rw [hq q o e e2] at hqn; cases hqn
  · injection hq with hq; injection hq with hq; subst hq
    exact ⟨hb0, hown⟩
  · by_cases hj' : j < css.length
    · rw [List.getElem?_append_left hj'] at hj; exact g4 j cs' hj
    · have : j = css.length := by
        have := (List.getElem?_eq_some_iff.1 hj).1
        simp at this; omega
      subst this
      have e2 : cs' = cs := by simpa using hj.symm
      subst e2; exact hl
  · have hold : Ext (only (fun b => New h0 b ∧ a ≠ ad b 0) h) (only (fun q => New h0 q ∧ ad b 0 ≠ ad q 0) h2) := only_ext fun q o hq' hqo => by
      have hqb : q ≠ b := fun e => by
        subst e
        exact hq'.2 (hbh (by rw [Put.ext hh hb2 q o hqo]; exact fun e => by cases e))
      exact ⟨⟨hq'.1, fun e => hqb (by injection e with e; injection e with e; exact e.symm)⟩, hq q o hqb hqo⟩
    by_cases hj : j < xs.length
    · rw [List.getElem?_append_left hj] at hx
      rw [List.getElem?_append_left (by rw [hR.1]; exact hj)] at hcs
      exact hm.ap hold (hR.2 j x cs' hx hcs)
    · have : j = xs.length := by
        have := (List.getElem?_eq_some_iff.1 hx).1
        simp at this; omega
      subst this
      have e1 : x = v := by simpa using hx.symm
      have e2 : cs' = cs := by rw [← hR.1] at hcs; simpa using hcs.symm
      subst e1; subst e2
      exact hm.ap hold hrel
end
end Go.Proofs.D
namespace Go.Proofs.D
open Go Go.Den
set_option maxRecDepth 100000
set_option maxHeartbeats 4000000
/- replevin/lexer.find -/
abbrev o87_0 : Op := .binOp Go.BinOp.lss 3 (Go.Operand.tmp 10) (Go.Operand.tmp 9) 3
abbrev o87_1 : Op := .extract (Go.Operand.tmp 14) 0
abbrev o87_2 : Op := .extract (Go.Operand.tmp 14) 1
abbrev o87_3 : Op := .binOp Go.BinOp.add 3 (Go.Operand.tmp 10) (Go.Operand.const (vI 1)) 3
def d87 : DCode :=
  .seq (.ops [⟨some 2, .base (.alloc 164 [vI 0, vS [], vI 0, vS [], vI 0, vI 0, vI 0, vI 0, vI 0] false), none⟩,
  ⟨some 3, .base (.mv (.const (vB false))), none⟩])
 (.seq (.seq (.ops [⟨some 8, .heap (.buildSlice 166 5 [.nilFunc, .nilFunc, .nilFunc, .nilFunc, .nilFunc] [(0, 1, .func 134), (1, 1, .func 135), (2, 1, .func 136), (3, 1, .func 137), (4, 1, .func 138)]), none⟩,
  ⟨some 9, .base (.len false (.tmp 8)), none⟩,
  ⟨some 10, .base (.mv (.const (vI 0))), none⟩])
 (.block 0 (.loop [11, 12, 13, 5, 15, 16, 17, 14, 18, 19, 6, 7, 20, 21, 3, 22, 10] [(10, .int .i64)] [(2, [.int .i64, .str, .int .i64, .str, .int .i64, .int .i64, .int .i64, .int .i64, .int .i64])] (.seq (.ops [⟨some 11, .base (.pure o87_0 0), none⟩])
     (.seq (.cond (.tmp 11) (.skip)
     (.exit 0))
     (.seq (.block 1 (.seq (.ops [⟨some 12, .indexAddr 1 (.tmp 8) (.tmp 10), none⟩,
        ⟨some 13, .load false [.func] (.tmp 12), none⟩,
        ⟨some 5, .base (.mv (.tmp 13)), none⟩])
       (.seq (.ops [⟨some 15, .base (.mv (.tmp 5)), none⟩,
        ⟨some 16, .base (.mv (.tmp 0)), none⟩,
        ⟨some 17, .call (.tmp 15) [.tmp 16] (.tup [(true, [.int .i64, .str, .int .i64, .str, .int .i64, .int .i64, .int .i64, .int .i64, .int .i64]), (false, [.bool])]), none⟩,
        ⟨some 14, .base (.mv (.tmp 17)), none⟩,
        ⟨some 18, .base (.pure o87_1 164), none⟩,
        ⟨some 19, .base (.pure o87_2 4), none⟩,
        ⟨some 6, .base (.alloc 164 [vI 0, vS [], vI 0, vS [], vI 0, vI 0, vI 0, vI 0, vI 0] false), none⟩,
        ⟨none, .base (.store 9 (.tmp 6) (.tmp 18)), none⟩,
        ⟨some 7, .base (.mv (.tmp 19)), none⟩])
       (.seq (.ops [⟨some 20, .base (.mv (.tmp 7)), none⟩])
       (.cond (.tmp 20) (.seq (.ops [⟨some 21, .load true [.int .i64, .str, .int .i64, .str, .int .i64, .int .i64, .int .i64, .int .i64, .int .i64] (.tmp 6), none⟩,
          ⟨none, .base (.store 9 (.tmp 2) (.tmp 21)), none⟩,
          ⟨some 3, .base (.mv (.const (vB true))), none⟩])
         (.ret))
       (.skip))))))
     (.ops [⟨some 22, .base (.pure o87_3 3), none⟩,
      ⟨some 10, .base (.mv (.tmp 22)), none⟩])))))))
 (.seq (.ops [⟨some 23, .base (.build [vI 0, vS [], vI 0, vS [], vI 0, vI 0, vI 0, vI 0, vI 0] []), none⟩,
  ⟨none, .base (.store 9 (.tmp 2) (.tmp 23)), none⟩,
  ⟨some 3, .base (.mv (.const (vB false))), none⟩])
 (.ret)))
theorem low87 : low Tryz.prog (fun _ => false) (Tryz.f87.body.getD .skip) = some (eC d87) := by kernel_rfl
theorem res87 : lowRes Tryz.prog Tryz.f87.results.toList = some [.cell 2 true 9, .tmp 3] := by kernel_rfl
def R87 (s1 : List UInt8) (h : PHeap) (Q : Value → PHeap → Prop) : Prop :=
  ∀ (b1 : Nat), h b1 = none → ∀ (h_1 : PHeap), h_1 = h.put b1 (.cells ⟨[vF 134 [] [], vF 135 [] [], vF 136 [] [], vF 137 [] [], vF 138 [] []]⟩ 166) →
  ∃ (I_1 : Nat → Int → Int → List UInt8 → Int → List UInt8 → Int → Int → Int → Int → Int → PHeap → Prop), (∃ (m2 : Nat), I_1 m2 (0 : Int) (0 : Int) [] (0 : Int) [] (0 : Int) (0 : Int) (0 : Int) (0 : Int) (0 : Int) h_1) ∧
  ∀ (m1 : Nat) (i1 : Int) (token_Kind1 : Int) (token_Text1 : List UInt8) (token_Value1 : Int) (token_Bytes1 : List UInt8) (token_Line1 : Int) (token_Column1 : Int) (size1 : Int) (at_1 : Int) (e_1 : Int) (h_2 : PHeap), I_1 m1 i1 token_Kind1 token_Text1 token_Value1 token_Bytes1 token_Line1 token_Column1 size1 at_1 e_1 h_2 →
  br (decide (i1 < 5))
  (∃ (b2 o1 : Nat), (ad b1 0) = some ⟨b2, o1, none⟩ ∧ (0 ≤ i1 ∧ i1 < (5 : Nat)) ∧
    ∃ (f1 : Nat) (x1 y1 : List Value), h_2.cell b2 (o1 + (i1).toNat * 1) = some (vF f1 x1 y1) ∧
    Tri Tryz.prog f1 (x1 ++ [vS s1] ++ y1) h_2 fun v_1 h_3 =>
    ∃ (token_Kind2 : Int) (token_Text2 : List UInt8) (token_Value2 : Int) (token_Bytes2 : List UInt8) (token_Line2 token_Column2 size2 at_2 e_2 : Int) (c1 : Bool), v_1 = vT [vA [vI token_Kind2, vS token_Text2, vI token_Value2, vS token_Bytes2, vI token_Line2, vI token_Column2, vI size2, vI at_2, vI e_2], vB c1] ∧
    br c1
    (Q (vT [vA [vI token_Kind2, vS token_Text2, vI token_Value2, vS token_Bytes2, vI token_Line2, vI token_Column2, vI size2, vI at_2, vI e_2], vB true]) h_3)
    (∃ (m3 : Nat), m3 < m1 ∧ I_1 m3 (IntKind.i64.wrap (i1 + 1)) token_Kind1 token_Text1 token_Value1 token_Bytes1 token_Line1 token_Column1 size1 at_1 e_1 h_3 ∧
      True))
  (Q (vT [vA [vI 0, vS [], vI 0, vS [], vI 0, vI 0, vI 0, vI 0, vI 0], vB false]) h_2)
theorem e87 (s1 : List UInt8) (h : PHeap) (Q : Value → PHeap → Prop) : dnF Tryz.prog Tryz.f87.ntmps d87 [.cell 2 true 9, .tmp 3] [vS s1] h Q = R87 s1 h Q := by kernel_rfl
theorem T87 {s1 : List UInt8} {h : PHeap} {Q : Value → PHeap → Prop} (hR : R87 s1 h Q) : Tri Tryz.prog 87 [vS s1] h Q :=
  tri_of_dn mixed Tryz.func87 rfl (by kernel_rfl) low87 res87 rfl (Eq.mpr (e87 s1 h Q) hR)
end Go.Proofs.D
namespace Go.Proofs.L
open Go Go.Den Go.Sx
set_option maxRecDepth 100000
attribute [local irreducible] IntKind.wrap marks

/-- What find answers at a text that is not empty. -/
def findV (c : UInt8) (r : Bytes) : Value :=
  if isLetter c then two (attR (c :: r) (wordS (c :: r))) true
  else if isDigit c then two (attR (c :: r) (numberS (c :: r))) true
  else if c = 39 then two (attR (c :: r) (charO r (oneQ 39 r))) true
  else if c = 34 then two (attR (c :: r) (quoO (strS (r.length + 1) r))) true
  else if symB (c :: r) marks == [] then two att0 false
  else two (att 5 (symB (c :: r) marks) 0 [] (symB (c :: r) marks).length 0 0) true

theorem character_yes (r : Bytes) (h : PHeap) (ht : EscTab h) (hl : r.length + 1 ≤ 1000000) : Tri Tryz.prog 136 [str (39 :: r)] h fun v h' => v = two (attR (39 :: r) (charO r (oneQ 39 r))) true ∧ h' = h := by
  cases hq : oneQ 39 r with
  | error p => obtain ⟨e, k⟩ := p; have := character_err r h ht hl e k hq; rw [hq] at this; exact this
  | ok p => obtain ⟨b, n⟩ := p; have := character_ok r h ht hl b n hq; rw [hq] at this; exact this
end Go.Proofs.L
/- The lexer: blanks, and what is found at a place. -/
namespace Go.Proofs.D
open Go Go.Den Go.Sx Go.Proofs.L
set_option maxRecDepth 100000
attribute [local irreducible] IntKind.wrap Tri marks words

theorem oneS_word {c : UInt8} {r : Bytes} (h : isLetter c = true) : oneS (c :: r) = wordS (c :: r) := by
  simp only [oneS, h, if_true, wordS]
theorem oneS_num {c : UInt8} {r : Bytes} (h0 : isLetter c = false) (h : isDigit c = true) : oneS (c :: r) = numberS (c :: r) := by
  simp only [oneS, h0, h, if_true, numberS, Bool.false_eq_true, if_false]
  cases numS (List.take (lead isAl (c :: r)) (c :: r)) <;> rfl
theorem oneS_char {r : Bytes} : oneS (39 :: r) = charO r (oneQ 39 r) := by
  have h0 : isLetter 39 = false := rfl
  have h1 : isDigit 39 = false := rfl
  simp only [oneS, h0, h1, Bool.false_eq_true, if_false, show ((39 : UInt8) == 39) = true from rfl, if_true, oneQ]
  by_cases hr : r.head? = some 39
  · simp [hr, charO]
  · have : (r.head? == some 39) = false := by simpa using hr
    rw [if_neg hr, this]
    simp only [Bool.false_eq_true, if_false]
    cases hc : charS r with
    | error p =>
      obtain ⟨e, k⟩ := p
      by_cases h4 : e = 4
      · subst h4; simp [charO]
      · simp [charO, h4]
    | ok p => obtain ⟨b, n⟩ := p; rfl
theorem oneS_quo {r : Bytes} : oneS (34 :: r) = quoO (strS (r.length + 1) r) := by
  have h0 : isLetter 34 = false := rfl
  have h1 : isDigit 34 = false := rfl
  simp only [oneS, h0, h1, Bool.false_eq_true, if_false, show ((34 : UInt8) == 39) = false from rfl, show ((34 : UInt8) == 34) = true from rfl, if_true]
  cases hc : strS (r.length + 1) r with
  | error p =>
    obtain ⟨e, k⟩ := p
    by_cases h4 : e = 4
    · subst h4; simp [quoO]
    · simp [quoO, h4]
  | ok p => obtain ⟨b, n⟩ := p; rfl
theorem oneS_sym {c : UInt8} {r : Bytes} (h0 : isLetter c = false) (h1 : isDigit c = false) (h2 : c ≠ 39) (h3 : c ≠ 34) :
    (symB (c :: r) marks = [] ∧ oneS (c :: r) = .error (6, 0)) ∨ (symB (c :: r) marks ≠ [] ∧ att 5 (symB (c :: r) marks) 0 [] (symB (c :: r) marks).length 0 0 = attR (c :: r) (oneS (c :: r))) := by
  have e2 : (c == 39) = false := by simpa using h2
  have e3 : (c == 34) = false := by simpa using h3
  rw [symB_eq]
  simp only [oneS, h0, h1, e2, e3, Bool.false_eq_true, if_false]
  cases hm : marks.contains ((c :: r).take 2) with
  | true =>
    right
    simp only [if_true, Bool.false_eq_true, if_false]
    refine ⟨by simp, ?_⟩
    simp only [attR, aK, aS, aV, aB, aA, aE]
    have : (c :: r).take ((c :: r).take 2).length = (c :: r).take 2 := by
      rw [List.length_take, List.take_eq_take_iff]; omega
    rw [this]; rfl
  | false =>
    cases hm1 : marks.contains ((c :: r).take 1) with
    | true =>
      right
      simp only [if_true, Bool.false_eq_true, if_false]
      exact ⟨by simp, rfl⟩
    | false => left; simp

theorem ext_eq {h h' : PHeap} (x : Go.Proofs.L.Ext h h') : Go.Proofs.D.Ext h h' := x

/-- What find answers. -/
def FindPost (l : Bytes) (h : PHeap) (v : Value) (h' : PHeap) : Prop :=
  Go.Proofs.D.Ext h h' ∧ (v = two (attR l (oneS l)) true ∨ (v = two att0 false ∧ oneS l = .error (6, 0)))

theorem find_tri (c : UInt8) (r : Bytes) (h : PHeap) (ht : EscTab h) (hl : (c :: r).length ≤ 1000000) : Tri Tryz.prog 87 [vS (c :: r)] h (FindPost (c :: r) h) := by
  refine T87 ?_
  unfold R87
  intro b hb h1 hh1
  have hx1 : Go.Proofs.D.Ext h h1 := Put.ext hh1 hb
  have hb1 : h1 b = some (.cells ⟨[vF 134 [] [], vF 135 [] [], vF 136 [] [], vF 137 [] [], vF 138 [] []]⟩ 166 (0, 0)) := Put.at hh1
  clear hh1
  refine ⟨fun m i _ _ _ _ _ _ _ _ _ h' => ∃ n' : Nat, i = n' ∧ n' + m = 5 ∧ Ext h1 h' ∧ (1 ≤ n' → isLetter c = false) ∧ (2 ≤ n' → isDigit c = false) ∧ (3 ≤ n' → c ≠ 39) ∧ (4 ≤ n' → c ≠ 34) ∧ (5 ≤ n' → oneS (c :: r) = .error (6, 0)),
    ⟨5, 0, rfl, rfl, Ext.refl _, by omega, by omega, by omega, by omega, by omega⟩, ?_⟩
  rintro m _ _ _ _ _ _ _ _ _ _ h2 ⟨n, rfl, hnm, hx2, g1, g2, g3, g4, g5⟩
  refine br_split (fun e => ?_) (fun e => ?_)
  · have hn : n < 5 := by
      have : (n : Int) < 5 := by simpa using e
      omega
    refine ⟨b, 0, rfl, ⟨by omega, by omega⟩, ?_⟩
    have hb2 := hx2 _ _ hb1
    have hx02 := hx1.trans hx2
    have yes : ∀ (v : Value) (h3 : PHeap) (a : Value), v = two a true → a = attR (c :: r) (oneS (c :: r)) → Go.Proofs.D.Ext h2 h3 →
        ∃ (token_Kind2 : Int) (token_Text2 : List UInt8) (token_Value2 : Int) (token_Bytes2 : List UInt8) (token_Line2 token_Column2 size2 at_2 e_2 : Int) (c1 : Bool), v = vT [vA [vI token_Kind2, vS token_Text2, vI token_Value2, vS token_Bytes2, vI token_Line2, vI token_Column2, vI size2, vI at_2, vI e_2], vB c1] ∧
        br c1 (FindPost (c :: r) h (vT [vA [vI token_Kind2, vS token_Text2, vI token_Value2, vS token_Bytes2, vI token_Line2, vI token_Column2, vI size2, vI at_2, vI e_2], vB true]) h3) (∃ (m3 : Nat), m3 < m ∧ (∃ n' : Nat, IntKind.i64.wrap ((n : Int) + 1) = n' ∧ n' + m3 = 5 ∧ Ext h1 h3 ∧ (1 ≤ n' → isLetter c = false) ∧ (2 ≤ n' → isDigit c = false) ∧ (3 ≤ n' → c ≠ 39) ∧ (4 ≤ n' → c ≠ 34) ∧ (5 ≤ n' → oneS (c :: r) = .error (6, 0))) ∧ True) := by
      rintro v h3 a rfl rfl hx
      exact ⟨_, _, _, _, _, _, _, _, _, true, rfl, hx02.trans hx, .inl rfl⟩
    have no : ∀ (v : Value) (h3 : PHeap), v = two att0 false → Go.Proofs.D.Ext h2 h3 → (isLetter c = false) → (1 ≤ n → isDigit c = false) → (2 ≤ n → c ≠ 39) → (3 ≤ n → c ≠ 34) → (4 ≤ n → oneS (c :: r) = .error (6, 0)) →
        ∃ (token_Kind2 : Int) (token_Text2 : List UInt8) (token_Value2 : Int) (token_Bytes2 : List UInt8) (token_Line2 token_Column2 size2 at_2 e_2 : Int) (c1 : Bool), v = vT [vA [vI token_Kind2, vS token_Text2, vI token_Value2, vS token_Bytes2, vI token_Line2, vI token_Column2, vI size2, vI at_2, vI e_2], vB c1] ∧
        br c1 (FindPost (c :: r) h (vT [vA [vI token_Kind2, vS token_Text2, vI token_Value2, vS token_Bytes2, vI token_Line2, vI token_Column2, vI size2, vI at_2, vI e_2], vB true]) h3) (∃ (m3 : Nat), m3 < m ∧ (∃ n' : Nat, IntKind.i64.wrap ((n : Int) + 1) = n' ∧ n' + m3 = 5 ∧ Ext h1 h3 ∧ (1 ≤ n' → isLetter c = false) ∧ (2 ≤ n' → isDigit c = false) ∧ (3 ≤ n' → c ≠ 39) ∧ (4 ≤ n' → c ≠ 34) ∧ (5 ≤ n' → oneS (c :: r) = .error (6, 0))) ∧ True) := by
      rintro v h3 rfl hx k1 k2 k3 k4 k5
      refine ⟨_, _, _, _, _, _, _, _, _, false, rfl, m - 1, by omega, ⟨n + 1, ?_, by omega, hx2.trans hx, fun _ => k1, fun _ => k2 (by omega), fun _ => k3 (by omega), fun _ => k4 (by omega), fun _ => k5 (by omega)⟩, trivial⟩
      rw [wrap64 (by omega) (by omega)]; rfl
    have hcase : n = 0 ∨ n = 1 ∨ n = 2 ∨ n = 3 ∨ n = 4 := by omega
    rcases hcase with rfl | rfl | rfl | rfl | rfl
    · refine ⟨134, [], [], cell_of hb2 0, ?_⟩
      by_cases hc : isLetter c = true
      · refine Tri.mono (word_yes c r h2 hc hl) ?_
        rintro v h3 ⟨rfl, hx⟩
        exact yes _ _ _ rfl (by rw [oneS_word hc]) hx
      · have hc : isLetter c = false := by simpa using hc
        refine Tri.mono (word_no c r h2 hc) ?_
        rintro v h3 ⟨rfl, rfl⟩
        exact no _ _ rfl (Ext.refl _) hc (by omega) (by omega) (by omega) (by omega)
    · refine ⟨135, [], [], cell_of hb2 1, ?_⟩
      have k0 := g1 (by omega)
      by_cases hc : isDigit c = true
      · refine Tri.mono (number_yes c r h2 hc hl) ?_
        rintro v h3 ⟨rfl, rfl⟩
        exact yes _ _ _ rfl (by rw [oneS_num k0 hc]) (Ext.refl _)
      · have hc : isDigit c = false := by simpa using hc
        refine Tri.mono (number_no c r h2 hc) ?_
        rintro v h3 ⟨rfl, rfl⟩
        exact no _ _ rfl (Ext.refl _) k0 (fun _ => hc) (by omega) (by omega) (by omega)
    · refine ⟨136, [], [], cell_of hb2 2, ?_⟩
      have k0 := g1 (by omega)
      have k1 := g2 (by omega)
      by_cases hc : c = 39
      · subst hc
        refine Tri.mono (character_yes r h2 (ht.ext hx02) (by simpa using hl)) ?_
        rintro v h3 ⟨rfl, rfl⟩
        exact yes _ _ _ rfl (by rw [oneS_char]) (Ext.refl _)
      · refine Tri.mono (character_no c r h2 hc) ?_
        rintro v h3 ⟨rfl, rfl⟩
        exact no _ _ rfl (Ext.refl _) k0 (fun _ => k1) (fun _ => hc) (by omega) (by omega)
    · refine ⟨137, [], [], cell_of hb2 3, ?_⟩
      have k0 := g1 (by omega)
      have k1 := g2 (by omega)
      have k2 := g3 (by omega)
      by_cases hc : c = 34
      · subst hc
        refine Tri.mono (quoted_yes r h2 (ht.ext hx02) (by simpa using hl)) ?_
        rintro v h3 ⟨rfl, hx⟩
        exact yes _ _ _ rfl (by rw [oneS_quo]) hx
      · refine Tri.mono (quoted_no c r h2 hc) ?_
        rintro v h3 ⟨rfl, rfl⟩
        exact no _ _ rfl (Ext.refl _) k0 (fun _ => k1) (fun _ => k2) (fun _ => hc) (by omega)
    · refine ⟨138, [], [], cell_of hb2 4, ?_⟩
      have k0 := g1 (by omega)
      have k1 := g2 (by omega)
      have k2 := g3 (by omega)
      have k3 := g4 (by omega)
      refine Tri.mono (symbol_tri (c :: r) h2) ?_
      rintro v h3 ⟨rfl, hx⟩
      rcases oneS_sym k0 k1 k2 k3 with ⟨e1, e2⟩ | ⟨e1, e2⟩
      · rw [e1]
        refine ⟨_, _, _, _, _, _, _, _, _, false, rfl, 0, by omega, ⟨5, ?_, rfl, hx2.trans hx, fun _ => k0, fun _ => k1, fun _ => k2, fun _ => k3, fun _ => e2⟩, trivial⟩
        rw [wrap64 (by omega) (by omega)]; rfl
      · have : (!(symB (c :: r) marks == [])) = true := by simpa using e1
        rw [this]
        exact yes _ _ _ rfl e2 hx
  · have hn : n = 5 := by
      have : ¬ (n : Int) < 5 := by simpa using e
      omega
    exact ⟨hx1.trans hx2, .inr ⟨rfl, g5 (by omega)⟩⟩
end Go.Proofs.D
/- Calls, and all the readers of expressions together. -/
namespace Go.Proofs.D
open Go Go.Den Go.Sx
set_option maxRecDepth 100000
attribute [local irreducible] IntKind.wrap Tri

theorem RE_mono (pl : Nat → List Value) (w : Nat) : Mono (RE pl w) := ⟨fun x h => h.ext x⟩

theorem REs_of {pl : Nat → List Value} {w : Nat} {H : PHeap} {b : Nat} : ∀ {es : List E} {o : Nat}, (∀ (j : Nat) (x : E), es[j]? = some x → ∃ cs, H.row b (o + j * w) cs ∧ RE pl w H x cs) → REs pl w H b o es
  | [], _, _ => trivial
  | e :: es, o, hj => by
    refine ⟨?_, REs_of fun j x hx => ?_⟩
    · obtain ⟨cs, h1, h2⟩ := hj 0 e rfl
      exact ⟨cs, by simpa using h1, h2⟩
    · obtain ⟨cs, h1, h2⟩ := hj (j + 1) x (by simpa using hx)
      exact ⟨cs, by rw [show o + w + j * w = o + (j + 1) * w by rw [Nat.add_mul]; omega]; exact h1, h2⟩

theorem At.res {pl : Nat → List Value} {w : Nat} {H : PHeap} {a : Option Addr} {es : List E} (h : At w (RE pl w) H a es) : es = [] ∨ ∃ b o, a = ad b o ∧ REs pl w H b o es := by
  rcases h with h | ⟨b, o, ha, hj⟩
  · exact .inl h
  · exact .inr ⟨b, o, ha, REs_of hj⟩

theorem elem48 : ElemT 48 8 := ⟨_, _, rfl, rfl, rfl, rfl, by decide⟩
theorem elem56 : ElemT 56 7 := ⟨_, _, rfl, rfl, rfl, rfl, by decide⟩
theorem elem9 : ElemT 9 1 := ⟨_, _, rfl, rfl, rfl, rfl, by decide⟩
theorem elem86 : ElemT 86 5 := ⟨_, _, rfl, rfl, rfl, rfl, by decide⟩
theorem elem54 : ElemT 54 5 := ⟨_, _, rfl, rfl, rfl, rfl, by decide⟩
theorem und46 : Tryz.prog.underlying 46 = some (.slice 48) := rfl
theorem und52 : Tryz.prog.underlying 52 = some (.slice 56) := rfl
theorem und51 : Tryz.prog.underlying 51 = some (.slice 9) := rfl
theorem und23 : Tryz.prog.underlying 23 = some (.slice 86) := rfl
theorem und24 : Tryz.prog.underlying 24 = some (.slice 54) := rfl

section
variable {K : PK} {s : Bytes} {p : Nat}

theorem pMore_succ (f : Nat) (l : List E) (ts : List Tok) (d : Int) : pMore (f + 1) l ts d = if isT ts [44] then bindR (takeT [44] ts d) fun _ ts d => bindR (pBin f 1 ts d) fun e ts d => pMore f (l ++ [e]) ts d else .ok (l, ts, d) := by
  conv => lhs; unfold pMore
theorem pArgs_succ (f : Nat) (ts : List Tok) (d : Int) : pArgs (f + 1) ts d = if isT ts [41] then .ok ([], ts, d) else bindR (pBin f 1 ts d) fun e ts d => pMore f [e] ts d := by
  conv => lhs; unfold pArgs

theorem accB_true {α : Type} {r : R α} {t : Bytes} (e : accB r t = true) : ∃ x ts d, r = .ok (x, ts, d) ∧ isT ts t = true ∧ accR r t = takeT t ts d := by
  match r, e with
  | .error x, e => cases e
  | .ok (x, ts, d), e =>
    simp only [accB, Bool.and_eq_true] at e
    exact ⟨x, ts, d, rfl, e.1, by simp only [accR, e.1]; rfl⟩
theorem accB_false {α : Type} {r : R α} {t : Bytes} (ho : opens t = false) (e : accB r t = false) : isTr r t = false ∧ accR r t = mapR (fun _ => ()) r := by
  match r, e with
  | .error x, e => exact ⟨rfl, rfl⟩
  | .ok (x, ts, d), e =>
    simp only [accB, ho, Bool.false_and, Bool.not_false, Bool.and_true] at e
    exact ⟨e, by simp only [accR, e]; rfl⟩

theorem EC.one (c : EC) : allOne c.l = true := rfl

theorem call_ok {f : Nat} (X : ∀ g, g ≤ f → XOk K s p g) (hf : f ≤ 5000000) {α : Type} (t : Tok) (r : R α) (h : PHeap) (hP : PS K s h p r) (hn : NF (bindR r fun _ ts d => pCall (f + 1) t ts d)) :
    Tri Tryz.prog 193 [vP p 0, vA (tokC s t)] h (PE K s p h (bindR r fun _ ts d => pCall (f + 1) t ts d)) := by
  refine T193 ?_
  unfold R193
  have hp0 := hP.mem
  have hI := hP.isin
  have he : (bindR r fun _ ts d => pCall (f + 1) t ts d) = mapR (fun l => .mk 5 [] t.text 0 [] l t.pos) (thenR (bindR (bindR r fun _ ts d => takeT [40] ts d) fun _ ts d => pArgs f ts d) fun ts d => takeT [41] ts d) := by
    have : ∀ ts d, pCall (f + 1) t ts d = bindR (takeT [40] ts d) fun _ ts d => bindR (pArgs f ts d) fun l ts d => bindR (takeT [41] ts d) fun _ ts d => .ok (.mk 5 [] t.text 0 [] l t.pos, ts, d) := fun ts d => by
      conv => lhs; unfold pCall
    simp only [mapR, thenR, bindR_bind, bindR_ok, this]
  rw [he] at hn ⊢
  refine Tri.mono (take_tri hP [40]) ?_
  rintro _ h1 ⟨rfl, hc1, hP1⟩
  refine ⟨rfl, ?_⟩
  obtain ⟨i, hi, hz⟩ := hP1.err
  refine ⟨i, hi, br_split (fun e => ?_) (fun e => ?_)⟩
  · obtain ⟨u, ts1, d1, hr1⟩ := okR_true (hz.symm.trans e)
    rw [hr1] at hP1 hn ⊢
    rw [bindR_ok] at hn ⊢
    refine Tri.mono (is_tri hP1 [41]) ?_
    rintro _ h1 ⟨rfl, rfl⟩
    have hnA : NF (pArgs f ts1 d1) := hn.map.then.bind
    match f, hf, X, hnA, hn with
    | 0, hf, X, hnA, hn => exact absurd rfl hnA
    | f + 1, hf, X, hnA, hn =>
      clear he
      refine ⟨_, rfl, br_split (fun e2 => ?_) (fun e2 => ?_)⟩
      · have e2 : isT ts1 [41] = false := by simpa [isTr] using e2
        have hA : pArgs (f + 1) ts1 d1 = bindR (pBin f 1 ts1 d1) fun e ts d => pMore f [e] ts d := by
          rw [pArgs_succ, if_neg (by rw [e2]; decide)]
        generalize hfin : pArgs (f + 1) ts1 d1 = fin at *
        have hnB : NF (pBin f 1 ts1 d1) := by rw [hA] at hnA; exact hnA.bind
        refine Tri.mono (expr_tri (X f (by omega)) (.ok (u, ts1, d1) : R Unit) h1 hP1 hnB) ?_
        rintro _ h2 ⟨c, rfl, hA2, hx2⟩
        refine ⟨_, _, _, _, _, _, _, _, _, _, rfl, rfl, ?_⟩
        intro b hb h3 hh3
        refine ⟨rfl, ?_⟩
        have hA12 : Away p h h2 := hc1.away.trans hA2
        have hd2 : ∀ b, h2 b = none → h b = none := hA12.dom hx2.ps.mem
        refine Raw.mono (LM.append (h0 := h) (cs := c.l) und46 elem48 rfl rfl rfl rfl rfl LM.nil hb hh3 rfl c.one (by omega) hd2) ?_
        rintro _ h4 ⟨b4, cap4, rfl, hk4, hd4, hn4, hq4, hM4, hR4⟩
        refine ⟨_, _, _, rfl, ?_⟩
        have hA4 : Away p h h4 := fun k o hk ho => hk4 k o (by rw [ho]; exact fun e => by cases e) (hA12 k o hk ho)
        have hx4 := (hx2.stay (rel' := fun e => LR (RE (plP s) 8) h h4 (ad b4 0) [c.l] [e]) (hI.old hp0 hk4) fun e he => hR4 (RE_mono _ _) LR.nil (he.ext ((LM.nil (e := 48) (k := 8)).new (hc1.away.dom hP1.mem)))).map (k := fun e => [e]) (rel' := fun es => LR (RE (plP s) 8) h h4 (ad b4 0) [c.l] es) fun e he => he
        refine ⟨fun m k op nm vl tx a n cc ln cl h' => (k = 5 ∧ op = [] ∧ nm = t.text ∧ vl = 0 ∧ tx = [] ∧ ln = (place s t.pos).1 ∧ cl = (place s t.pos).2) ∧ ∃ (r' : R (List E)) (css : List (List Value)), n + m ≤ f + 1 ∧ Away p h h' ∧ LM 48 8 h h' a n cc css ∧
            PX K s h' p r' (fun es => LR (RE (plP s) 8) h h' a css es) ∧ (bindR r' fun es ts d => pMore m es ts d) = fin,
          ⟨f, ⟨rfl, rfl, rfl, rfl, rfl, rfl, rfl⟩, _, _, by omega, hA4, hM4, hx4, by rw [hA]; simp only [mapR, bindR_bind, bindR_ok]⟩, ?_⟩
        rintro m _ _ _ _ _ a n cc _ _ h5 ⟨⟨rfl, rfl, rfl, rfl, rfl, rfl, rfl⟩, r', css, hm, hA5, hM5, hx5, hf5⟩
        refine Tri.mono (accept_tri hx5.ps [44]) ?_
        rintro _ h6 ⟨rfl, hc6, hP6⟩
        refine ⟨_, rfl, br_split (fun e3 => ?_) (fun e3 => ?_)⟩
        · obtain ⟨es, ts, d, rfl, hT, hac⟩ := accB_true e3
          rw [hac] at hP6
          rw [bindR_ok] at hf5
          match m, hf5, hm with
          | 0, hf5, hm => exact absurd hf5.symm hnA
          | m + 1, hf5, hm =>
            rw [pMore_succ, if_pos hT, ← bindR_bind] at hf5
            have hnB : NF (bindR (takeT [44] ts d) fun _ ts d => pBin m 1 ts d) := by rw [← hf5] at hnA; exact hnA.bind
            refine Tri.mono (expr_tri (X m (by omega)) _ h6 hP6 hnB) ?_
            rintro _ h7 ⟨c7, rfl, hA7, hx7⟩
            refine ⟨_, _, _, _, _, _, _, _, _, _, rfl, rfl, ?_⟩
            intro b8 hb8 h8 hh8
            refine ⟨rfl, ?_⟩
            have hA57 : Away p h5 h7 := hc6.away.trans hA7
            have hA07 : Away p h h7 := hA5.trans hA57
            have hd7 : ∀ b, h7 b = none → h b = none := hA07.dom hx7.ps.mem
            refine Raw.mono (LM.append (h0 := h) (cs := c7.l) und46 elem48 rfl rfl rfl rfl rfl (hM5.away hp0 hA57) hb8 hh8 rfl c7.one (by omega) hd7) ?_
            rintro _ h9 ⟨b9, cap9, rfl, hk9, hd9, hn9, hq9, hM9, hR9⟩
            refine ⟨_, _, _, rfl, m, by omega, ⟨⟨rfl, rfl, rfl, rfl, rfl, rfl, rfl⟩, mapR (fun e => es ++ [e]) (bindR (takeT [44] ts d) fun _ ts d => pBin m 1 ts d), _, by omega, fun k o hk ho => hk9 k o (by rw [ho]; exact fun e => by cases e) (hA07 k o hk ho), hM9, ?_, ?_⟩, rfl, rfl, trivial⟩
            · refine (hx7.stay (rel' := fun e => LR (RE (plP s) 8) h h9 (ad b9 0) (css ++ [c7.l]) (es ++ [e])) (hI.old hp0 hk9) fun e he => ?_).map fun e he => he
              refine hR9 (RE_mono _ _) (hx5.2.away (RE_mono _ _) hp0 hA57) (he.ext ?_)
              exact (hM5.away hp0 hc6.away).new ((hA5.trans hc6.away).dom hP6.mem)
            · rw [← hf5]; simp only [mapR, bindR_bind, bindR_ok]
        · obtain ⟨hnt, hac⟩ := accB_false rfl e3
          rw [hac] at hP6
          have hfr : fin = r' := by
            match r', hf5, hnt with
            | .error x, hf5, _ => exact hf5.symm
            | .ok (es, ts, d), hf5, hnt =>
              rw [bindR_ok] at hf5
              match m, hf5 with
              | 0, hf5 => exact absurd hf5.symm hnA
              | m + 1, hf5 => rw [← hf5, pMore_succ, if_neg (by rw [show isT ts [44] = false from hnt]; decide)]
          refine Tri.mono (take_tri hP6 [41]) ?_
          rintro _ h7 ⟨rfl, hc7, hP7⟩
          have hP7' : PS K s h7 p (bindR r' fun _ ts d => takeT [41] ts d) := by
            simp only [mapR, bindR_bind, bindR_ok] at hP7; exact hP7
          have hA57 : Away p h5 h7 := hc6.away.trans hc7.away
          refine ⟨rfl, ⟨5, [], t.text, 0, [], a, n, cc, _, _⟩, rfl, hA5.trans hA57, ?_⟩
          rw [hfr]
          refine (hx5.then (rel' := fun es => LR (RE (plP s) 8) h h7 a css es) hP7' fun es hes => hes.away (RE_mono _ _) hp0 hA57).map fun es hes => ?_
          have hlen : n = es.length := by rw [← hM5.len]; exact hes.1
          rw [hlen]
          exact RE_mk 5 [] _ 0 [] es _ a cc ((hM5.away hp0 hA57).at (RE_mono _ _) hes).res
      · have e2 : isT ts1 [41] = true := by simpa [isTr] using e2
        rw [pArgs_succ, if_pos e2]
        refine Tri.mono (take_tri hP1 [41]) ?_
        rintro _ h2 ⟨rfl, hc2, hP2⟩
        refine ⟨rfl, ⟨5, [], t.text, 0, [], none, 0, 0, _, _⟩, rfl, hc1.away.trans hc2.away, ?_⟩
        have hx : PX K s h1 p (.ok ([], ts1, d1) : R (List E)) fun es => es = [] := ⟨hP1, rfl⟩
        refine (hx.then (rel' := fun es => es = []) hP2 fun _ h => h).map fun es hes => ?_
        subst hes
        exact RE_mk 5 [] _ 0 [] [] _ none 0 (.inl rfl)
  · obtain ⟨x, hr1⟩ := okR_false (hz.symm.trans e)
    rw [hr1] at hP1 hn ⊢
    refine Tri.mono (take_tri hP1 [41]) ?_
    rintro _ h2 ⟨rfl, hc2, hP2⟩
    exact ⟨rfl, ⟨5, [], t.text, 0, [], none, 0, 0, _, _⟩, rfl, hc1.away.trans hc2.away, hP2⟩

/-! ### After an error -/
theorem prim_err {e : Nat × Nat} {h : PHeap} (hP : PErr K s h p e) : Tri Tryz.prog 192 [vP p 0] h (PE K s p h (.error e)) := by
  refine T192 ?_
  unfold R192
  refine Tri.mono (isKind_tri (r := (.error e : R Unit)) hP 2) ?_
  rintro _ h ⟨rfl, rfl⟩
  refine ⟨_, rfl, br_neg rfl ?_⟩
  refine Tri.mono (isKind_tri (r := (.error e : R Unit)) hP 3) ?_
  rintro _ h ⟨rfl, rfl⟩
  refine ⟨_, rfl, br_neg rfl ?_⟩
  refine Tri.mono (isKind_tri (r := (.error e : R Unit)) hP 1) ?_
  rintro _ h ⟨rfl, rfl⟩
  refine ⟨_, rfl, br_neg rfl ?_⟩
  refine Tri.mono (take_tri (r := (.error e : R Unit)) hP [40]) ?_
  rintro _ h1 ⟨rfl, hc1, hP1⟩
  obtain ⟨i, hi, hz⟩ := hP1.err
  have hz : (i == 0) = false := hz
  refine ⟨rfl, i, hi, br_pos (by simpa using hz) ?_⟩
  exact ⟨⟨0, [], [], 0, [], none, 0, 0, 0, 0⟩, rfl, hc1.away, hP1⟩

theorem un_err {e : Nat × Nat} {h : PHeap} (hP : PErr K s h p e) : Tri Tryz.prog 172 [vP p 0] h (PE K s p h (.error e)) := by
  refine T172 ?_
  unfold R172
  intro b hb h1 hh1
  have hP1 : PErr K s h1 p e := hP.ext (Put.ext hh1 hb)
  have hA1 : Away p h h1 := (Put.ext hh1 hb).away
  have hs : StrAt h1 (ad b 0) [[45], [33], [126]] := .inr ⟨b, 0, rfl, fun j l hj => by
    rw [cell_of (Put.at hh1)]
    match j, hj with
    | 0, hj => simp at hj; subst hj; rfl
    | 1, hj => simp at hj; subst hj; rfl
    | 2, hj => simp at hj; subst hj; rfl
    | j + 3, hj => simp at hj⟩
  clear hh1
  have hf : ∀ l, l ∈ ([[45], [33], [126]] : List Bytes) → Tri Tryz.prog 44 ([vP p 0] ++ [vS l] ++ []) h1 fun v h' => v = vB (isTr (.error e : R Unit) l) ∧ h' = h1 := fun l _ => is_tri (r := (.error e : R Unit)) hP1 l
  have hl : ([[45], [33], [126]] : List Bytes).length ≤ 1000000 := by decide
  refine Tri.mono (containsFunc_tri (c := 3) (x := [vP p 0]) (y := []) (isTr (.error e : R Unit)) hs hl hf) ?_
  rintro _ h1 ⟨rfl, rfl⟩
  refine ⟨_, rfl, br_pos rfl ?_⟩
  refine Tri.mono (prim_err hP1) ?_
  rintro _ h2 hE
  have hE' := PE.after (PS.mem (r := (.error e : R Unit)) hP1) hA1 hE
  obtain ⟨c, rfl, _, _⟩ := hE
  exact ⟨_, _, _, _, _, _, _, _, _, _, rfl, hE'⟩

theorem bin_err {e : Nat × Nat} : ∀ (n lv : Nat) {h : PHeap}, lv + n = 11 → PErr K s h p e → Tri Tryz.prog 140 [vP p 0, vI lv] h (PE K s p h (.error e)) := by
  intro n
  induction n with
  | zero =>
    intro lv h hlv hP
    refine T140 ?_
    unfold R140
    refine br_pos (by have : lv = 11 := by omega
                      subst this; rfl) ?_
    refine Tri.mono (un_err hP) ?_
    rintro _ h1 hE
    have hE' := hE
    obtain ⟨c, rfl, _, _⟩ := hE
    exact ⟨_, _, _, _, _, _, _, _, _, _, rfl, hE'⟩
  | succ n ih =>
    intro lv h hlv hP
    refine T140 ?_
    unfold R140
    refine br_neg (by
      have : (lv : Int) ≠ 11 := by omega
      simpa using this) ?_
    have hw : IntKind.i64.wrap ((lv : Int) + 1) = ((lv + 1 : Nat) : Int) := by rw [wrap64 (by omega) (by omega)]; rfl
    rw [hw]
    refine Tri.mono (ih (lv + 1) (by omega) hP) ?_
    rintro _ h2 ⟨c, rfl, hA2, hx2⟩
    refine ⟨_, _, _, _, _, _, _, _, _, _, rfl, fun m k op nm vl tx a n cc ln cl h' => h' = h2, ⟨0, rfl⟩, ?_⟩
    rintro m k op nm vl tx a n cc ln cl h2 rfl
    have hx2' : PErr K s h2 p e := hx2
    refine Tri.mono (isKind_tri (r := (.error e : R Unit)) hx2' 5) ?_
    rintro _ h2 ⟨rfl, rfl⟩
    exact ⟨_, rfl, br_neg rfl ⟨⟨k, op, nm, vl, tx, a, n, cc, ln, cl⟩, rfl, hA2, hx2⟩⟩

theorem call_err {e : Nat × Nat} {h : PHeap} (t : Tok) (hP : PErr K s h p e) : Tri Tryz.prog 193 [vP p 0, vA (tokC s t)] h (PE K s p h (.error e)) := by
  refine T193 ?_
  unfold R193
  refine Tri.mono (take_tri (r := (.error e : R Unit)) hP [40]) ?_
  rintro _ h1 ⟨rfl, hc1, hP1⟩
  obtain ⟨i, hi, hz⟩ := hP1.err
  refine ⟨rfl, i, hi, br_neg hz ?_⟩
  refine Tri.mono (take_tri hP1 [41]) ?_
  rintro _ h2 ⟨rfl, hc2, hP2⟩
  exact ⟨rfl, ⟨5, [], t.text, 0, [], none, 0, 0, _, _⟩, rfl, hc1.away.trans hc2.away, hP2⟩

theorem fuel_err {α β : Type} {r : R α} {g : α → List Tok → Int → R β} (hg : ∀ x ts d, g x ts d = .error (0, 0)) (hn : NF (bindR r g)) : ∃ e, r = .error e := by
  match r, hn with
  | .error e, _ => exact ⟨e, rfl⟩
  | .ok (x, ts, d), hn => exact absurd (hg x ts d) hn

theorem xok (f : Nat) (hf : f ≤ 5000000) : XOk K s p f := by
  induction f using Nat.strongRecOn with
  | _ f ih =>
    match f, ih, hf with
    | 0, _, _ =>
      refine ⟨fun lv r h hlv hP hn => ?_, fun r h hP hn => ?_, fun r h hP hn => ?_, fun ts d h hP h1 hn => ?_, fun t r h hP hn => ?_⟩
      · obtain ⟨e, rfl⟩ := fuel_err (fun _ _ _ => by unfold pBin; rfl) hn
        exact bin_err (11 - lv) lv (by omega) hP
      · obtain ⟨e, rfl⟩ := fuel_err (fun _ _ _ => by unfold pUn; rfl) hn
        exact un_err hP
      · obtain ⟨e, rfl⟩ := fuel_err (fun _ _ _ => by unfold pPrim; rfl) hn
        exact prim_err hP
      · exact absurd (by unfold pName; rfl) hn
      · obtain ⟨e, rfl⟩ := fuel_err (fun _ _ _ => by unfold pCall; rfl) hn
        exact call_err t hP
    | f + 1, ih, hf =>
      have X : ∀ g, g ≤ f → XOk K s p g := fun g hg => ih g (by omega) (by omega)
      exact ⟨fun lv r h hlv hP hn => bin_ok X lv r h hlv hP hn, fun r h hP hn => un_ok (X f (Nat.le_refl _)) r h hP hn, fun r h hP hn => prim_ok (X f (Nat.le_refl _)) r h hP hn,
        fun ts d h hP h1 hn => name_ok (X f (Nat.le_refl _)) ts d h hP h1 hn, fun t r h hP hn => call_ok X (by omega) t r h hP hn⟩
end
end Go.Proofs.D
namespace Go.Proofs.D
open Go Go.Den
set_option maxRecDepth 100000
set_option maxHeartbeats 4000000
/- (*replevin/lexer.scanner).skip -/
abbrev o86_0 : Op := .binOp Go.BinOp.lss 3 (Go.Operand.tmp 6) (Go.Operand.tmp 11) 3
abbrev o86_1 : Op := .binOp Go.BinOp.eql 5 (Go.Operand.tmp 24) (Go.Operand.const (vU 10)) 5
abbrev o86_2 : Op := .binOp Go.BinOp.add 3 (Go.Operand.tmp 29) (Go.Operand.const (vI 1)) 3
abbrev o86_3 : Op := .binOp Go.BinOp.add 3 (Go.Operand.tmp 36) (Go.Operand.const (vI 1)) 3
abbrev o86_4 : Op := .binOp Go.BinOp.eql 5 (Go.Operand.tmp 49) (Go.Operand.const (vU 32)) 5
abbrev o86_5 : Op := .binOp Go.BinOp.eql 5 (Go.Operand.tmp 53) (Go.Operand.const (vU 9)) 5
abbrev o86_6 : Op := .binOp Go.BinOp.add 3 (Go.Operand.tmp 59) (Go.Operand.const (vI 1)) 3
abbrev o86_7 : Op := .binOp Go.BinOp.add 3 (Go.Operand.tmp 69) (Go.Operand.tmp 71) 3
def d86 : DCode :=
  .block 0 (.loop [3, 4, 5, 6, 7, 8, 9, 10, 11, 12, 13, 14, 15, 16, 17, 18, 19, 20, 21, 2, 23, 24, 25, 22, 26, 27, 28, 29, 30, 31, 32, 33, 34, 35, 36, 37, 38, 39, 40, 41, 42, 43, 44, 45, 46, 48, 49, 50, 51, 52, 53, 54, 55, 47, 56, 57, 58, 59, 60, 61, 62, 64, 65, 63, 66, 67, 68, 69, 70, 71, 72, 73, 74] [] [] (.seq (.seq (.draw [(⟨some 3, .base (.mv (.tmp 0)), none⟩, []),
      (⟨some 4, .base (.nilCheck (.tmp 3)), none⟩, [0]),
      (⟨some 5, .base (.fieldAddr 1 (.tmp 4)), none⟩, [1]),
      (⟨some 6, .load false [.int .i64] (.tmp 5), none⟩, [2]),
      (⟨some 7, .base (.mv (.tmp 0)), none⟩, []),
      (⟨some 8, .base (.nilCheck (.tmp 7)), none⟩, [4]),
      (⟨some 9, .base (.fieldAddr 0 (.tmp 8)), none⟩, [5]),
      (⟨some 10, .load false [.str] (.tmp 9), none⟩, [6]),
      (⟨some 11, .base (.len true (.tmp 10)), none⟩, [7]),
      (⟨some 12, .base (.pure o86_0 4), none⟩, [3, 8])])
     (.cond (.tmp 12) (.skip)
     (.exit 0)))
     (.block 1 (.seq (.draw [(⟨some 13, .base (.mv (.tmp 0)), none⟩, []),
        (⟨some 14, .base (.nilCheck (.tmp 13)), none⟩, [0]),
        (⟨some 15, .base (.fieldAddr 0 (.tmp 14)), none⟩, [1]),
        (⟨some 16, .load false [.str] (.tmp 15), none⟩, [2]),
        (⟨some 17, .base (.mv (.tmp 0)), none⟩, []),
        (⟨some 18, .base (.nilCheck (.tmp 17)), none⟩, [4]),
        (⟨some 19, .base (.fieldAddr 1 (.tmp 18)), none⟩, [5]),
        (⟨some 20, .load false [.int .i64] (.tmp 19), none⟩, [6]),
        (⟨some 21, .base (.sliceS (.tmp 16) (some (.tmp 20)) none), none⟩, [3, 7]),
        (⟨some 2, .base (.mv (.tmp 21)), none⟩, [8, 0, 1, 2, 3, 4, 5, 6, 7, 8])])
       (.block 2 (.seq (.ops [⟨some 23, .base (.mv (.tmp 2)), none⟩,
          ⟨some 24, .base (.idxS (.tmp 23) (.const (vI 0))), none⟩,
          ⟨some 25, .base (.pure o86_1 4), none⟩,
          ⟨some 22, .base (.mv (.tmp 25)), none⟩])
         (.cond (.tmp 22) (.seq (.ops [⟨some 26, .base (.mv (.tmp 0)), none⟩,
            ⟨some 27, .base (.nilCheck (.tmp 26)), none⟩,
            ⟨some 28, .base (.fieldAddr 1 (.tmp 27)), none⟩,
            ⟨some 29, .load false [.int .i64] (.tmp 28), none⟩,
            ⟨some 30, .base (.pure o86_2 3), none⟩,
            ⟨some 31, .base (.nilCheck (.tmp 26)), none⟩,
            ⟨some 32, .base (.fieldAddr 1 (.tmp 31)), none⟩,
            ⟨none, .heap (.store 1 (.tmp 32) (.tmp 30)), none⟩])
           (.seq (.ops [⟨some 33, .base (.mv (.tmp 0)), none⟩,
            ⟨some 34, .base (.nilCheck (.tmp 33)), none⟩,
            ⟨some 35, .base (.fieldAddr 2 (.tmp 34)), none⟩,
            ⟨some 36, .load false [.int .i64] (.tmp 35), none⟩,
            ⟨some 37, .base (.pure o86_3 3), none⟩,
            ⟨some 38, .base (.nilCheck (.tmp 33)), none⟩,
            ⟨some 39, .base (.fieldAddr 2 (.tmp 38)), none⟩,
            ⟨none, .heap (.store 1 (.tmp 39) (.tmp 37)), none⟩])
           (.ops [⟨some 40, .base (.mv (.tmp 0)), none⟩,
            ⟨some 41, .base (.mv (.tmp 0)), none⟩,
            ⟨some 42, .base (.nilCheck (.tmp 41)), none⟩,
            ⟨some 43, .base (.fieldAddr 1 (.tmp 42)), none⟩,
            ⟨some 44, .load false [.int .i64] (.tmp 43), none⟩,
            ⟨some 45, .base (.nilCheck (.tmp 40)), none⟩,
            ⟨some 46, .base (.fieldAddr 3 (.tmp 45)), none⟩,
            ⟨none, .heap (.store 1 (.tmp 46) (.tmp 44)), none⟩])))
         (.seq (.ops [⟨some 48, .base (.mv (.tmp 2)), none⟩,
            ⟨some 49, .base (.idxS (.tmp 48) (.const (vI 0))), none⟩,
            ⟨some 50, .base (.pure o86_4 4), none⟩,
            ⟨some 51, .base (.mv (.tmp 50)), none⟩,
            ⟨some 52, .base (.mv (.tmp 2)), some (51, false)⟩,
            ⟨some 53, .base (.idxS (.tmp 52) (.const (vI 0))), some (51, false)⟩,
            ⟨some 54, .base (.pure o86_5 4), some (51, false)⟩,
            ⟨some 55, .base (.pick (.tmp 51) (.const (vB true)) (.tmp 54)), none⟩,
            ⟨some 47, .base (.mv (.tmp 55)), none⟩])
           (.cond (.tmp 47) (.ops [⟨some 56, .base (.mv (.tmp 0)), none⟩,
              ⟨some 57, .base (.nilCheck (.tmp 56)), none⟩,
              ⟨some 58, .base (.fieldAddr 1 (.tmp 57)), none⟩,
              ⟨some 59, .load false [.int .i64] (.tmp 58), none⟩,
              ⟨some 60, .base (.pure o86_6 3), none⟩,
              ⟨some 61, .base (.nilCheck (.tmp 56)), none⟩,
              ⟨some 62, .base (.fieldAddr 1 (.tmp 61)), none⟩,
              ⟨none, .heap (.store 1 (.tmp 62) (.tmp 60)), none⟩])
           (.seq (.ops [⟨some 64, .base (.mv (.tmp 2)), none⟩,
              ⟨some 65, .call (.func 131) [.tmp 64, .const (vS [47, 47])] (.one false [.bool]), none⟩,
              ⟨some 63, .base (.mv (.tmp 65)), none⟩])
             (.cond (.tmp 63) (.draw [(⟨some 66, .base (.mv (.tmp 0)), none⟩, []),
                (⟨some 67, .base (.nilCheck (.tmp 66)), none⟩, [0]),
                (⟨some 68, .base (.fieldAddr 1 (.tmp 67)), none⟩, [1]),
                (⟨some 69, .load false [.int .i64] (.tmp 68), none⟩, [2]),
                (⟨some 70, .base (.mv (.tmp 2)), none⟩, []),
                (⟨some 71, .call (.func 132) [.tmp 70, .func 133] (.one false [.int .i64]), none⟩, [4]),
                (⟨some 72, .base (.pure o86_7 3), none⟩, [3, 5]),
                (⟨some 73, .base (.nilCheck (.tmp 66)), none⟩, [0, 0, 1, 2, 3, 4, 5, 6]),
                (⟨some 74, .base (.fieldAddr 1 (.tmp 73)), none⟩, [7, 0, 1, 2, 3, 4, 5, 6]),
                (⟨none, .heap (.store 1 (.tmp 74) (.tmp 72)), none⟩, [8, 6, 5, 0, 1, 2, 3, 4, 5, 6])])
             (.ret))))))))))))
theorem low86 : low Tryz.prog (fun _ => false) (Tryz.f86.body.getD .skip) = some (eC d86) := by kernel_rfl
theorem res86 : lowRes Tryz.prog Tryz.f86.results.toList = some [] := by kernel_rfl
def R86 (appb1 : Nat) (appo1 : Nat) (h : PHeap) (Q : Value → PHeap → Prop) : Prop :=
  ∃ (I_1 : Nat → PHeap → Prop), (∃ (m2 : Nat), I_1 m2 h) ∧
  ∀ (m1 : Nat) (h_1 : PHeap), I_1 m1 h_1 →
  ∃ (i1 : Int), h_1.cell appb1 (appo1 + 1) = some (vI i1) ∧
  ∃ (l1 : List UInt8), h_1.cell appb1 appo1 = some (vS l1) ∧
  br (decide (i1 < (l1.length : Int)))
  (∃ (l2 : List UInt8), h_1.cell appb1 appo1 = some (vS l2) ∧
    ∃ (i2 : Int), h_1.cell appb1 (appo1 + 1) = some (vI i2) ∧
    (0 ≤ i2 ∧ i2 ≤ (l2.length : Int) ∧ (l2.length : Int) ≤ (l2.length : Int)) ∧
    0 ≤ (0 : Int) ∧ ∃ (c1 : UInt8), (((l2.drop (i2).toNat).take ((l2.length : Int).toNat - (i2).toNat)))[0]? = some c1 ∧
    br ((c1.toNat : Int) == 10)
    (∃ (i3 : Int), h_1.cell appb1 (appo1 + 1) = some (vI i3) ∧
      ∃ (l3 : List Value) (t1 : TypeId) (z1 : Nat × Nat), h_1 appb1 = some (.cells ⟨l3⟩ t1 z1) ∧ ((appo1 + 1) + 1 ≤ l3.length ∧ z1.2 ≤ (appo1 + 1)) ∧
      ∀ (h_2 : PHeap), h_2 = h_1.put appb1 (.cells ⟨splice l3 (appo1 + 1) [vI (IntKind.i64.wrap (i3 + 1))]⟩ t1 z1) →
      ∃ (i4 : Int), h_2.cell appb1 (appo1 + 2) = some (vI i4) ∧
      ∃ (l4 : List Value) (t2 : TypeId) (z2 : Nat × Nat), h_2 appb1 = some (.cells ⟨l4⟩ t2 z2) ∧ ((appo1 + 2) + 1 ≤ l4.length ∧ z2.2 ≤ (appo1 + 2)) ∧
      ∀ (h_3 : PHeap), h_3 = h_2.put appb1 (.cells ⟨splice l4 (appo1 + 2) [vI (IntKind.i64.wrap (i4 + 1))]⟩ t2 z2) →
      ∃ (i5 : Int), h_3.cell appb1 (appo1 + 1) = some (vI i5) ∧
      ∃ (l5 : List Value) (t3 : TypeId) (z3 : Nat × Nat), h_3 appb1 = some (.cells ⟨l5⟩ t3 z3) ∧ ((appo1 + 3) + 1 ≤ l5.length ∧ z3.2 ≤ (appo1 + 3)) ∧
      ∀ (h_4 : PHeap), h_4 = h_3.put appb1 (.cells ⟨splice l5 (appo1 + 3) [vI i5]⟩ t3 z3) →
      ∃ (m3 : Nat), m3 < m1 ∧ I_1 m3 h_4 ∧
      True)
    (0 ≤ (0 : Int) ∧ ∃ (c2 : UInt8), (((l2.drop (i2).toNat).take ((l2.length : Int).toNat - (i2).toNat)))[0]? = some c2 ∧
      br ((c2.toNat : Int) == 32)
      (∃ (i6 : Int), h_1.cell appb1 (appo1 + 1) = some (vI i6) ∧
        ∃ (l6 : List Value) (t4 : TypeId) (z4 : Nat × Nat), h_1 appb1 = some (.cells ⟨l6⟩ t4 z4) ∧ ((appo1 + 1) + 1 ≤ l6.length ∧ z4.2 ≤ (appo1 + 1)) ∧
        ∀ (h_5 : PHeap), h_5 = h_1.put appb1 (.cells ⟨splice l6 (appo1 + 1) [vI (IntKind.i64.wrap (i6 + 1))]⟩ t4 z4) →
        ∃ (m4 : Nat), m4 < m1 ∧ I_1 m4 h_5 ∧
        True)
      (0 ≤ (0 : Int) ∧ ∃ (c3 : UInt8), (((l2.drop (i2).toNat).take ((l2.length : Int).toNat - (i2).toNat)))[0]? = some c3 ∧
        br ((c3.toNat : Int) == 9)
        (∃ (i7 : Int), h_1.cell appb1 (appo1 + 1) = some (vI i7) ∧
          ∃ (l7 : List Value) (t5 : TypeId) (z5 : Nat × Nat), h_1 appb1 = some (.cells ⟨l7⟩ t5 z5) ∧ ((appo1 + 1) + 1 ≤ l7.length ∧ z5.2 ≤ (appo1 + 1)) ∧
          ∀ (h_6 : PHeap), h_6 = h_1.put appb1 (.cells ⟨splice l7 (appo1 + 1) [vI (IntKind.i64.wrap (i7 + 1))]⟩ t5 z5) →
          ∃ (m5 : Nat), m5 < m1 ∧ I_1 m5 h_6 ∧
          True)
        (Tri Tryz.prog 131 [vS ((l2.drop (i2).toNat).take ((l2.length : Int).toNat - (i2).toNat)), vS [47, 47]] h_1 fun v_1 h_7 =>
          ∃ (c4 : Bool), v_1 = vB c4 ∧
          br c4
          (∃ (i8 : Int), h_7.cell appb1 (appo1 + 1) = some (vI i8) ∧
            Tri Tryz.prog 132 [vS ((l2.drop (i2).toNat).take ((l2.length : Int).toNat - (i2).toNat)), vF 133 [] []] h_7 fun v_2 h_8 =>
            ∃ (i9 : Int), v_2 = vI i9 ∧
            (h_8.cell appb1 (appo1 + 1) = some (vI i8)) ∧
            ∃ (l8 : List Value) (t6 : TypeId) (z6 : Nat × Nat), h_8 appb1 = some (.cells ⟨l8⟩ t6 z6) ∧ ((appo1 + 1) + 1 ≤ l8.length ∧ z6.2 ≤ (appo1 + 1)) ∧
            ∀ (h_9 : PHeap), h_9 = h_8.put appb1 (.cells ⟨splice l8 (appo1 + 1) [vI (IntKind.i64.wrap (i8 + i9))]⟩ t6 z6) →
            ∃ (m6 : Nat), m6 < m1 ∧ I_1 m6 h_9 ∧
            True)
          (Q (vT []) h_7)))))
  (Q (vT []) h_1)
theorem e86 (appb1 : Nat) (appo1 : Nat) (h : PHeap) (Q : Value → PHeap → Prop) : dnF Tryz.prog Tryz.f86.ntmps d86 [] [vP appb1 appo1] h Q = R86 appb1 appo1 h Q := by kernel_rfl
theorem T86 {appb1 : Nat} {appo1 : Nat} {h : PHeap} {Q : Value → PHeap → Prop} (hR : R86 appb1 appo1 h Q) : Tri Tryz.prog 86 [vP appb1 appo1] h Q :=
  tri_of_dn mixed Tryz.func86 rfl (by kernel_rfl) low86 res86 rfl (Eq.mpr (e86 appb1 appo1 h Q) hR)
/- replevin/lexer.Scan -/
abbrev o35_0 : Op := .binOp Go.BinOp.gtr 3 (Go.Operand.tmp 11) (Go.Operand.const (vI 16384)) 3
abbrev o35_1 : Op := .binOp Go.BinOp.lss 3 (Go.Operand.tmp 21) (Go.Operand.tmp 23) 3
abbrev o35_2 : Op := .extract (Go.Operand.tmp 27) 0
abbrev o35_3 : Op := .extract (Go.Operand.tmp 27) 1
abbrev o35_4 : Op := .binOp Go.BinOp.geq 3 (Go.Operand.tmp 39) (Go.Operand.const (vI 4096)) 3
abbrev o35_5 : Op := .unOp Go.UnOp.not 4 (Go.Operand.tmp 43)
abbrev o35_6 : Op := .binOp Go.BinOp.sub 3 (Go.Operand.tmp 49) (Go.Operand.tmp 53) 3
abbrev o35_7 : Op := .binOp Go.BinOp.add 3 (Go.Operand.tmp 54) (Go.Operand.const (vI 1)) 3
abbrev o35_8 : Op := .binOp Go.BinOp.neq 27 (Go.Operand.tmp 57) (Go.Operand.const (vI 0)) 27
abbrev o35_9 : Op := .binOp Go.BinOp.add 3 (Go.Operand.tmp 63) (Go.Operand.tmp 65) 3
abbrev o35_10 : Op := .call { callee := (Go.Callee.builtin Go.Builtin.append), args := #[(Go.Operand.tmp 78), (Go.Operand.tmp 81)], argTypes := #[75, 75] }
abbrev o35_11 : Op := .binOp Go.BinOp.add 3 (Go.Operand.tmp 86) (Go.Operand.tmp 88) 3
abbrev o35_12 : Op := .binOp Go.BinOp.sub 3 (Go.Operand.tmp 100) (Go.Operand.tmp 104) 3
abbrev o35_13 : Op := .binOp Go.BinOp.add 3 (Go.Operand.tmp 105) (Go.Operand.const (vI 1)) 3
abbrev o35_14 : Op := .call { callee := (Go.Callee.builtin Go.Builtin.append), args := #[(Go.Operand.tmp 92), (Go.Operand.tmp 108)], argTypes := #[75, 75] }
def d35 : DCode :=
  .seq (.ops [⟨some 2, .base (.mv (.const (vL none 0 0))), none⟩,
  ⟨some 3, .base (.mv (.const (vI 0))), none⟩,
  ⟨some 4, .base (.mv (.const (vI 0))), none⟩,
  ⟨some 5, .base (.mv (.const (vI 0))), none⟩])
 (.seq (.seq (.ops [⟨some 10, .base (.mv (.tmp 0)), none⟩,
  ⟨some 11, .base (.len true (.tmp 10)), none⟩,
  ⟨some 12, .base (.pure o35_0 4), none⟩])
 (.cond (.tmp 12) (.seq (.ops [⟨some 2, .base (.mv (.const (vL none 0 0))), none⟩,
    ⟨some 3, .base (.mv (.const (vI 1))), none⟩,
    ⟨some 4, .base (.mv (.const (vI 1))), none⟩,
    ⟨some 5, .base (.mv (.const (vI 5))), none⟩])
   (.ret))
 (.skip)))
 (.seq (.ops [⟨some 13, .base (.mv (.tmp 0)), none⟩,
  ⟨some 14, .base (.build [vS [], vI 0, vI 0, vI 0] [(0, 1, .tmp 13), (2, 1, .const (vI 1))]), none⟩,
  ⟨some 15, .heap (.box 160 (.tmp 14) true), none⟩,
  ⟨some 6, .base (.mv (.tmp 15)), none⟩])
 (.seq (.seq (.ops [⟨some 16, .base (.mv (.tmp 6)), none⟩,
  ⟨some 17, .call (.func 86) [.tmp 16] (.tup []), none⟩])
 (.block 0 (.loop [18, 19, 20, 21, 22, 23, 24, 28, 29, 30, 31, 32, 33, 34, 27, 35, 36, 7, 8, 38, 39, 40, 37, 41, 43, 44, 42, 45, 46, 47, 48, 49, 50, 51, 52, 53, 54, 55, 9, 56, 57, 58, 59, 60, 61, 62, 63, 64, 65, 66, 67, 68, 3, 4, 5, 69, 70, 71, 72, 73, 74, 75, 76, 77, 78, 79, 80, 81, 82, 2, 83, 84, 85, 86, 87, 88, 89, 90, 91, 25, 26] [(2, .slice)] [] (.seq (.seq (.ops [⟨some 18, .base (.mv (.tmp 6)), none⟩,
      ⟨some 19, .base (.nilCheck (.tmp 18)), none⟩,
      ⟨some 20, .base (.fieldAddr 1 (.tmp 19)), none⟩,
      ⟨some 21, .load false [.int .i64] (.tmp 20), none⟩,
      ⟨some 22, .base (.mv (.tmp 0)), none⟩,
      ⟨some 23, .base (.len true (.tmp 22)), none⟩,
      ⟨some 24, .base (.pure o35_1 4), none⟩])
     (.cond (.tmp 24) (.skip)
     (.exit 0)))
     (.seq (.block 1 (.seq (.ops [⟨some 28, .base (.mv (.tmp 0)), none⟩,
        ⟨some 29, .base (.mv (.tmp 6)), none⟩,
        ⟨some 30, .base (.nilCheck (.tmp 29)), none⟩,
        ⟨some 31, .base (.fieldAddr 1 (.tmp 30)), none⟩,
        ⟨some 32, .load false [.int .i64] (.tmp 31), none⟩,
        ⟨some 33, .base (.sliceS (.tmp 28) (some (.tmp 32)) none), none⟩,
        ⟨some 34, .call (.func 87) [.tmp 33] (.tup [(true, [.int .i64, .str, .int .i64, .str, .int .i64, .int .i64, .int .i64, .int .i64, .int .i64]), (false, [.bool])]), none⟩,
        ⟨some 27, .base (.mv (.tmp 34)), none⟩,
        ⟨some 35, .base (.pure o35_2 164), none⟩,
        ⟨some 36, .base (.pure o35_3 4), none⟩,
        ⟨some 7, .base (.alloc 164 [vI 0, vS [], vI 0, vS [], vI 0, vI 0, vI 0, vI 0, vI 0] false), none⟩,
        ⟨none, .base (.store 9 (.tmp 7) (.tmp 35)), none⟩,
        ⟨some 8, .base (.mv (.tmp 36)), none⟩])
       (.seq (.block 2 (.seq (.ops [⟨some 38, .base (.mv (.tmp 2)), none⟩,
          ⟨some 39, .base (.len false (.tmp 38)), none⟩,
          ⟨some 40, .base (.pure o35_4 4), none⟩,
          ⟨some 37, .base (.mv (.tmp 40)), none⟩])
         (.cond (.tmp 37) (.ops [⟨some 41, .base (.build [vI 0, vS [], vI 0, vS [], vI 0, vI 0, vI 0, vI 0, vI 0] [(8, 1, .const (vI 9))]), none⟩,
            ⟨none, .base (.store 9 (.tmp 7) (.tmp 41)), none⟩])
         (.seq (.ops [⟨some 43, .base (.mv (.tmp 8)), none⟩,
            ⟨some 44, .base (.pure o35_5 4), none⟩,
            ⟨some 42, .base (.mv (.tmp 44)), none⟩])
           (.cond (.tmp 42) (.ops [⟨some 45, .base (.build [vI 0, vS [], vI 0, vS [], vI 0, vI 0, vI 0, vI 0, vI 0] [(8, 1, .const (vI 6))]), none⟩,
              ⟨none, .base (.store 9 (.tmp 7) (.tmp 45)), none⟩])
           (.skip))))))
       (.seq (.draw [(⟨some 46, .base (.mv (.tmp 6)), none⟩, []),
        (⟨some 47, .base (.nilCheck (.tmp 46)), none⟩, [0]),
        (⟨some 48, .base (.fieldAddr 1 (.tmp 47)), none⟩, [1]),
        (⟨some 49, .load false [.int .i64] (.tmp 48), none⟩, [2]),
        (⟨some 50, .base (.mv (.tmp 6)), none⟩, []),
        (⟨some 51, .base (.nilCheck (.tmp 50)), none⟩, [4]),
        (⟨some 52, .base (.fieldAddr 3 (.tmp 51)), none⟩, [5]),
        (⟨some 53, .load false [.int .i64] (.tmp 52), none⟩, [6]),
        (⟨some 54, .base (.pure o35_6 3), none⟩, [3, 7]),
        (⟨some 55, .base (.pure o35_7 3), none⟩, [8]),
        (⟨some 9, .base (.mv (.tmp 55)), none⟩, [9, 0, 1, 2, 3, 4, 5, 6, 7, 8, 9])])
       (.seq (.seq (.ops [⟨some 56, .base (.fieldAddr 8 (.tmp 7)), none⟩,
        ⟨some 57, .load false [.int .i64] (.tmp 56), none⟩,
        ⟨some 58, .base (.pure o35_8 4), none⟩])
       (.cond (.tmp 58) (.seq (.draw [(⟨some 59, .base (.mv (.tmp 6)), none⟩, []),
          (⟨some 60, .base (.nilCheck (.tmp 59)), none⟩, [0]),
          (⟨some 61, .base (.fieldAddr 2 (.tmp 60)), none⟩, [1]),
          (⟨some 62, .load false [.int .i64] (.tmp 61), none⟩, [2]),
          (⟨some 63, .base (.mv (.tmp 9)), none⟩, []),
          (⟨some 64, .base (.fieldAddr 7 (.tmp 7)), none⟩, []),
          (⟨some 65, .load false [.int .i64] (.tmp 64), none⟩, [5]),
          (⟨some 66, .base (.pure o35_9 3), none⟩, [4, 6]),
          (⟨some 67, .base (.fieldAddr 8 (.tmp 7)), none⟩, []),
          (⟨some 68, .load false [.int .i64] (.tmp 67), none⟩, [8]),
          (⟨some 2, .base (.mv (.const (vL none 0 0))), none⟩, []),
          (⟨some 3, .base (.mv (.tmp 62)), none⟩, [3, 10, 0, 1, 2, 3, 10]),
          (⟨some 4, .base (.mv (.tmp 66)), none⟩, [7, 11, 0, 1, 2, 3, 4, 5, 6, 7, 10, 11]),
          (⟨some 5, .base (.mv (.tmp 68)), none⟩, [9, 12, 0, 1, 2, 3, 4, 5, 6, 7, 8, 9, 10, 11, 12])])
         (.ret))
       (.skip)))
       (.seq (.ops [⟨some 69, .base (.mv (.tmp 6)), none⟩,
        ⟨some 70, .base (.nilCheck (.tmp 69)), none⟩,
        ⟨some 71, .base (.fieldAddr 2 (.tmp 70)), none⟩,
        ⟨some 72, .load false [.int .i64] (.tmp 71), none⟩,
        ⟨some 73, .base (.mv (.tmp 9)), none⟩,
        ⟨some 74, .base (.fieldAddr 0 (.tmp 7)), none⟩,
        ⟨some 75, .base (.fieldAddr 4 (.tmp 74)), none⟩,
        ⟨none, .base (.store 1 (.tmp 75) (.tmp 72)), none⟩,
        ⟨some 76, .base (.fieldAddr 0 (.tmp 7)), none⟩,
        ⟨some 77, .base (.fieldAddr 5 (.tmp 76)), none⟩,
        ⟨none, .base (.store 1 (.tmp 77) (.tmp 73)), none⟩])
       (.seq (.ops [⟨some 78, .base (.mv (.tmp 2)), none⟩,
        ⟨some 79, .base (.fieldAddr 0 (.tmp 7)), none⟩,
        ⟨some 80, .load true [.int .i64, .str, .int .i64, .str, .int .i64, .int .i64] (.tmp 79), none⟩,
        ⟨some 81, .heap (.buildSlice 162 1 [vI 0, vS [], vI 0, vS [], vI 0, vI 0] [(0, 6, .tmp 80)]), none⟩,
        ⟨some 82, .raw o35_10 75 (.one false [.slice]), none⟩,
        ⟨some 2, .base (.mv (.tmp 82)), none⟩])
       (.draw [(⟨some 83, .base (.mv (.tmp 6)), none⟩, []),
        (⟨some 84, .base (.nilCheck (.tmp 83)), none⟩, [0]),
        (⟨some 85, .base (.fieldAddr 1 (.tmp 84)), none⟩, [1]),
        (⟨some 86, .load false [.int .i64] (.tmp 85), none⟩, [2]),
        (⟨some 87, .base (.fieldAddr 6 (.tmp 7)), none⟩, []),
        (⟨some 88, .load false [.int .i64] (.tmp 87), none⟩, [4]),
        (⟨some 89, .base (.pure o35_11 3), none⟩, [3, 5]),
        (⟨some 90, .base (.nilCheck (.tmp 83)), none⟩, [0, 0, 1, 2, 3, 4, 5, 6]),
        (⟨some 91, .base (.fieldAddr 1 (.tmp 90)), none⟩, [7, 0, 1, 2, 3, 4, 5, 6]),
        (⟨none, .heap (.store 1 (.tmp 91) (.tmp 89)), none⟩, [8, 6, 0, 1, 2, 3, 4, 5, 6])]))))))))
     (.ops [⟨some 25, .base (.mv (.tmp 6)), none⟩,
      ⟨some 26, .call (.func 86) [.tmp 25] (.tup []), none⟩]))))))
 (.seq (.draw [(⟨some 92, .base (.mv (.tmp 2)), none⟩, []),
  (⟨some 93, .base (.mv (.tmp 6)), none⟩, []),
  (⟨some 94, .base (.nilCheck (.tmp 93)), none⟩, [1]),
  (⟨some 95, .base (.fieldAddr 2 (.tmp 94)), none⟩, [2]),
  (⟨some 96, .load false [.int .i64] (.tmp 95), none⟩, [3]),
  (⟨some 97, .base (.mv (.tmp 6)), none⟩, []),
  (⟨some 98, .base (.nilCheck (.tmp 97)), none⟩, [5]),
  (⟨some 99, .base (.fieldAddr 1 (.tmp 98)), none⟩, [6]),
  (⟨some 100, .load false [.int .i64] (.tmp 99), none⟩, [7]),
  (⟨some 101, .base (.mv (.tmp 6)), none⟩, []),
  (⟨some 102, .base (.nilCheck (.tmp 101)), none⟩, [9]),
  (⟨some 103, .base (.fieldAddr 3 (.tmp 102)), none⟩, [10]),
  (⟨some 104, .load false [.int .i64] (.tmp 103), none⟩, [11]),
  (⟨some 105, .base (.pure o35_12 3), none⟩, [8, 12]),
  (⟨some 106, .base (.pure o35_13 3), none⟩, [13]),
  (⟨some 107, .base (.build [vI 0, vS [], vI 0, vS [], vI 0, vI 0] [(0, 1, .const (vI 0)), (4, 1, .tmp 96), (5, 1, .tmp 106)]), none⟩, [4, 14]),
  (⟨some 108, .heap (.buildSlice 162 1 [vI 0, vS [], vI 0, vS [], vI 0, vI 0] [(0, 6, .tmp 107)]), none⟩, [15]),
  (⟨some 109, .raw o35_14 75 (.one false [.slice]), none⟩, [0, 16]),
  (⟨some 2, .base (.mv (.tmp 109)), none⟩, [17, 17, 0, 1, 2, 3, 4, 5, 6, 7, 8, 9, 10, 11, 12, 13, 14, 15, 16, 17]),
  (⟨some 3, .base (.mv (.const (vI 0))), none⟩, [18, 0, 1, 2, 3, 4, 5, 6, 7, 8, 9, 10, 11, 12, 13, 14, 15, 16, 17, 18]),
  (⟨some 4, .base (.mv (.const (vI 0))), none⟩, [19, 0, 1, 2, 3, 4, 5, 6, 7, 8, 9, 10, 11, 12, 13, 14, 15, 16, 17, 18, 19]),
  (⟨some 5, .base (.mv (.const (vI 0))), none⟩, [20, 0, 1, 2, 3, 4, 5, 6, 7, 8, 9, 10, 11, 12, 13, 14, 15, 16, 17, 18, 19, 20])])
 (.ret)))))
theorem low35 : low Tryz.prog (fun d => Nat.beq d 15) (Tryz.f35.body.getD .skip) = some (eC d35) := by kernel_rfl
theorem res35 : lowRes Tryz.prog Tryz.f35.results.toList = some [.tmp 2, .tmp 3, .tmp 4, .tmp 5] := by kernel_rfl
def R35 (app1 : List UInt8) (h : PHeap) (Q : Value → PHeap → Prop) : Prop :=
  br (decide ((app1.length : Int) > 16384))
  (Q (vT [vL none 0 0, vI 1, vI 1, vI 5]) h)
  (∀ (b1 : Nat), h b1 = none → ∀ (h_1 : PHeap), h_1 = h.put b1 (.cells ⟨[vS app1, vI 0, vI 1, vI 0]⟩ 160) →
    Tri Tryz.prog 86 [vP b1 0] h_1 fun v_1 h_2 =>
    v_1 = vT [] ∧
    ∃ (I_1 : Nat → Option Addr → Nat → Nat → PHeap → Prop), (∃ (m2 : Nat), I_1 m2 none 0 0 h_2) ∧
    ∀ (m1 : Nat) (sa1 : Option Addr) (sn1 : Nat) (sc1 : Nat) (h_3 : PHeap), I_1 m1 sa1 sn1 sc1 h_3 →
    ∃ (i1 : Int), h_3.cell b1 1 = some (vI i1) ∧
    br (decide (i1 < (app1.length : Int)))
    (∃ (i2 : Int), h_3.cell b1 1 = some (vI i2) ∧
      (0 ≤ i2 ∧ i2 ≤ (app1.length : Int) ∧ (app1.length : Int) ≤ (app1.length : Int)) ∧
      Tri Tryz.prog 87 [vS ((app1.drop (i2).toNat).take ((app1.length : Int).toNat - (i2).toNat))] h_3 fun v_2 h_4 =>
      ∃ (token_Kind1 : Int) (token_Text1 : List UInt8) (token_Value1 : Int) (token_Bytes1 : List UInt8) (token_Line1 token_Column1 size1 at_1 e_1 : Int) (c1 : Bool), v_2 = vT [vA [vI token_Kind1, vS token_Text1, vI token_Value1, vS token_Bytes1, vI token_Line1, vI token_Column1, vI size1, vI at_1, vI e_1], vB c1] ∧
      br (decide (((sn1 : Nat) : Int) ≥ 4096))
      (∃ (i3 : Int), h_4.cell b1 1 = some (vI i3) ∧
        ∃ (i4 : Int), h_4.cell b1 3 = some (vI i4) ∧
        ∃ (i5 : Int), h_4.cell b1 2 = some (vI i5) ∧
        Q (vT [vL none 0 0, vI i5, vI (IntKind.i64.wrap ((IntKind.i64.wrap ((IntKind.i64.wrap (i3 - i4)) + 1)) + 0)), vI 9]) h_4)
      (br (!c1)
        (∃ (i6 : Int), h_4.cell b1 1 = some (vI i6) ∧
          ∃ (i7 : Int), h_4.cell b1 3 = some (vI i7) ∧
          ∃ (i8 : Int), h_4.cell b1 2 = some (vI i8) ∧
          Q (vT [vL none 0 0, vI i8, vI (IntKind.i64.wrap ((IntKind.i64.wrap ((IntKind.i64.wrap (i6 - i7)) + 1)) + 0)), vI 6]) h_4)
        (∃ (i9 : Int), h_4.cell b1 1 = some (vI i9) ∧
          ∃ (i10 : Int), h_4.cell b1 3 = some (vI i10) ∧
          br (e_1 != 0)
          (∃ (i11 : Int), h_4.cell b1 2 = some (vI i11) ∧
            Q (vT [vL none 0 0, vI i11, vI (IntKind.i64.wrap ((IntKind.i64.wrap ((IntKind.i64.wrap (i9 - i10)) + 1)) + at_1)), vI e_1]) h_4)
          (∃ (i12 : Int), h_4.cell b1 2 = some (vI i12) ∧
            ∀ (b2 : Nat), h_4 b2 = none → ∀ (h_5 : PHeap), h_5 = h_4.put b2 (.cells ⟨[vI token_Kind1, vS token_Text1, vI token_Value1, vS token_Bytes1, vI i12, vI (IntKind.i64.wrap ((IntKind.i64.wrap (i9 - i10)) + 1))]⟩ 162) →
            Raw Tryz.prog (execOp (rho [(78, vL sa1 sn1 sc1), (81, vL (ad b2 0) 1 1)]) (mkO o35_10 75)) h_5 fun v_3 h_6 =>
            ∃ (sa2 : Option Addr) (sn2 sc2 : Nat), v_3 = vL sa2 sn2 sc2 ∧
            ∃ (i13 : Int), h_6.cell b1 1 = some (vI i13) ∧
            ∃ (l1 : List Value) (t1 : TypeId) (z1 : Nat × Nat), h_6 b1 = some (.cells ⟨l1⟩ t1 z1) ∧ (1 + 1 ≤ l1.length ∧ z1.2 ≤ 1) ∧
            ∀ (h_7 : PHeap), h_7 = h_6.put b1 (.cells ⟨splice l1 1 [vI (IntKind.i64.wrap (i13 + size1))]⟩ t1 z1) →
            Tri Tryz.prog 86 [vP b1 0] h_7 fun v_4 h_8 =>
            v_4 = vT [] ∧
            ∃ (m3 : Nat), m3 < m1 ∧ I_1 m3 sa2 sn2 sc2 h_8 ∧
            True))))
    (∃ (i14 : Int), h_3.cell b1 2 = some (vI i14) ∧
      ∃ (i15 : Int), h_3.cell b1 1 = some (vI i15) ∧
      ∃ (i16 : Int), h_3.cell b1 3 = some (vI i16) ∧
      ∀ (b3 : Nat), h_3 b3 = none → ∀ (h_9 : PHeap), h_9 = h_3.put b3 (.cells ⟨[vI 0, vS [], vI 0, vS [], vI i14, vI (IntKind.i64.wrap ((IntKind.i64.wrap (i15 - i16)) + 1))]⟩ 162) →
      (h_9.cell b1 3 = some (vI i16)) ∧
      (h_9.cell b1 1 = some (vI i15)) ∧
      (h_9.cell b1 2 = some (vI i14)) ∧
      Raw Tryz.prog (execOp (rho [(92, vL sa1 sn1 sc1), (108, vL (ad b3 0) 1 1)]) (mkO o35_14 75)) h_9 fun v_5 h_10 =>
      ∃ (sa3 : Option Addr) (sn3 sc3 : Nat), v_5 = vL sa3 sn3 sc3 ∧
      (h_10.cell b1 3 = some (vI i16)) ∧
      (h_10.cell b1 1 = some (vI i15)) ∧
      (h_10.cell b1 2 = some (vI i14)) ∧
      Q (vT [vL sa3 sn3 sc3, vI 0, vI 0, vI 0]) h_10))
theorem e35 (app1 : List UInt8) (h : PHeap) (Q : Value → PHeap → Prop) : dnF Tryz.prog Tryz.f35.ntmps d35 [.tmp 2, .tmp 3, .tmp 4, .tmp 5] [vS app1] h Q = R35 app1 h Q := by kernel_rfl
theorem T35 {app1 : List UInt8} {h : PHeap} {Q : Value → PHeap → Prop} (hR : R35 app1 h Q) : Tri Tryz.prog 35 [vS app1] h Q :=
  tri_of_dn mixed Tryz.func35 rfl (by kernel_rfl) low35 res35 rfl (Eq.mpr (e35 app1 h Q) hR)
/- replevin/syntax.Parse -/
abbrev o14_0 : Op := .extract (Go.Operand.tmp 8) 0
abbrev o14_1 : Op := .extract (Go.Operand.tmp 8) 1
abbrev o14_2 : Op := .extract (Go.Operand.tmp 8) 2
abbrev o14_3 : Op := .extract (Go.Operand.tmp 8) 3
abbrev o14_4 : Op := .binOp Go.BinOp.neq 27 (Go.Operand.tmp 15) (Go.Operand.const (vI 0)) 27
abbrev o14_5 : Op := .makeMap 79 none
abbrev o14_6 : Op := .insert 79 (Go.Operand.tmp 25) (Go.Operand.const (vS [118, 97, 114])) (Go.Operand.tmp 27)
abbrev o14_7 : Op := .insert 79 (Go.Operand.tmp 25) (Go.Operand.const (vS [105, 102])) (Go.Operand.tmp 29)
abbrev o14_8 : Op := .insert 79 (Go.Operand.tmp 25) (Go.Operand.const (vS [119, 104, 105, 108, 101])) (Go.Operand.tmp 31)
abbrev o14_9 : Op := .insert 79 (Go.Operand.tmp 25) (Go.Operand.const (vS [114, 101, 116, 117, 114, 110])) (Go.Operand.tmp 33)
abbrev o14_10 : Op := .insert 79 (Go.Operand.tmp 25) (Go.Operand.const (vS [98, 114, 101, 97, 107])) (Go.Operand.tmp 34)
abbrev o14_11 : Op := .insert 79 (Go.Operand.tmp 25) (Go.Operand.const (vS [99, 111, 110, 116, 105, 110, 117, 101])) (Go.Operand.tmp 35)
abbrev o14_12 : Op := .binOp Go.BinOp.eql 27 (Go.Operand.tmp 42) (Go.Operand.const (vI 0)) 27
abbrev o14_13 : Op := .unOp Go.UnOp.not 4 (Go.Operand.tmp 46)
abbrev o14_14 : Op := .call { callee := (Go.Callee.builtin Go.Builtin.append), args := #[(Go.Operand.tmp 55), (Go.Operand.tmp 58)], argTypes := #[23, 23] }
abbrev o14_15 : Op := .call { callee := (Go.Callee.builtin Go.Builtin.append), args := #[(Go.Operand.tmp 65), (Go.Operand.tmp 68)], argTypes := #[24, 24] }
abbrev o14_16 : Op := .binOp Go.BinOp.neq 27 (Go.Operand.tmp 74) (Go.Operand.const (vI 0)) 27
def d14 : DCode :=
  .seq (.ops [⟨some 2, .base (.alloc 26 [vL none 0 0, vL none 0 0] false), none⟩,
  ⟨some 3, .base (.mv (.const (vI 0))), none⟩,
  ⟨some 4, .base (.mv (.const (vI 0))), none⟩,
  ⟨some 5, .base (.mv (.const (vI 0))), none⟩])
 (.seq (.ops [⟨some 9, .base (.mv (.tmp 0)), none⟩,
  ⟨some 10, .call (.func 35) [.tmp 9] (.tup [(false, [.slice]), (false, [.int .i64]), (false, [.int .i64]), (false, [.int .i64])]), none⟩,
  ⟨some 8, .base (.mv (.tmp 10)), none⟩,
  ⟨some 11, .base (.pure o14_0 75), none⟩,
  ⟨some 12, .base (.pure o14_1 3), none⟩,
  ⟨some 13, .base (.pure o14_2 3), none⟩,
  ⟨some 14, .base (.pure o14_3 27), none⟩,
  ⟨some 6, .base (.mv (.tmp 11)), none⟩,
  ⟨some 3, .base (.mv (.tmp 12)), none⟩,
  ⟨some 4, .base (.mv (.tmp 13)), none⟩,
  ⟨some 5, .base (.mv (.tmp 14)), none⟩])
 (.seq (.seq (.ops [⟨some 15, .base (.mv (.tmp 5)), none⟩,
  ⟨some 16, .base (.pure o14_4 4), none⟩])
 (.cond (.tmp 16) (.seq (.ops [⟨some 17, .base (.build [vL none 0 0, vL none 0 0] []), none⟩,
    ⟨some 18, .base (.mv (.tmp 3)), none⟩,
    ⟨some 19, .base (.mv (.tmp 4)), none⟩,
    ⟨some 20, .base (.mv (.tmp 5)), none⟩,
    ⟨none, .base (.store 2 (.tmp 2) (.tmp 17)), none⟩,
    ⟨some 3, .base (.mv (.tmp 18)), none⟩,
    ⟨some 4, .base (.mv (.tmp 19)), none⟩,
    ⟨some 5, .base (.mv (.tmp 20)), none⟩])
   (.ret))
 (.skip)))
 (.seq (.ops [⟨some 21, .base (.mv (.tmp 6)), none⟩,
  ⟨some 22, .base (.build [vL none 0 0, vI 0, .map none, vI 0, vI 0, vI 0] [(0, 1, .tmp 21)]), none⟩,
  ⟨some 23, .heap (.box 81 (.tmp 22) true), none⟩,
  ⟨some 7, .heap (.alloc 78 [.pointer none] true), none⟩,
  ⟨none, .heap (.store 1 (.tmp 7) (.tmp 23)), none⟩])
 (.seq (.ops [⟨some 24, .load false [.ptr] (.tmp 7), none⟩,
  ⟨some 25, .raw o14_5 79 (.one false [.map]), none⟩,
  ⟨some 26, .load false [.ptr] (.tmp 7), none⟩,
  ⟨some 27, .mkF 36 [.tmp 26] [] 82, none⟩,
  ⟨none, .raw o14_6 0 (.tup []), none⟩,
  ⟨some 28, .load false [.ptr] (.tmp 7), none⟩,
  ⟨some 29, .mkF 37 [.tmp 28] [] 82, none⟩,
  ⟨none, .raw o14_7 0 (.tup []), none⟩,
  ⟨some 30, .load false [.ptr] (.tmp 7), none⟩,
  ⟨some 31, .mkF 38 [.tmp 30] [] 82, none⟩,
  ⟨none, .raw o14_8 0 (.tup []), none⟩,
  ⟨some 32, .load false [.ptr] (.tmp 7), none⟩,
  ⟨some 33, .mkF 39 [.tmp 32] [] 82, none⟩,
  ⟨none, .raw o14_9 0 (.tup []), none⟩,
  ⟨some 34, .mkF 40 [] [.tmp 7] 82, none⟩,
  ⟨none, .raw o14_10 0 (.tup []), none⟩,
  ⟨some 35, .mkF 42 [] [.tmp 7] 82, none⟩,
  ⟨none, .raw o14_11 0 (.tup []), none⟩,
  ⟨some 36, .base (.mv (.tmp 25)), none⟩,
  ⟨some 37, .base (.nilCheck (.tmp 24)), none⟩,
  ⟨some 38, .base (.fieldAddr 2 (.tmp 37)), none⟩,
  ⟨none, .heap (.store 1 (.tmp 38) (.tmp 36)), none⟩])
 (.seq (.block 0 (.loop [39, 40, 41, 42, 43, 44, 45, 46, 47, 48, 52, 53, 51, 54, 55, 56, 57, 58, 59, 60, 62, 63, 61, 64, 65, 66, 67, 68, 69, 70, 49, 50] [] [(2, [.slice, .slice])] (.seq (.seq (.ops [⟨some 39, .load false [.ptr] (.tmp 7), none⟩,
      ⟨some 40, .base (.nilCheck (.tmp 39)), none⟩,
      ⟨some 41, .base (.fieldAddr 5 (.tmp 40)), none⟩,
      ⟨some 42, .load false [.int .i64] (.tmp 41), none⟩,
      ⟨some 43, .base (.pure o14_12 4), none⟩,
      ⟨some 44, .base (.mv (.tmp 43)), none⟩,
      ⟨some 45, .load false [.ptr] (.tmp 7), some (44, true)⟩,
      ⟨some 46, .call (.func 43) [.tmp 45, .const (vI 0)] (.one false [.bool]), some (44, true)⟩,
      ⟨some 47, .base (.pure o14_13 4), some (44, true)⟩,
      ⟨some 48, .base (.pick (.tmp 44) (.tmp 47) (.const (vB false))), none⟩])
     (.cond (.tmp 48) (.skip)
     (.exit 0)))
     (.block 1 (.block 2 (.seq (.ops [⟨some 52, .load false [.ptr] (.tmp 7), none⟩,
          ⟨some 53, .call (.func 44) [.tmp 52, .const (vS [118, 97, 114])] (.one false [.bool]), none⟩,
          ⟨some 51, .base (.mv (.tmp 53)), none⟩])
         (.cond (.tmp 51) (.draw [(⟨some 54, .base (.fieldAddr 0 (.tmp 2)), none⟩, []),
            (⟨some 55, .load false [.slice] (.tmp 54), none⟩, [0]),
            (⟨some 56, .load false [.ptr] (.tmp 7), none⟩, []),
            (⟨some 57, .call (.func 45) [.tmp 56] (.one true [.str, .int .i64, .int .i64, .int .i64, .int .i64]), none⟩, [2]),
            (⟨some 58, .heap (.buildSlice 86 1 [vS [], vI 0, vI 0, vI 0, vI 0] [(0, 5, .tmp 57)]), none⟩, [3]),
            (⟨some 59, .raw o14_14 23 (.one false [.slice]), none⟩, [1, 4, 3]),
            (⟨some 60, .base (.fieldAddr 0 (.tmp 2)), none⟩, [0, 1, 2, 3, 4, 5]),
            (⟨none, .base (.store 1 (.tmp 60) (.tmp 59)), none⟩, [6, 5, 5, 0, 1, 2, 3, 4, 5])])
         (.seq (.ops [⟨some 62, .load false [.ptr] (.tmp 7), none⟩,
            ⟨some 63, .call (.func 44) [.tmp 62, .const (vS [102, 117, 110, 99])] (.one false [.bool]), none⟩,
            ⟨some 61, .base (.mv (.tmp 63)), none⟩])
           (.cond (.tmp 61) (.draw [(⟨some 64, .base (.fieldAddr 1 (.tmp 2)), none⟩, []),
              (⟨some 65, .load false [.slice] (.tmp 64), none⟩, [0]),
              (⟨some 66, .load false [.ptr] (.tmp 7), none⟩, []),
              (⟨some 67, .call (.func 46) [.tmp 66] (.one true [.str, .slice, .slice, .int .i64, .int .i64]), none⟩, [2]),
              (⟨some 68, .heap (.buildSlice 54 1 [vS [], vL none 0 0, vL none 0 0, vI 0, vI 0] [(0, 5, .tmp 67)]), none⟩, [3]),
              (⟨some 69, .raw o14_15 24 (.one false [.slice]), none⟩, [1, 4, 3]),
              (⟨some 70, .base (.fieldAddr 1 (.tmp 2)), none⟩, [0, 1, 2, 3, 4, 5]),
              (⟨none, .base (.store 1 (.tmp 70) (.tmp 69)), none⟩, [6, 5, 5, 0, 1, 2, 3, 4, 5])])
           (.ops [⟨some 49, .load false [.ptr] (.tmp 7), none⟩,
              ⟨some 50, .call (.func 47) [.tmp 49, .const (vI 30)] (.tup []), none⟩]))))))))))
 (.seq (.seq (.ops [⟨some 71, .load false [.ptr] (.tmp 7), none⟩,
  ⟨some 72, .base (.nilCheck (.tmp 71)), none⟩,
  ⟨some 73, .base (.fieldAddr 5 (.tmp 72)), none⟩,
  ⟨some 74, .load false [.int .i64] (.tmp 73), none⟩,
  ⟨some 75, .base (.pure o14_16 4), none⟩])
 (.cond (.tmp 75) (.seq (.draw [(⟨some 76, .base (.build [vL none 0 0, vL none 0 0] []), none⟩, []),
    (⟨some 77, .load false [.ptr] (.tmp 7), none⟩, []),
    (⟨some 78, .base (.nilCheck (.tmp 77)), none⟩, [1]),
    (⟨some 79, .base (.fieldAddr 3 (.tmp 78)), none⟩, [2]),
    (⟨some 80, .load false [.int .i64] (.tmp 79), none⟩, [3]),
    (⟨some 81, .load false [.ptr] (.tmp 7), none⟩, []),
    (⟨some 82, .base (.nilCheck (.tmp 81)), none⟩, [5]),
    (⟨some 83, .base (.fieldAddr 4 (.tmp 82)), none⟩, [6]),
    (⟨some 84, .load false [.int .i64] (.tmp 83), none⟩, [7]),
    (⟨some 85, .load false [.ptr] (.tmp 7), none⟩, []),
    (⟨some 86, .base (.nilCheck (.tmp 85)), none⟩, [9]),
    (⟨some 87, .base (.fieldAddr 5 (.tmp 86)), none⟩, [10]),
    (⟨some 88, .load false [.int .i64] (.tmp 87), none⟩, [11]),
    (⟨none, .base (.store 2 (.tmp 2) (.tmp 76)), none⟩, [0, 0]),
    (⟨some 3, .base (.mv (.tmp 80)), none⟩, [4, 13, 0, 1, 2, 3, 4, 13]),
    (⟨some 4, .base (.mv (.tmp 84)), none⟩, [8, 14, 0, 1, 2, 3, 4, 5, 6, 7, 8, 13, 14]),
    (⟨some 5, .base (.mv (.tmp 88)), none⟩, [12, 15, 0, 1, 2, 3, 4, 5, 6, 7, 8, 9, 10, 11, 12, 13, 14, 15])])
   (.ret))
 (.skip)))
 (.seq (.ops [⟨some 89, .load true [.slice, .slice] (.tmp 2), none⟩,
  ⟨none, .base (.store 2 (.tmp 2) (.tmp 89)), none⟩,
  ⟨some 3, .base (.mv (.const (vI 0))), none⟩,
  ⟨some 4, .base (.mv (.const (vI 0))), none⟩,
  ⟨some 5, .base (.mv (.const (vI 0))), none⟩])
 (.ret))))))))
theorem low14 : low Tryz.prog (fun d => Nat.beq d 7 || Nat.beq d 23) (Tryz.f14.body.getD .skip) = some (eC d14) := by kernel_rfl
theorem res14 : lowRes Tryz.prog Tryz.f14.results.toList = some [.cell 2 true 2, .tmp 3, .tmp 4, .tmp 5] := by kernel_rfl
def R14 (app1 : List UInt8) (h : PHeap) (Q : Value → PHeap → Prop) : Prop :=
  Tri Tryz.prog 35 [vS app1] h fun v_1 h_1 =>
  ∃ (sa1 : Option Addr) (sn1 sc1 : Nat) (i1 i2 i3 : Int), v_1 = vT [vL sa1 sn1 sc1, vI i1, vI i2, vI i3] ∧
  br (i3 != 0)
  (Q (vT [vA [vL none 0 0, vL none 0 0], vI i1, vI i2, vI i3]) h_1)
  (∀ (b1 : Nat), h_1 b1 = none → ∀ (h_2 : PHeap), h_2 = h_1.put b1 (.cells ⟨[vL sa1 sn1 sc1, vI 0, .map none, vI 0, vI 0, vI 0]⟩ 81) →
    ∀ (b2 : Nat), h_2 b2 = none → ∀ (h_3 : PHeap), h_3 = h_2.put b2 (.cells ⟨[.pointer none]⟩ 78) →
    ∃ (l1 : List Value) (t1 : TypeId) (z1 : Nat × Nat), h_3 b2 = some (.cells ⟨l1⟩ t1 z1) ∧ (0 + 1 ≤ l1.length ∧ z1.2 ≤ 0) ∧
    ∀ (h_4 : PHeap), h_4 = h_3.put b2 (.cells ⟨splice l1 0 [vP b1 0]⟩ t1 z1) →
    ∃ (pb1 po1 : Nat), h_4.cell b2 0 = some (vP pb1 po1) ∧
    Raw Tryz.prog (execOp (rho []) (mkO o14_5 79)) h_4 fun v_2 h_5 =>
    ∃ (m1 : Nat), v_2 = vM m1 ∧
    ∃ (pb2 po2 : Nat), h_5.cell b2 0 = some (vP pb2 po2) ∧
    Raw Tryz.prog (execOp (rho [(25, vM m1), (27, vF 36 [vP pb2 po2] [])]) (mkO o14_6 0)) h_5 fun v_3 h_6 =>
    v_3 = vT [] ∧
    ∃ (pb3 po3 : Nat), h_6.cell b2 0 = some (vP pb3 po3) ∧
    Raw Tryz.prog (execOp (rho [(25, vM m1), (29, vF 37 [vP pb3 po3] [])]) (mkO o14_7 0)) h_6 fun v_4 h_7 =>
    v_4 = vT [] ∧
    ∃ (pb4 po4 : Nat), h_7.cell b2 0 = some (vP pb4 po4) ∧
    Raw Tryz.prog (execOp (rho [(25, vM m1), (31, vF 38 [vP pb4 po4] [])]) (mkO o14_8 0)) h_7 fun v_5 h_8 =>
    v_5 = vT [] ∧
    ∃ (pb5 po5 : Nat), h_8.cell b2 0 = some (vP pb5 po5) ∧
    Raw Tryz.prog (execOp (rho [(25, vM m1), (33, vF 39 [vP pb5 po5] [])]) (mkO o14_9 0)) h_8 fun v_6 h_9 =>
    v_6 = vT [] ∧
    Raw Tryz.prog (execOp (rho [(25, vM m1), (34, vF 40 [] [vP b2 0])]) (mkO o14_10 0)) h_9 fun v_7 h_10 =>
    v_7 = vT [] ∧
    Raw Tryz.prog (execOp (rho [(25, vM m1), (35, vF 42 [] [vP b2 0])]) (mkO o14_11 0)) h_10 fun v_8 h_11 =>
    v_8 = vT [] ∧
    ∃ (l2 : List Value) (t2 : TypeId) (z2 : Nat × Nat), h_11 pb1 = some (.cells ⟨l2⟩ t2 z2) ∧ ((po1 + 2) + 1 ≤ l2.length ∧ z2.2 ≤ (po1 + 2)) ∧
    ∀ (h_12 : PHeap), h_12 = h_11.put pb1 (.cells ⟨splice l2 (po1 + 2) [vM m1]⟩ t2 z2) →
    ∃ (I_1 : Nat → Option Addr → Nat → Nat → Option Addr → Nat → Nat → PHeap → Prop), (∃ (m3 : Nat), I_1 m3 none 0 0 none 0 0 h_12) ∧
    ∀ (m2 : Nat) (Globalsa1 : Option Addr) (Globalsn1 : Nat) (Globalsc1 : Nat) (Funcsa1 : Option Addr) (Funcsn1 : Nat) (Funcsc1 : Nat) (h_13 : PHeap), I_1 m2 Globalsa1 Globalsn1 Globalsc1 Funcsa1 Funcsn1 Funcsc1 h_13 →
    ∃ (pb6 po6 : Nat), h_13.cell b2 0 = some (vP pb6 po6) ∧
    ∃ (i4 : Int), h_13.cell pb6 (po6 + 5) = some (vI i4) ∧
    br (i4 == 0)
    (∃ (pb7 po7 : Nat), h_13.cell b2 0 = some (vP pb7 po7) ∧
      Tri Tryz.prog 43 [vP pb7 po7, vI 0] h_13 fun v_9 h_14 =>
      ∃ (c1 : Bool), v_9 = vB c1 ∧
      br (!c1)
      (∃ (pb8 po8 : Nat), h_14.cell b2 0 = some (vP pb8 po8) ∧
        Tri Tryz.prog 44 [vP pb8 po8, vS [118, 97, 114]] h_14 fun v_10 h_15 =>
        ∃ (c2 : Bool), v_10 = vB c2 ∧
        br c2
        (∃ (pb9 po9 : Nat), h_15.cell b2 0 = some (vP pb9 po9) ∧
          Tri Tryz.prog 45 [vP pb9 po9] h_15 fun v_11 h_16 =>
          ∃ (Name1 : List UInt8) (Size1 Value1 Line1 Column1 : Int), v_11 = vA [vS Name1, vI Size1, vI Value1, vI Line1, vI Column1] ∧
          (([vL Globalsa1 Globalsn1 Globalsc1] : List Value) = ([vL Globalsa1 Globalsn1 Globalsc1] : List Value)) ∧
          ∀ (b3 : Nat), h_16 b3 = none → ∀ (h_17 : PHeap), h_17 = h_16.put b3 (.cells ⟨[vS Name1, vI Size1, vI Value1, vI Line1, vI Column1]⟩ 86) →
          (([vL Globalsa1 Globalsn1 Globalsc1] : List Value) = ([vL Globalsa1 Globalsn1 Globalsc1] : List Value)) ∧
          Raw Tryz.prog (execOp (rho [(55, vL Globalsa1 Globalsn1 Globalsc1), (58, vL (ad b3 0) 1 1)]) (mkO o14_14 23)) h_17 fun v_12 h_18 =>
          ∃ (sa2 : Option Addr) (sn2 sc2 : Nat), v_12 = vL sa2 sn2 sc2 ∧
          ∃ (m4 : Nat), m4 < m2 ∧ I_1 m4 sa2 sn2 sc2 Funcsa1 Funcsn1 Funcsc1 h_18 ∧
          True)
        (∃ (pb10 po10 : Nat), h_15.cell b2 0 = some (vP pb10 po10) ∧
          Tri Tryz.prog 44 [vP pb10 po10, vS [102, 117, 110, 99]] h_15 fun v_13 h_19 =>
          ∃ (c3 : Bool), v_13 = vB c3 ∧
          br c3
          (∃ (pb11 po11 : Nat), h_19.cell b2 0 = some (vP pb11 po11) ∧
            Tri Tryz.prog 46 [vP pb11 po11] h_19 fun v_14 h_20 =>
            ∃ (Name2 : List UInt8) (Paramsa1 : Option Addr) (Paramsn1 Paramsc1 : Nat) (Bodya1 : Option Addr) (Bodyn1 Bodyc1 : Nat) (Line2 Column2 : Int), v_14 = vA [vS Name2, vL Paramsa1 Paramsn1 Paramsc1, vL Bodya1 Bodyn1 Bodyc1, vI Line2, vI Column2] ∧
            (([vL Funcsa1 Funcsn1 Funcsc1] : List Value) = ([vL Funcsa1 Funcsn1 Funcsc1] : List Value)) ∧
            ∀ (b4 : Nat), h_20 b4 = none → ∀ (h_21 : PHeap), h_21 = h_20.put b4 (.cells ⟨[vS Name2, vL Paramsa1 Paramsn1 Paramsc1, vL Bodya1 Bodyn1 Bodyc1, vI Line2, vI Column2]⟩ 54) →
            (([vL Funcsa1 Funcsn1 Funcsc1] : List Value) = ([vL Funcsa1 Funcsn1 Funcsc1] : List Value)) ∧
            Raw Tryz.prog (execOp (rho [(65, vL Funcsa1 Funcsn1 Funcsc1), (68, vL (ad b4 0) 1 1)]) (mkO o14_15 24)) h_21 fun v_15 h_22 =>
            ∃ (sa3 : Option Addr) (sn3 sc3 : Nat), v_15 = vL sa3 sn3 sc3 ∧
            ∃ (m5 : Nat), m5 < m2 ∧ I_1 m5 Globalsa1 Globalsn1 Globalsc1 sa3 sn3 sc3 h_22 ∧
            True)
          (∃ (pb12 po12 : Nat), h_19.cell b2 0 = some (vP pb12 po12) ∧
            Tri Tryz.prog 47 [vP pb12 po12, vI 30] h_19 fun v_16 h_23 =>
            v_16 = vT [] ∧
            ∃ (m6 : Nat), m6 < m2 ∧ I_1 m6 Globalsa1 Globalsn1 Globalsc1 Funcsa1 Funcsn1 Funcsc1 h_23 ∧
            True)))
      (∃ (pb13 po13 : Nat), h_14.cell b2 0 = some (vP pb13 po13) ∧
        ∃ (i5 : Int), h_14.cell pb13 (po13 + 5) = some (vI i5) ∧
        br (i5 != 0)
        (∃ (pb14 po14 : Nat), h_14.cell b2 0 = some (vP pb14 po14) ∧
          ∃ (i6 : Int), h_14.cell pb14 (po14 + 3) = some (vI i6) ∧
          ∃ (pb15 po15 : Nat), h_14.cell b2 0 = some (vP pb15 po15) ∧
          ∃ (i7 : Int), h_14.cell pb15 (po15 + 4) = some (vI i7) ∧
          ∃ (pb16 po16 : Nat), h_14.cell b2 0 = some (vP pb16 po16) ∧
          ∃ (i8 : Int), h_14.cell pb16 (po16 + 5) = some (vI i8) ∧
          (h_14.cell pb16 (po16 + 5) = some (vI i8)) ∧
          (h_14.cell b2 0 = some (vP pb16 po16)) ∧
          (h_14.cell pb15 (po15 + 4) = some (vI i7)) ∧
          (h_14.cell b2 0 = some (vP pb15 po15)) ∧
          (h_14.cell pb14 (po14 + 3) = some (vI i6)) ∧
          (h_14.cell b2 0 = some (vP pb14 po14)) ∧
          Q (vT [vA [vL none 0 0, vL none 0 0], vI i6, vI i7, vI i8]) h_14)
        (Q (vT [vA [vL Globalsa1 Globalsn1 Globalsc1, vL Funcsa1 Funcsn1 Funcsc1], vI 0, vI 0, vI 0]) h_14)))
    (∃ (pb17 po17 : Nat), h_13.cell b2 0 = some (vP pb17 po17) ∧
      ∃ (i9 : Int), h_13.cell pb17 (po17 + 5) = some (vI i9) ∧
      br (i9 != 0)
      (∃ (pb18 po18 : Nat), h_13.cell b2 0 = some (vP pb18 po18) ∧
        ∃ (i10 : Int), h_13.cell pb18 (po18 + 3) = some (vI i10) ∧
        ∃ (pb19 po19 : Nat), h_13.cell b2 0 = some (vP pb19 po19) ∧
        ∃ (i11 : Int), h_13.cell pb19 (po19 + 4) = some (vI i11) ∧
        ∃ (pb20 po20 : Nat), h_13.cell b2 0 = some (vP pb20 po20) ∧
        ∃ (i12 : Int), h_13.cell pb20 (po20 + 5) = some (vI i12) ∧
        (h_13.cell pb20 (po20 + 5) = some (vI i12)) ∧
        (h_13.cell b2 0 = some (vP pb20 po20)) ∧
        (h_13.cell pb19 (po19 + 4) = some (vI i11)) ∧
        (h_13.cell b2 0 = some (vP pb19 po19)) ∧
        (h_13.cell pb18 (po18 + 3) = some (vI i10)) ∧
        (h_13.cell b2 0 = some (vP pb18 po18)) ∧
        Q (vT [vA [vL none 0 0, vL none 0 0], vI i10, vI i11, vI i12]) h_13)
      (Q (vT [vA [vL Globalsa1 Globalsn1 Globalsc1, vL Funcsa1 Funcsn1 Funcsc1], vI 0, vI 0, vI 0]) h_13)))
theorem e14 (app1 : List UInt8) (h : PHeap) (Q : Value → PHeap → Prop) : dnF Tryz.prog Tryz.f14.ntmps d14 [.cell 2 true 2, .tmp 3, .tmp 4, .tmp 5] [vS app1] h Q = R14 app1 h Q := by kernel_rfl
theorem T14 {app1 : List UInt8} {h : PHeap} {Q : Value → PHeap → Prop} (hR : R14 app1 h Q) : Tri Tryz.prog 14 [vS app1] h Q :=
  tri_of_dn mixed Tryz.func14 rfl (by kernel_rfl) low14 res14 rfl (Eq.mpr (e14 app1 h Q) hR)
/- replevin/replevinlaw22.SyntaxNests -/
abbrev o6_0 : Op := .binOp Go.BinOp.rem 3 (Go.Operand.tmp 16) (Go.Operand.const (vI 40)) 3
abbrev o6_1 : Op := .binOp Go.BinOp.rem 5 (Go.Operand.tmp 19) (Go.Operand.const (vU 3)) 5
abbrev o6_2 : Op := .binOp Go.BinOp.rem 5 (Go.Operand.tmp 24) (Go.Operand.const (vU 3)) 5
abbrev o6_3 : Op := .binOp Go.BinOp.lss 3 (Go.Operand.tmp 28) (Go.Operand.tmp 29) 3
abbrev o6_4 : Op := .binOp Go.BinOp.add 3 (Go.Operand.tmp 31) (Go.Operand.const (vI 1)) 3
abbrev o6_5 : Op := .extract (Go.Operand.tmp 44) 0
abbrev o6_6 : Op := .extract (Go.Operand.tmp 44) 1
abbrev o6_7 : Op := .extract (Go.Operand.tmp 44) 2
abbrev o6_8 : Op := .extract (Go.Operand.tmp 44) 3
abbrev o6_9 : Op := .binOp Go.BinOp.lss 3 (Go.Operand.tmp 51) (Go.Operand.const (vI 32)) 3
abbrev o6_10 : Op := .binOp Go.BinOp.eql 27 (Go.Operand.tmp 55) (Go.Operand.const (vI 0)) 27
abbrev o6_11 : Op := .binOp Go.BinOp.eql 3 (Go.Operand.tmp 59) (Go.Operand.const (vI 0)) 3
abbrev o6_12 : Op := .binOp Go.BinOp.eql 3 (Go.Operand.tmp 63) (Go.Operand.const (vI 0)) 3
abbrev o6_13 : Op := .binOp Go.BinOp.eql 27 (Go.Operand.tmp 68) (Go.Operand.const (vI 9)) 27
abbrev o6_14 : Op := .binOp Go.BinOp.eql 3 (Go.Operand.tmp 72) (Go.Operand.const (vI 1)) 3
abbrev o6_15 : Op := .binOp Go.BinOp.mul 3 (Go.Operand.const (vI 32)) (Go.Operand.tmp 78) 3
abbrev o6_16 : Op := .binOp Go.BinOp.add 3 (Go.Operand.const (vI 18)) (Go.Operand.tmp 79) 3
abbrev o6_17 : Op := .binOp Go.BinOp.eql 3 (Go.Operand.tmp 76) (Go.Operand.tmp 80) 3
def d6 : DCode :=
  .seq (.ops [⟨some 4, .base (.mv (.const (vB false))), none⟩])
 (.seq (.ops [⟨some 15, .base (.mv (.tmp 0)), none⟩,
  ⟨some 16, .base (.conv .i64 (.tmp 15)), none⟩,
  ⟨some 17, .base (.pure o6_0 3), none⟩,
  ⟨some 5, .base (.mv (.tmp 17)), none⟩])
 (.seq (.draw [(⟨some 18, .heap (.buildSlice 9 3 [vS [], vS [], vS []] [(0, 1, .const (vS [40])), (1, 1, .const (vS [102, 40])), (2, 1, .const (vS [101, 91]))]), none⟩, []),
  (⟨some 19, .base (.mv (.tmp 1)), none⟩, []),
  (⟨some 20, .base (.pure o6_1 5), none⟩, [1]),
  (⟨some 21, .indexAddr 1 (.tmp 18) (.tmp 20), none⟩, [0, 2]),
  (⟨some 22, .load false [.str] (.tmp 21), none⟩, [3]),
  (⟨some 23, .heap (.buildSlice 9 3 [vS [], vS [], vS []] [(0, 1, .const (vS [41])), (1, 1, .const (vS [41])), (2, 1, .const (vS [93]))]), none⟩, []),
  (⟨some 24, .base (.mv (.tmp 1)), none⟩, []),
  (⟨some 25, .base (.pure o6_2 5), none⟩, [6]),
  (⟨some 26, .indexAddr 1 (.tmp 23) (.tmp 25), none⟩, [5, 7]),
  (⟨some 27, .load false [.str] (.tmp 26), none⟩, [8]),
  (⟨some 6, .base (.mv (.tmp 22)), none⟩, [4, 0, 1, 2, 3, 4]),
  (⟨some 7, .base (.mv (.tmp 27)), none⟩, [9, 10, 0, 1, 2, 3, 4, 5, 6, 7, 8, 9, 10])])
 (.seq (.ops [⟨some 8, .base (.mv (.const (vS [102, 117, 110, 99, 32, 109, 97, 105, 110, 40, 41, 32, 123, 32, 121, 32, 61, 32]))), none⟩,
  ⟨some 9, .base (.mv (.const (vS []))), none⟩])
 (.seq (.seq (.ops [⟨some 10, .base (.mv (.const (vI 0))), none⟩])
 (.block 0 (.loop [28, 29, 30, 33, 34, 35, 36, 37, 38, 8, 9, 31, 32, 10] [(8, .str), (9, .str), (10, .int .i64)] [] (.seq (.seq (.ops [⟨some 28, .base (.mv (.tmp 10)), none⟩,
      ⟨some 29, .base (.mv (.tmp 5)), none⟩,
      ⟨some 30, .base (.pure o6_3 4), none⟩])
     (.cond (.tmp 30) (.skip)
     (.exit 0)))
     (.seq (.block 1 (.ops [⟨some 33, .base (.mv (.tmp 8)), none⟩,
        ⟨some 34, .base (.mv (.tmp 6)), none⟩,
        ⟨some 35, .base (.addS (.tmp 33) (.tmp 34)), none⟩,
        ⟨some 36, .base (.mv (.tmp 9)), none⟩,
        ⟨some 37, .base (.mv (.tmp 7)), none⟩,
        ⟨some 38, .base (.addS (.tmp 36) (.tmp 37)), none⟩,
        ⟨some 8, .base (.mv (.tmp 35)), none⟩,
        ⟨some 9, .base (.mv (.tmp 38)), none⟩]))
     (.ops [⟨some 31, .base (.mv (.tmp 10)), none⟩,
      ⟨some 32, .base (.pure o6_4 3), none⟩,
      ⟨some 10, .base (.mv (.tmp 32)), none⟩]))))))
 (.seq (.ops [⟨some 39, .base (.mv (.tmp 8)), none⟩,
  ⟨some 40, .base (.addS (.tmp 39) (.const (vS [49]))), none⟩,
  ⟨some 41, .base (.mv (.tmp 9)), none⟩,
  ⟨some 42, .base (.addS (.tmp 40) (.tmp 41)), none⟩,
  ⟨some 43, .base (.addS (.tmp 42) (.const (vS [59, 32, 125]))), none⟩,
  ⟨some 8, .base (.mv (.tmp 43)), none⟩])
 (.seq (.ops [⟨some 45, .base (.mv (.tmp 8)), none⟩,
  ⟨some 46, .call (.func 14) [.tmp 45] (.tup [(true, [.slice, .slice]), (false, [.int .i64]), (false, [.int .i64]), (false, [.int .i64])]), none⟩,
  ⟨some 44, .base (.mv (.tmp 46)), none⟩,
  ⟨some 47, .base (.pure o6_5 26), none⟩,
  ⟨some 48, .base (.pure o6_6 3), none⟩,
  ⟨some 49, .base (.pure o6_7 3), none⟩,
  ⟨some 50, .base (.pure o6_8 27), none⟩,
  ⟨some 11, .base (.alloc 26 [vL none 0 0, vL none 0 0] false), none⟩,
  ⟨none, .base (.store 2 (.tmp 11) (.tmp 47)), none⟩,
  ⟨some 12, .base (.mv (.tmp 48)), none⟩,
  ⟨some 13, .base (.mv (.tmp 49)), none⟩,
  ⟨some 14, .base (.mv (.tmp 50)), none⟩])
 (.seq (.seq (.ops [⟨some 51, .base (.mv (.tmp 5)), none⟩,
  ⟨some 52, .base (.pure o6_9 4), none⟩])
 (.cond (.tmp 52) (.seq (.ops [⟨some 53, .call (.func 16) [] (.one false [.bool]), none⟩,
    ⟨some 54, .base (.mv (.tmp 53)), none⟩,
    ⟨some 55, .base (.mv (.tmp 14)), some (54, true)⟩,
    ⟨some 56, .base (.pure o6_10 4), some (54, true)⟩,
    ⟨some 57, .base (.pick (.tmp 54) (.tmp 56) (.const (vB false))), none⟩,
    ⟨some 58, .base (.mv (.tmp 57)), none⟩,
    ⟨some 59, .base (.mv (.tmp 12)), some (58, true)⟩,
    ⟨some 60, .base (.pure o6_11 4), some (58, true)⟩,
    ⟨some 61, .base (.pick (.tmp 58) (.tmp 60) (.const (vB false))), none⟩,
    ⟨some 62, .base (.mv (.tmp 61)), none⟩,
    ⟨some 63, .base (.mv (.tmp 13)), some (62, true)⟩,
    ⟨some 64, .base (.pure o6_12 4), some (62, true)⟩,
    ⟨some 65, .base (.pick (.tmp 62) (.tmp 64) (.const (vB false))), none⟩,
    ⟨some 4, .base (.mv (.tmp 65)), none⟩])
   (.ret))
 (.skip)))
 (.seq (.ops [⟨some 66, .call (.func 16) [] (.one false [.bool]), none⟩,
  ⟨some 67, .base (.mv (.tmp 66)), none⟩,
  ⟨some 68, .base (.mv (.tmp 14)), some (67, true)⟩,
  ⟨some 69, .base (.pure o6_13 4), some (67, true)⟩,
  ⟨some 70, .base (.pick (.tmp 67) (.tmp 69) (.const (vB false))), none⟩,
  ⟨some 71, .base (.mv (.tmp 70)), none⟩,
  ⟨some 72, .base (.mv (.tmp 12)), some (71, true)⟩,
  ⟨some 73, .base (.pure o6_14 4), some (71, true)⟩,
  ⟨some 74, .base (.pick (.tmp 71) (.tmp 73) (.const (vB false))), none⟩,
  ⟨some 75, .base (.mv (.tmp 74)), none⟩,
  ⟨some 76, .base (.mv (.tmp 13)), some (75, true)⟩,
  ⟨some 77, .base (.mv (.tmp 6)), some (75, true)⟩,
  ⟨some 78, .base (.len true (.tmp 77)), some (75, true)⟩,
  ⟨some 79, .base (.pure o6_15 3), some (75, true)⟩,
  ⟨some 80, .base (.pure o6_16 3), some (75, true)⟩,
  ⟨some 81, .base (.pure o6_17 4), some (75, true)⟩,
  ⟨some 82, .base (.pick (.tmp 75) (.tmp 81) (.const (vB false))), none⟩,
  ⟨some 4, .base (.mv (.tmp 82)), none⟩])
 (.ret)))))))))
theorem low6 : low Tryz.prog (fun _ => false) (Tryz.f6.body.getD .skip) = some (eC d6) := by kernel_rfl
theorem res6 : lowRes Tryz.prog Tryz.f6.results.toList = some [.tmp 4] := by kernel_rfl
def R6 (app1 : Int) (CodetoArray1 : Int) (h : PHeap) (Q : Value → PHeap → Prop) : Prop :=
  (∀ (b1 : Nat), h b1 = none → ∀ (h_1 : PHeap), h_1 = h.put b1 (.cells ⟨[vS [40], vS [102, 40], vS [101, 91]]⟩ 9) →
    ∃ (b2 o1 : Nat), (ad b1 0) = some ⟨b2, o1, none⟩ ∧ (0 ≤ (Int.tmod CodetoArray1 3) ∧ (Int.tmod CodetoArray1 3) < (3 : Nat)) ∧
    ∃ (l1 : List UInt8), h_1.cell b2 (o1 + (Int.tmod CodetoArray1 3).toNat * 1) = some (vS l1) ∧
    ∀ (b3 : Nat), h_1 b3 = none → ∀ (h_2 : PHeap), h_2 = h_1.put b3 (.cells ⟨[vS [41], vS [41], vS [93]]⟩ 9) →
    (h_2.cell b2 (o1 + (Int.tmod CodetoArray1 3).toNat * 1) = some (vS l1)) ∧
    ∃ (b4 o2 : Nat), (ad b3 0) = some ⟨b4, o2, none⟩ ∧ (0 ≤ (Int.tmod CodetoArray1 3) ∧ (Int.tmod CodetoArray1 3) < (3 : Nat)) ∧
    ∃ (l2 : List UInt8), h_2.cell b4 (o2 + (Int.tmod CodetoArray1 3).toNat * 1) = some (vS l2) ∧
    ∃ (I_1 : Nat → List UInt8 → List UInt8 → Int → PHeap → Prop), (∃ (m2 : Nat), I_1 m2 [102, 117, 110, 99, 32, 109, 97, 105, 110, 40, 41, 32, 123, 32, 121, 32, 61, 32] [] (0 : Int) h_2) ∧
    ∀ (m1 : Nat) (l3 : List UInt8) (l4 : List UInt8) (i1 : Int) (h_3 : PHeap), I_1 m1 l3 l4 i1 h_3 →
    br (decide (i1 < (Int.tmod (IntKind.i64.wrap (app1)) 40)))
    (l3.length + l1.length ≤ 9223372036854775807 ∧
      l4.length + l2.length ≤ 9223372036854775807 ∧
      ∃ (m3 : Nat), m3 < m1 ∧ I_1 m3 (l3 ++ l1) (l4 ++ l2) (IntKind.i64.wrap (i1 + 1)) h_3 ∧
      True)
    (l3.length + ([49] : List UInt8).length ≤ 9223372036854775807 ∧
      (l3 ++ ([49] : List UInt8)).length + l4.length ≤ 9223372036854775807 ∧
      ((l3 ++ ([49] : List UInt8)) ++ l4).length + ([59, 32, 125] : List UInt8).length ≤ 9223372036854775807 ∧
      Tri Tryz.prog 14 [vS (((l3 ++ ([49] : List UInt8)) ++ l4) ++ ([59, 32, 125] : List UInt8))] h_3 fun v_1 h_4 =>
      ∃ (Globalsa1 : Option Addr) (Globalsn1 Globalsc1 : Nat) (Funcsa1 : Option Addr) (Funcsn1 Funcsc1 : Nat) (i2 i3 i4 : Int), v_1 = vT [vA [vL Globalsa1 Globalsn1 Globalsc1, vL Funcsa1 Funcsn1 Funcsc1], vI i2, vI i3, vI i4] ∧
      br (decide ((Int.tmod (IntKind.i64.wrap (app1)) 40) < 32))
      (Tri Tryz.prog 16 [] h_4 fun v_2 h_5 =>
        ∃ (c1 : Bool), v_2 = vB c1 ∧
        br c1
        (br (i4 == 0)
          (br (i2 == 0)
            (Q (vB (i3 == 0)) h_5)
            (Q (vB false) h_5))
          (Q (vB false) h_5))
        (Q (vB false) h_5))
      (Tri Tryz.prog 16 [] h_4 fun v_3 h_6 =>
        ∃ (c2 : Bool), v_3 = vB c2 ∧
        br c2
        (br (i4 == 9)
          (br (i2 == 1)
            (Q (vB (i3 == (IntKind.i64.wrap (18 + (IntKind.i64.wrap (32 * (l1.length : Int))))))) h_6)
            (Q (vB false) h_6))
          (Q (vB false) h_6))
        (Q (vB false) h_6)))) ∧
  (∀ (b5 : Nat), h b5 = none → ∀ (h_7 : PHeap), h_7 = h.put b5 (.cells ⟨[vS [41], vS [41], vS [93]]⟩ 9) →
    ∃ (b6 o3 : Nat), (ad b5 0) = some ⟨b6, o3, none⟩ ∧ (0 ≤ (Int.tmod CodetoArray1 3) ∧ (Int.tmod CodetoArray1 3) < (3 : Nat)) ∧
    ∃ (l5 : List UInt8), h_7.cell b6 (o3 + (Int.tmod CodetoArray1 3).toNat * 1) = some (vS l5) ∧
    ∀ (b7 : Nat), h_7 b7 = none → ∀ (h_8 : PHeap), h_8 = h_7.put b7 (.cells ⟨[vS [40], vS [102, 40], vS [101, 91]]⟩ 9) →
    (h_8.cell b6 (o3 + (Int.tmod CodetoArray1 3).toNat * 1) = some (vS l5)) ∧
    ∃ (b8 o4 : Nat), (ad b7 0) = some ⟨b8, o4, none⟩ ∧ (0 ≤ (Int.tmod CodetoArray1 3) ∧ (Int.tmod CodetoArray1 3) < (3 : Nat)) ∧
    ∃ (l6 : List UInt8), h_8.cell b8 (o4 + (Int.tmod CodetoArray1 3).toNat * 1) = some (vS l6) ∧
    ∃ (I_2 : Nat → List UInt8 → List UInt8 → Int → PHeap → Prop), (∃ (m5 : Nat), I_2 m5 [102, 117, 110, 99, 32, 109, 97, 105, 110, 40, 41, 32, 123, 32, 121, 32, 61, 32] [] (0 : Int) h_8) ∧
    ∀ (m4 : Nat) (l7 : List UInt8) (l8 : List UInt8) (i5 : Int) (h_9 : PHeap), I_2 m4 l7 l8 i5 h_9 →
    br (decide (i5 < (Int.tmod (IntKind.i64.wrap (app1)) 40)))
    (l7.length + l6.length ≤ 9223372036854775807 ∧
      l8.length + l5.length ≤ 9223372036854775807 ∧
      ∃ (m6 : Nat), m6 < m4 ∧ I_2 m6 (l7 ++ l6) (l8 ++ l5) (IntKind.i64.wrap (i5 + 1)) h_9 ∧
      True)
    (l7.length + ([49] : List UInt8).length ≤ 9223372036854775807 ∧
      (l7 ++ ([49] : List UInt8)).length + l8.length ≤ 9223372036854775807 ∧
      ((l7 ++ ([49] : List UInt8)) ++ l8).length + ([59, 32, 125] : List UInt8).length ≤ 9223372036854775807 ∧
      Tri Tryz.prog 14 [vS (((l7 ++ ([49] : List UInt8)) ++ l8) ++ ([59, 32, 125] : List UInt8))] h_9 fun v_4 h_10 =>
      ∃ (Globalsa2 : Option Addr) (Globalsn2 Globalsc2 : Nat) (Funcsa2 : Option Addr) (Funcsn2 Funcsc2 : Nat) (i6 i7 i8 : Int), v_4 = vT [vA [vL Globalsa2 Globalsn2 Globalsc2, vL Funcsa2 Funcsn2 Funcsc2], vI i6, vI i7, vI i8] ∧
      br (decide ((Int.tmod (IntKind.i64.wrap (app1)) 40) < 32))
      (Tri Tryz.prog 16 [] h_10 fun v_5 h_11 =>
        ∃ (c3 : Bool), v_5 = vB c3 ∧
        br c3
        (br (i8 == 0)
          (br (i6 == 0)
            (Q (vB (i7 == 0)) h_11)
            (Q (vB false) h_11))
          (Q (vB false) h_11))
        (Q (vB false) h_11))
      (Tri Tryz.prog 16 [] h_10 fun v_6 h_12 =>
        ∃ (c4 : Bool), v_6 = vB c4 ∧
        br c4
        (br (i8 == 9)
          (br (i6 == 1)
            (Q (vB (i7 == (IntKind.i64.wrap (18 + (IntKind.i64.wrap (32 * (l6.length : Int))))))) h_12)
            (Q (vB false) h_12))
          (Q (vB false) h_12))
        (Q (vB false) h_12))))
theorem e6 (app1 : Int) (CodetoArray1 : Int) (h : PHeap) (Q : Value → PHeap → Prop) : dnF Tryz.prog Tryz.f6.ntmps d6 [.tmp 4] [vU app1, vU CodetoArray1] h Q = R6 app1 CodetoArray1 h Q := by kernel_rfl
theorem T6 {app1 : Int} {CodetoArray1 : Int} {h : PHeap} {Q : Value → PHeap → Prop} (hR : R6 app1 CodetoArray1 h Q) : Tri Tryz.prog 6 [vU app1, vU CodetoArray1] h Q :=
  tri_of_dn mixed Tryz.func6 rfl (by kernel_rfl) low6 res6 rfl (Eq.mpr (e6 app1 CodetoArray1 h Q) hR)
end Go.Proofs.D
/- The lexer's scanner: skip and Scan. -/
namespace Go.Proofs.D
open Go Go.Den Go.Sx
set_option maxRecDepth 100000
attribute [local irreducible] IntKind.wrap Tri marks words oneS

/-- The scanner's block at an offset. -/
def SB (s : Bytes) (n : Nat) : Obj := .cells ⟨[vS s, vI n, vI (place s n).1, vI ((n : Int) + 1 - (place s n).2)]⟩ 160 (0, 0)
theorem SB_mk {s : Bytes} {n : Nat} {a b c : Int} (ha : a = n) (hb : b = (place s n).1) (hc : c = (n : Int) + 1 - (place s n).2) : Obj.cells ⟨[vS s, vI a, vI b, vI c]⟩ 160 (0, 0) = SB s n := by
  subst ha; subst hb; subst hc; rfl
theorem place_zero (s : Bytes) : place s 0 = (1, 1) := by rw [place_eq]; simp
theorem put_id {h : PHeap} {p : Nat} {o : Obj} (hp : h p = some o) : h.put p o = h := by
  funext k; simp only [PHeap.put]; split
  · rename_i e; subst e; exact hp.symm
  · rfl
theorem dropE (s : Bytes) (n : Nat) : ((s.drop ((n : Int)).toNat).take ((s.length : Int).toNat - ((n : Int)).toNat)) = s.drop n := by
  simp only [Int.toNat_natCast]
  rw [List.take_of_length_le]
  rw [List.length_drop]; omega
theorem u8_eq {c d : UInt8} (h : ((c.toNat : Int) == (d.toNat : Int)) = true) : c = d := by
  have : c.toNat = d.toNat := by
    have : (c.toNat : Int) = d.toNat := by simpa using h
    omega
  exact UInt8.toNat_inj.1 this
theorem u8_ne {c d : UInt8} (h : ((c.toNat : Int) == (d.toNat : Int)) = false) : c ≠ d := by
  rintro rfl; simp at h
theorem drop_head {s : Bytes} {n : Nat} {c : UInt8} {r : Bytes} (h : s.drop n = c :: r) : s[n]? = some c := by
  have : (s.drop n)[0]? = some c := by rw [h]; rfl
  rw [List.getElem?_drop] at this; simpa using this
theorem drop_tail {s : Bytes} {n : Nat} {c : UInt8} {r : Bytes} (h : s.drop n = c :: r) : s.drop (n + 1) = r := by
  rw [← List.drop_drop, h]; rfl

theorem skip_tri {s : Bytes} {n p : Nat} {h : PHeap} (hn : n ≤ s.length) (hl : s.length ≤ 1000000) (hp : h p = some (SB s n)) :
    Tri Tryz.prog 86 [vP p 0] h fun v h' => v = vT [] ∧ h' = h.put p (SB s (n + skipN false (s.drop n))) := by
  refine T86 ?_
  unfold R86
  refine ⟨fun m h1 => ∃ n' : Nat, n' ≤ s.length ∧ n' + m = s.length ∧ h1 = h.put p (SB s n') ∧ n' + skipN false (s.drop n') = n + skipN false (s.drop n), ⟨s.length - n, n, hn, by omega, (put_id hp).symm, rfl⟩, ?_⟩
  rintro m _ ⟨n', hn', hm, rfl, hs⟩
  have hb : (h.put p (SB s n')) p = some (SB s n') := put_same _ _ _
  have hcell : ∀ o, (h.put p (SB s n')).cell p o = [vS s, vI n', vI (place s n').1, vI ((n' : Int) + 1 - (place s n').2)][o]? := fun o => cell_of hb o
  have hpb := place_bound s n'
  refine ⟨_, hcell 1, _, hcell 0, br_split (fun e => ?_) (fun e => ?_)⟩
  · have hlt : n' < s.length := by
      have : (n' : Int) < s.length := by simpa using e
      omega
    obtain ⟨c, r, hd⟩ : ∃ c r, s.drop n' = c :: r := by
      cases hd : s.drop n' with
      | nil => have := congrArg List.length hd; simp at this; omega
      | cons c r => exact ⟨c, r, rfl⟩
    have hg := drop_head hd
    refine ⟨_, hcell 0, _, hcell 1, ⟨by omega, by omega, Int.le_refl _⟩, ?_⟩
    rw [dropE, hd]
    refine ⟨Int.le_refl _, c, rfl, br_split (fun e1 => ?_) (fun e1 => ?_)⟩
    · have hc : c = 10 := u8_eq e1
      subst hc
      refine ⟨_, hcell 1, _, _, _, hb, ⟨by simp, Nat.zero_le _⟩, ?_⟩
      rintro h2 rfl
      refine ⟨_, cell_of (put_same _ _ _) 2, _, _, _, put_same _ _ _, ⟨by simp [splice], Nat.zero_le _⟩, ?_⟩
      rintro h3 rfl
      refine ⟨_, cell_of (put_same _ _ _) 1, _, _, _, put_same _ _ _, ⟨by simp [splice], Nat.zero_le _⟩, ?_⟩
      rintro h4 rfl
      have hpl : place s (n' + 1) = ((place s n').1 + 1, 1) := place_succ hg
      refine ⟨m - 1, by omega, ⟨n' + 1, by omega, by omega, ?_, ?_⟩, trivial⟩
      · rw [put_put, put_put, put_put]
        rw [wrap64 (by omega) (by omega), wrap64 (by omega) (by omega)]
        refine congrArg (h.put p) (SB_mk ?_ ?_ ?_)
        · omega
        · rw [hpl]; rfl
        · rw [hpl]; simp only; omega
      · rw [drop_tail hd, ← hs, hd, skipN_nl]; omega
    have blank : ∀ {h2 : PHeap}, h2 = (h.put p (SB s n')).put p (.cells ⟨splice [vS s, vI n', vI (place s n').1, vI ((n' : Int) + 1 - (place s n').2)] 1 [vI (IntKind.i64.wrap ((n' : Int) + 1))]⟩ 160 (0, 0)) → (c = 32 ∨ c = 9) →
        ∃ m3, m3 < m ∧ (∃ n' : Nat, n' ≤ s.length ∧ n' + m3 = s.length ∧ h2 = h.put p (SB s n') ∧ n' + skipN false (s.drop n') = n + skipN false (s.drop n)) ∧ True := by
      rintro h2 rfl hc
      have h10 : (c == 10) = false := by rcases hc with rfl | rfl <;> rfl
      have hpl : place s (n' + 1) = ((place s n').1, (place s n').2 + 1) := by rw [place_succ hg, placeStep, h10]; rfl
      refine ⟨m - 1, by omega, ⟨n' + 1, by omega, by omega, ?_, ?_⟩, trivial⟩
      · rw [put_put]
        rw [wrap64 (by omega) (by omega)]
        refine congrArg (h.put p) (SB_mk ?_ ?_ ?_)
        · omega
        · rw [hpl]
        · rw [hpl]; simp only; omega
      · rw [drop_tail hd, ← hs, hd, skipN_sp _ hc]; omega
    refine ⟨Int.le_refl _, c, rfl, br_split (fun e2 => ?_) (fun e2 => ?_)⟩
    · refine ⟨_, hcell 1, _, _, _, hb, ⟨by simp, Nat.zero_le _⟩, ?_⟩
      intro h2 hh2
      exact blank hh2 (.inl (u8_eq e2))
    refine ⟨Int.le_refl _, c, rfl, br_split (fun e3 => ?_) (fun e3 => ?_)⟩
    · refine ⟨_, hcell 1, _, _, _, hb, ⟨by simp, Nat.zero_le _⟩, ?_⟩
      intro h2 hh2
      exact blank hh2 (.inr (u8_eq e3))
    refine Tri.mono (L.stringsHasPrefix_tri (c :: r) [47, 47] _) ?_
    rintro _ h1 ⟨rfl, rfl⟩
    refine ⟨_, rfl, br_split (fun e4 => ?_) (fun e4 => ?_)⟩
    · refine ⟨_, hcell 1, ?_⟩
      have hrl : (c :: r).length + n' = s.length := by rw [← hd, List.length_drop]; omega
      refine Tri.mono (L.leading_tri (c :: r) 133 (fun c => !(c == 10)) L.notNl_tri _ (by omega)) ?_
      rintro _ h1 ⟨rfl, rfl⟩
      refine ⟨_, rfl, hcell 1, _, _, _, hb, ⟨by simp, Nat.zero_le _⟩, ?_⟩
      rintro h2 rfl
      obtain ⟨r', hr'⟩ : ∃ r', c :: r = 47 :: 47 :: r' := by
        match r, e4 with
        | [], e4 => simp [List.isPrefixOf] at e4
        | d :: r', e4 =>
          simp [List.isPrefixOf] at e4
          exact ⟨r', by rw [← e4.1, ← e4.2]⟩
      have hk2 : 2 ≤ lead (fun c => !(c == 10)) (c :: r) := by
        rw [hr']
        show 2 ≤ lead (fun c => !(c == 10)) r' + 1 + 1
        omega
      have hkl := L.lead_le (fun c => !(c == 10)) (c :: r)
      generalize hk : lead (fun c => !(c == 10)) (c :: r) = k at *
      have hpl : place s (n' + k) = ((place s n').1, (place s n').2 + k) := place_add k (fun d hdm => by
        have := lead_mem (fun c => !(c == 10)) (c :: r) d (by rw [hk, ← hd]; exact hdm)
        simpa using this) (by omega)
      refine ⟨m - k, by omega, ⟨n' + k, by omega, by omega, ?_, ?_⟩, trivial⟩
      · rw [put_put]
        rw [wrap64 (by omega) (by omega)]
        refine congrArg (h.put p) (SB_mk ?_ ?_ ?_)
        · omega
        · rw [hpl]
        · rw [hpl]; simp only; omega
      · rw [← hs, ← List.drop_drop, hd, hr', skipN_com]
        rw [hr'] at hk
        rw [hk]; omega
    · have h0 : skipN false (c :: r) = 0 := skipN_no (u8_ne e1) (u8_ne e2) (u8_ne e3) e4
      refine ⟨rfl, ?_⟩
      rw [← hs, hd, h0]; rfl
  · have hlt : n' = s.length := by
      have : ¬ (n' : Int) < s.length := by simpa using e
      omega
    refine ⟨rfl, ?_⟩
    rw [← hs, List.drop_eq_nil_of_le (by omega)]; rfl

/-! ### Scan -/
theorem TokRow_of {s : Bytes} {h : PHeap} {b : Nat} {t : TypeId} {z : Nat × Nat} : ∀ (ts : List Tok) (pre rest : List Value), h b = some (.cells ⟨pre ++ (ts.map (tokC s)).flatten ++ rest⟩ t z) → TokRow s h b pre.length ts
  | [], _, _, _ => trivial
  | x :: ts, pre, rest, hb => by
    refine ⟨row_lit hb fun j v hj => ?_, ?_⟩
    · have hj6 : j < (tokC s x).length := (List.getElem?_eq_some_iff.1 hj).1
      simp only [List.map_cons, List.flatten_cons, List.append_assoc]
      rw [List.getElem?_append_right (by omega), show pre.length + j - pre.length = j by omega, List.getElem?_append_left hj6]
      exact hj
    · have := TokRow_of (s := s) (h := h) (b := b) (t := t) (z := z) ts (pre ++ tokC s x) rest (by rw [hb]; simp only [List.map_cons, List.flatten_cons, List.append_assoc])
      rw [List.length_append] at this
      exact this

def preS (done : List Tok) : Except (Nat × Nat) (List Tok) → Except (Nat × Nat) (List Tok)
  | .error e => .error e
  | .ok ts => .ok (done ++ ts)
theorem preS_nil (r : Except (Nat × Nat) (List Tok)) : preS [] r = r := by cases r <;> rfl
theorem preS_cons (done : List Tok) (t : Tok) (r : Except (Nat × Nat) (List Tok)) : preS done (match r with | .error e => .error e | .ok ts => .ok (t :: ts)) = preS (done ++ [t]) r := by
  cases r with
  | error e => rfl
  | ok ts => simp [preS]

/-- What Scan answers. -/
def ScanP (s : Bytes) (h : PHeap) (v : Value) (h' : PHeap) : Prop :=
  Ext h h' ∧ match scanS s with
    | .error e => v = vT [vL none 0 0, vI (place s e.2).1, vI (place s e.2).2, vI e.1]
    | .ok ts => ∃ b c, v = vT [vL (ad b 0) ts.length c, vI 0, vI 0, vI 0] ∧ h b = none ∧ h' b ≠ none ∧ TokRow s h' b 0 ts ∧ ts.length ≤ c

theorem elem162 : ElemT 162 6 := ⟨_, _, rfl, rfl, rfl, rfl, by decide⟩
theorem und75 : Tryz.prog.underlying 75 = some (.slice 162) := rfl

theorem scan_tri (s : Bytes) (h : PHeap) (ht : L.EscTab h) : Tri Tryz.prog 35 [vS s] h (ScanP s h) := by
  refine T35 ?_
  unfold R35
  refine br_split (fun e => ?_) (fun e => ?_)
  · have hl : 16384 < s.length := by
      have : (s.length : Int) > 16384 := by simpa using e
      omega
    refine ⟨Ext.refl _, ?_⟩
    simp only [scanS, if_pos hl, place_zero]; rfl
  have hl : s.length ≤ 16384 := by
    have : ¬ (s.length : Int) > 16384 := by simpa using e
    omega
  have hsc : scanS s = scanL (s.length + 1) 0 s 0 := by rw [scanS, if_neg (by omega)]
  intro b1 hb1 h1 hh1
  have hsb : h1 b1 = some (SB s 0) := by rw [Put.at hh1]; exact congrArg some (SB_mk rfl (by rw [place_zero]; rfl) (by rw [place_zero]; rfl))
  have hx1 : Ext h h1 := Put.ext hh1 hb1
  clear hh1
  refine Tri.mono (skip_tri (Nat.zero_le _) (by omega) hsb) ?_
  rintro _ h2 ⟨rfl, hh2⟩
  refine ⟨rfl, ?_⟩
  rw [List.drop_zero, Nat.zero_add] at hh2
  have hb1n : h1 b1 ≠ none := by rw [hsb]; exact fun e => by cases e
  refine ⟨fun m sa sn sc h3 => ∃ (n f : Nat) (done : List Tok), n ≤ s.length ∧ skipN false (s.drop n) = 0 ∧ n + m = s.length ∧ h3 b1 = some (SB s n) ∧ Away b1 h1 h3 ∧ LM 162 6 h1 h3 sa sn sc (done.map (tokC s)) ∧ done.length = sn ∧ sn ≤ 4096 ∧ (s.drop n).length < f + 1 ∧ scanS s = preS done (scanL (f + 1) sn (s.drop n) n), ?_, ?_⟩
  · have hle := skipN_le false s
    refine ⟨s.length - skipN false s, skipN false s, s.length, [], hle, skipN_idem false s, by omega, ?_, ?_, LM.nil, rfl, by omega, ?_, ?_⟩
    · rw [hh2]; exact put_same _ _ _
    · rw [hh2]; exact (Chg.put _ _ _).away
    · rw [List.length_drop]; omega
    · rw [preS_nil, hsc, scanL_skip]; simp
  rintro m sa sn sc h3 ⟨n, f, done, hn, hsk, hm, hb3, hA3, hM3, hdl, hk4, hf, hs3⟩
  have hx3 : Ext h h3 := fun k o hk => hA3 k o (fun e => by subst e; rw [hb1] at hk; cases hk) (hx1 k o hk)
  have hcell : ∀ {g : PHeap}, g b1 = some (SB s n) → ∀ o, g.cell b1 o = [vS s, vI n, vI (place s n).1, vI ((n : Int) + 1 - (place s n).2)][o]? := fun hg o => cell_of hg o
  have hpb := place_bound s n
  have hd1 : ∀ {g : PHeap}, Away b1 h1 g → g b1 ≠ none → ∀ b, g b = none → h1 b = none := fun hA hne => hA.dom hne
  have col : ∀ i : Nat, i ≤ 1000000 → IntKind.i64.wrap (IntKind.i64.wrap (IntKind.i64.wrap ((n : Int) - ((n : Int) + 1 - (place s n).2)) + 1) + i) = ((place s n).2 + i : Nat) := fun i hi => by
    rw [wrap64 (n := (n : Int) - ((n : Int) + 1 - (place s n).2)) (by omega) (by omega), wrap64 (n := (n : Int) - ((n : Int) + 1 - (place s n).2) + 1) (by omega) (by omega), wrap64 (by omega) (by omega)]; omega
  have col0 : IntKind.i64.wrap (IntKind.i64.wrap ((n : Int) - ((n : Int) + 1 - (place s n).2)) + 1) = ((place s n).2 : Nat) := by
    rw [wrap64 (n := (n : Int) - ((n : Int) + 1 - (place s n).2)) (by omega) (by omega), wrap64 (by omega) (by omega)]; omega
  refine ⟨_, hcell hb3 1, br_split (fun e1 => ?_) (fun e1 => ?_)⟩
  · have hlt : n < s.length := by
      have : (n : Int) < s.length := by simpa using e1
      omega
    obtain ⟨c, r, hd⟩ : ∃ c r, s.drop n = c :: r := by
      cases hd : s.drop n with
      | nil => have := congrArg List.length hd; simp at this; omega
      | cons c r => exact ⟨c, r, rfl⟩
    refine ⟨_, hcell hb3 1, ⟨by omega, by omega, Int.le_refl _⟩, ?_⟩
    rw [dropE, hd]
    have hrl : (c :: r).length + n = s.length := by rw [← hd, List.length_drop]; omega
    have h1s := oneS_nl (c :: r)
    rw [scanL_at f sn n hsk, hd] at hs3
    simp only [scanR] at hs3
    refine Tri.mono (find_tri c r h3 (ht.ext hx3) (by omega)) ?_
    rintro v h4 ⟨hx34, hv⟩
    have hb4 : h4 b1 = some (SB s n) := hx34 _ _ hb3
    have hx4 : Ext h h4 := hx3.trans hx34
    have hA4 : Away b1 h1 h4 := hA3.trans hx34.away
    obtain ⟨K, T, V, B, Ln, Cn, Sz, At', Er, c1, hv', hcase⟩ : ∃ (K : Int) (T : List UInt8) (V : Int) (B : List UInt8) (Ln Cn Sz At' Er : Int) (c1 : Bool), v = vT [vA [vI K, vS T, vI V, vS B, vI Ln, vI Cn, vI Sz, vI At', vI Er], vB c1] ∧
        ((c1 = false ∧ oneS (c :: r) = .error (6, 0)) ∨ (c1 = true ∧ K = L.aK (oneS (c :: r)) ∧ T = (c :: r).take (L.aS (oneS (c :: r))) ∧ V = L.aV (oneS (c :: r)) ∧ B = L.aB (oneS (c :: r)) ∧ Sz = L.aS (oneS (c :: r)) ∧ At' = L.aA (oneS (c :: r)) ∧ Er = L.aE (oneS (c :: r)))) := by
      rcases hv with rfl | ⟨rfl, h6⟩
      · exact ⟨_, _, _, _, _, _, _, _, _, true, rfl, .inr ⟨rfl, rfl, rfl, rfl, rfl, rfl, rfl, rfl⟩⟩
      · exact ⟨_, _, _, _, _, _, _, _, _, false, rfl, .inl ⟨rfl, h6⟩⟩
    refine ⟨K, T, V, B, Ln, Cn, Sz, At', Er, c1, hv', br_split (fun e2 => ?_) (fun e2 => ?_)⟩
    · have hk : sn = 4096 := by
        have : (sn : Int) ≥ 4096 := by simpa using e2
        omega
      refine ⟨_, hcell hb4 1, _, hcell hb4 3, _, hcell hb4 2, hx4, ?_⟩
      rw [hs3, if_pos hk]
      have := col 0 (by omega)
      simp only [preS]
      rw [show (0 : Int) = ((0 : Nat) : Int) from rfl, this]; rfl
    have hk : ¬ sn = 4096 := by
      have : ¬ (sn : Int) ≥ 4096 := by simpa using e2
      omega
    rw [if_neg hk] at hs3
    refine br_split (fun e3 => ?_) (fun e3 => ?_)
    · have hc1 : c1 = false := by simpa using e3
      refine ⟨_, hcell hb4 1, _, hcell hb4 3, _, hcell hb4 2, hx4, ?_⟩
      rcases hcase with ⟨_, h6⟩ | ⟨h6, _⟩
      · rw [hs3, h6]
        have := col 0 (by omega)
        simp only [preS]
        rw [show (0 : Int) = ((0 : Nat) : Int) from rfl, this]; rfl
      · rw [h6] at hc1; cases hc1
    have hc1 : c1 = true := by simpa using e3
    rcases hcase with ⟨h6, _⟩ | ⟨_, g1, g2, g3, g4, g5, g6, g7⟩
    · rw [h6] at hc1; cases hc1
    refine ⟨_, hcell hb4 1, _, hcell hb4 3, br_split (fun e4 => ?_) (fun e4 => ?_)⟩
    · refine ⟨_, hcell hb4 2, hx4, ?_⟩
      cases ho : oneS (c :: r) with
      | ok p =>
        rw [ho] at g7
        have : Er = 0 := g7
        subst this; simp at e4
      | error p =>
        obtain ⟨ee, ei⟩ := p
        rw [ho] at g6 g7 hs3
        replace g6 : At' = (ei : Int) := g6
        replace g7 : Er = (ee : Int) := g7
        have hnl := (h1s.1 _ _ ho).1
        have hpl : place s (n + ei) = ((place s n).1, (place s n).2 + ei) := place_add ei (fun d hdm => hnl.2 d (by rw [hd] at hdm; exact hdm)) (by have := hnl.1; omega)
        rw [hs3, g6, g7, col ei (by have := hnl.1; omega)]
        simp only [preS, hpl]
    · cases ho : oneS (c :: r) with
      | error p =>
        obtain ⟨ee, ei⟩ := p
        rw [ho] at g7
        replace g7 : Er = (ee : Int) := g7
        have := (h1s.1 _ _ ho).2
        exfalso
        subst g7
        have : (ee : Int) = 0 := by simpa using e4
        omega
      | ok p =>
        obtain ⟨kind, len, vv, bb⟩ := p
        rw [ho] at g1 g2 g3 g4 g5 hs3
        replace g1 : K = (kind : Int) := g1
        replace g2 : T = (c :: r).take len := g2
        replace g3 : V = (vv : Int) := g3
        replace g4 : B = bb := g4
        replace g5 : Sz = (len : Int) := g5
        have hok := h1s.2 _ _ _ _ ho
        have hlen := hok.nl.1
        have hlp := hok.pos
        subst g1; subst g2; subst g3; subst g4; subst g5
        refine ⟨_, hcell hb4 2, ?_⟩
        rw [col0]
        intro b2 hb2 h5 hh5
        have hne4 : h4 b1 ≠ none := by rw [hb4]; exact fun e => by cases e
        refine Raw.mono (LM.append (h0 := h1) (cs := tokC s ⟨kind, (c :: r).take len, vv, B, n⟩) und75 elem162 rfl rfl rfl rfl rfl (hM3.ext hx34) hb2 hh5 rfl rfl (by omega) (hd1 hA4 hne4)) ?_
        rintro _ h6 ⟨b6, cap6, rfl, hk6, hdd6, hn6, hq6, hM6, _⟩
        have hb6 : h6 b1 = some (SB s n) := hk6 b1 _ hb1n hb4
        refine ⟨_, _, _, rfl, _, hcell hb6 1, _, _, _, hb6, ⟨by simp, Nat.zero_le _⟩, ?_⟩
        intro h7 hh7
        have hpl : place s (n + len) = ((place s n).1, (place s n).2 + len) := place_add len (fun d hdm => hok.nl.2 d (by rw [hd] at hdm; exact hdm)) (by omega)
        have hh7' : h7 = h6.put b1 (SB s (n + len)) := by
          rw [hh7, wrap64 (by omega) (by omega)]
          refine congrArg (h6.put b1) (SB_mk ?_ ?_ ?_)
          · omega
          · rw [hpl]
          · rw [hpl]; simp only; omega
        have hb7 : h7 b1 = some (SB s (n + len)) := by rw [hh7']; exact put_same _ _ _
        have hc7 : Chg b1 h6 h7 := by rw [hh7']; exact Chg.put _ _ _
        refine Tri.mono (skip_tri (by omega) (by omega) hb7) ?_
        rintro _ h8 ⟨rfl, hh8⟩
        have hc8 : Chg b1 h6 h8 := by rw [hh8]; exact hc7.trans (Chg.put _ _ _)
        have hle := skipN_le false (s.drop (n + len))
        rw [List.length_drop] at hle
        have hA6 : Away b1 h1 h6 := fun k o hk ho => hk6 k o (by rw [ho]; exact fun e => by cases e) (hA4 k o hk ho)
        match f, hf with
        | 0, hf => exfalso; rw [hd] at hf; simp at hf
        | f + 1, hf =>
        refine ⟨rfl, m - (len + skipN false (s.drop (n + len))), by omega, ⟨n + len + skipN false (s.drop (n + len)), f, done ++ [⟨kind, (c :: r).take len, vv, B, n⟩], by omega, ?_, by omega, ?_, hA6.trans hc8.away, ?_, ?_, by omega, ?_, ?_⟩, trivial⟩
        · rw [← List.drop_drop]; exact skipN_idem false _
        · rw [hh8]; exact put_same _ _ _
        · have := hM6.away hb1n hc8.away
          rw [List.map_append]; exact this
        · rw [List.length_append, hdl]; rfl
        · rw [List.length_drop]; rw [List.length_drop] at hf; omega
        · rw [hs3]
          simp only
          refine (preS_cons done _ (scanL (f + 1) (sn + 1) (List.drop len (c :: r)) (n + len))).trans ?_
          rw [← hd, List.drop_drop, scanL_skip, List.drop_drop]
  · have hlt : n = s.length := by
      have : ¬ (n : Int) < s.length := by simpa using e1
      omega
    refine ⟨_, hcell hb3 2, _, hcell hb3 1, _, hcell hb3 3, ?_⟩
    rw [col0]
    intro b3 hb3' h9 hh9
    have hx9 : Ext h3 h9 := Put.ext hh9 hb3'
    have hb9 := hx9 _ _ hb3
    refine ⟨hcell hb9 3, hcell hb9 1, hcell hb9 2, ?_⟩
    have hne3 : h3 b1 ≠ none := by rw [hb3]; exact fun e => by cases e
    refine Raw.mono (LM.append (h0 := h1) (cs := tokC s ⟨0, [], 0, [], n⟩) und75 elem162 rfl rfl rfl rfl rfl hM3 hb3' hh9 rfl rfl (by omega) (hd1 hA3 hne3)) ?_
    rintro _ h10 ⟨b10, cap10, rfl, hk10, hdd10, hn10, hq10, hM10, _⟩
    have hb10 : h10 b1 = some (SB s n) := hk10 b1 _ hb1n hb3
    refine ⟨_, _, _, rfl, hcell hb10 3, hcell hb10 1, hcell hb10 2, ?_, ?_⟩
    · exact fun k o hk => hk10 k o (by rw [hx1 k o hk]; exact fun e => by cases e) (hx3 k o hk)
    · have hnil : s.drop n = [] := List.drop_eq_nil_of_le (by omega)
      rw [hs3, scanL_at f sn n hsk, hnil]
      simp only [preS, scanR]
      refine ⟨b10, cap10, by rw [List.length_append, hdl]; rfl, ?_, ?_, ?_, ?_⟩
      · cases e : h b10 with
        | none => rfl
        | some o => rw [hx1 _ _ e] at hn10; cases hn10
      · exact (hM10.own b10 rfl).2
      · obtain ⟨_, hor⟩ := hM10.row
        rcases hor with ⟨g, _⟩ | ⟨b', cap', rest, g, g', _⟩
        · cases g
        · injection g with g; injection g with g; injection g with g
          subst g
          have : (done.map (tokC s) ++ [tokC s ⟨0, [], 0, [], n⟩]) = (done ++ [(⟨0, [], 0, [], n⟩ : Tok)]).map (tokC s) := by rw [List.map_append]; rfl
          rw [this] at g'
          exact TokRow_of (pre := []) _ rest g'
      · obtain ⟨_, hor⟩ := hM10.row
        rcases hor with ⟨g, _⟩ | ⟨b', cap', rest, g, g', hr, hc⟩
        · cases g
        · injection g with _ _ g
          subst g
          rw [List.length_append, hdl]; exact hc
end Go.Proofs.D
/- Maps with strings as keys. -/
namespace Go.Den
open Go
section
variable {P : Program} {h : PHeap} {f : Operand → Value}

theorem raw_makeMap {t ty : TypeId} {Q : Value → PHeap → Prop} (hq : ∀ b, h b = none → Q (.map (some b)) (h.put b (.map ⟨[]⟩ 0))) : Raw P (execOp f (mkO (.makeMap t none) ty)) h Q := by
  intro w hs
  refine ⟨.value (.map (some w.heap.size)), .map (some w.heap.size), w.alloc (.map ⟨[]⟩ 0), h.put w.heap.size (.map ⟨[]⟩ 0), ?_, .inl rfl, hq _ hs.fresh, hs.allocReal _, Keep.allocReal w h _⟩
  rfl

theorem beq_bytesS (a b : List UInt8) : ((⟨⟨a⟩⟩ : ByteArray) == ⟨⟨b⟩⟩) = (a == b) := by
  show ((⟨a⟩ : Array UInt8) == ⟨b⟩) = (a == b)
  rw [Bool.eq_iff_iff, beq_iff_eq, beq_iff_eq]
  constructor
  · intro e; cases e; rfl
  · rintro rfl; rfl

/-- A map's entries: the keys, the values, and when they were born. -/
def ents (L : List (List UInt8 × Value × Nat)) : List MapEntry := L.map fun x => ⟨vS x.1, x.2.1, x.2.2⟩

def findS (k : List UInt8) : List (List UInt8 × Value × Nat) → Nat → Option (Nat × Value)
  | [], _ => none
  | (k', v, _) :: L, i => if k == k' then some (i, v) else findS k L (i + 1)

def mapGet (L : List (List UInt8 × Value × Nat)) (k : List UInt8) : Option Value := (findS k L 0).map (·.2)

theorem findNow_S (k : List UInt8) : ∀ (L : List (List UInt8 × Value × Nat)) (i : Nat), Instr.findNow .string (vS k) (ents L) i = some (findS k L i)
  | [], _ => rfl
  | (k', v, b) :: L, i => by
    simp only [ents, List.map_cons, Instr.findNow, Instr.sameNow, beq_bytesS, findS]
    cases e : k == k' with
    | true => rfl
    | false =>
      simp only [Bool.false_eq_true, if_false]
      exact findNow_S k L (i + 1)

theorem checkKey_S {t : TypeId} (hu : P.underlying t = some .string) (e : Bool) (v : Value) (w : World) : (Instr.checkKey e 10000 t v).run P w = .ok () w := by
  have : Instr.checkKey e 10000 t v = Instr.checkKey e (9999 + 1) t v := rfl
  rw [this, Instr.checkKey]
  simp [run_underlying hu]

def getD2 (z : Value) : Option Value → Value
  | some v => v
  | none => z

theorem raw_lookupS {t key elem ty : TypeId} {ok : Bool} {m k : Operand} {r clock : Nat} {L : List (List UInt8 × Value × Nat)} {lk : List UInt8} {z : Value}
    (hu : P.underlying t = some (.map key elem)) (hks : P.underlying key = some .string) (hz : zeroT P elem = some z) (hm : f m = vM r) (hk : f k = vS lk) (hr : h r = some (.map ⟨ents L⟩ clock)) :
    Raw P (execOp f (mkO (.lookup t m k ok) ty)) h fun v h' => v = (if ok then vT [getD2 z (mapGet L lk), vB (mapGet L lk).isSome] else getD2 z (mapGet L lk)) ∧ h = h' := by
  intro w hs
  have hw := hs _ _ hr
  have hfn := findNow_S lk L 0
  have hgo : (getObj r).run P w = .ok (.map ⟨ents L⟩ clock) w := by simp [getObj, Sem.run, hw]
  have hzr : (zeroValue elem).run P w = .ok z w := by
    unfold zeroT at hz
    cases hi : P.info? elem with
    | none => rw [hi] at hz; cases hz
    | some i => rw [hi] at hz; simp at hz; simp [zeroValue, typeInfo, program, Sem.run, hi, hz]
  refine ⟨_, _, w, h, ?_, .inl rfl, ⟨rfl, rfl⟩, hs, Keep.refl w h⟩
  unfold mapGet
  cases hres : findS lk L 0 with
  | none => rw [hres] at hfn; cases ok <;> simp [execOp, mkO, Instr.lookup, run_underlying hu, hm, hk, hgo, checkKey_S hks, Instr.findKey, run_underlying hks, hfn, hzr, getD2]
  | some p => obtain ⟨i, v⟩ := p; rw [hres] at hfn; cases ok <;> simp [execOp, mkO, Instr.lookup, run_underlying hu, hm, hk, hgo, checkKey_S hks, Instr.findKey, run_underlying hks, hfn, getD2]

theorem setObj_keepS {w : World} {r : Nat} {o o2 : Obj} (hs : Sub w h) (hr : h r = some o) : Sub { w with heap := w.heap.setIfInBounds r o2 } (h.put r o2) ∧ Keep w h { w with heap := w.heap.setIfInBounds r o2 } (h.put r o2) := by
  have hw := hs _ _ hr
  have hlt := (Array.getElem?_eq_some_iff.1 hw).1
  refine ⟨fun k o' hk => ?_, rfl, rfl, rfl, by simp, fun k hk hn => ?_⟩
  · simp only [PHeap.put] at hk
    split at hk
    · rename_i e; subst e; cases hk; simp [hlt]
    · rename_i e
      show (w.heap.setIfInBounds r o2)[k]? = _
      rw [Array.getElem?_setIfInBounds_ne (Ne.symm e)]; exact hs _ _ hk
  · have : k ≠ r := fun e => by subst e; rw [hr] at hn; cases hn
    refine ⟨by simp only [PHeap.put]; rw [if_neg this]; exact hn, ?_⟩
    show (w.heap.setIfInBounds r o2)[k]? = _
    rw [Array.getElem?_setIfInBounds_ne (Ne.symm this)]

/-- A map with one entry set. -/
def mapSet (k : List UInt8) (x : Value) (ck : Nat) : List (List UInt8 × Value × Nat) → List (List UInt8 × Value × Nat)
  | [] => [(k, x, ck)]
  | (k', v, b) :: L => if k == k' then (k, x, b) :: L else (k', v, b) :: mapSet k x ck L

theorem findS_shift (k : List UInt8) : ∀ (L : List (List UInt8 × Value × Nat)) (i j : Nat), findS k L (i + j) = (findS k L i).map fun p => (p.1 + j, p.2)
  | [], _, _ => rfl
  | (k', v, b) :: L, i, j => by
    simp only [findS]
    cases e : k == k' with
    | true => rfl
    | false =>
      have := findS_shift k L (i + 1) j
      rw [show i + 1 + j = i + j + 1 by omega] at this
      simpa using this

theorem mapGet_cons (k' : List UInt8) (v : Value) (b : Nat) (L : List (List UInt8 × Value × Nat)) (k : List UInt8) : mapGet ((k', v, b) :: L) k = if k == k' then some v else mapGet L k := by
  simp only [mapGet, findS]
  cases e : k == k' with
  | true => rfl
  | false =>
    have := findS_shift k L 0 1
    rw [Nat.zero_add] at this
    simp only [Nat.zero_add, Bool.false_eq_true, if_false]
    rw [this]; cases findS k L 0 <;> rfl

theorem mapGet_set (k : List UInt8) (x : Value) (ck : Nat) (k2 : List UInt8) : ∀ (L : List (List UInt8 × Value × Nat)), mapGet (mapSet k x ck L) k2 = if k2 == k then some x else mapGet L k2
  | [] => by simp [mapSet, mapGet_cons]
  | (k', v, b) :: L => by
    simp only [mapSet]
    cases e : k == k' with
    | true =>
      have e : k = k' := by simpa using e
      subst e
      simp only [if_true, mapGet_cons]
      cases k2 == k <;> rfl
    | false =>
      simp only [Bool.false_eq_true, if_false, mapGet_cons, mapGet_set k x ck k2 L]
      cases e2 : k2 == k' with
      | true =>
        have e2 : k2 = k' := by simpa using e2
        subst e2
        have : (k2 == k) = false := by rw [Bool.beq_comm]; exact e
        simp [this]
      | false => rfl

/-- How the entries change. -/
theorem set_ents (k : List UInt8) (x : Value) (ck : Nat) : ∀ (L : List (List UInt8 × Value × Nat)), (∀ i v, findS k L 0 = some (i, v) → (ents L).modify i (fun e => { e with key := vS k, val := x }) = ents (mapSet k x ck L) ∧ ∃ e, (ents L)[i]? = some e ∧ e.key = vS k) ∧
    (findS k L 0 = none → ents L ++ [⟨vS k, x, ck⟩] = ents (mapSet k x ck L))
  | [] => ⟨(fun i v h => by cases h), fun _ => rfl⟩
  | (k', v', b) :: L => by
    obtain ⟨h1, h2⟩ := set_ents k x ck L
    simp only [findS, mapSet]
    cases e : k == k' with
    | true =>
      have e : k = k' := by simpa using e
      subst e
      refine ⟨fun i v h => ?_, fun h => by simp at h⟩
      simp at h
      obtain ⟨rfl, rfl⟩ := h
      exact ⟨rfl, _, rfl, rfl⟩
    | false =>
      have hs := findS_shift k L 0 1
      simp only [Nat.zero_add] at hs
      simp only [Nat.zero_add, Bool.false_eq_true, if_false, hs]
      refine ⟨fun i v h => ?_, fun h => ?_⟩
      · cases hf : findS k L 0 with
        | none => rw [hf] at h; cases h
        | some p =>
          obtain ⟨j, u⟩ := p
          rw [hf] at h; simp at h
          obtain ⟨rfl, rfl⟩ := h
          obtain ⟨g1, g2⟩ := h1 j u hf
          exact ⟨by simpa [ents] using g1, by simpa [ents] using g2⟩
      · cases hf : findS k L 0 with
        | none => simpa [ents] using h2 hf
        | some p => rw [hf] at h; cases h

theorem raw_updS {t key elem ty : TypeId} {m k v : Operand} {op : Op} {r clock : Nat} {L : List (List UInt8 × Value × Nat)} {lk : List UInt8} {x : Value}
    (hop : op = .mapUpdate t m k v ∨ op = .insert t m k v) (hu : P.underlying t = some (.map key elem)) (hks : P.underlying key = some .string) (hm : f m = vM r) (hk : f k = vS lk) (hv : f v = x) (hr : h r = some (.map ⟨ents L⟩ clock)) :
    Raw P (execOp f (mkO op ty)) h fun v h' => v = vT [] ∧ ∃ ck, h' = h.put r (.map ⟨ents (mapSet lk x clock L)⟩ ck) ∧ (mapGet L lk = none → ck = clock + 1) := by
  intro w hs
  have hw := hs _ _ hr
  have hfn := findNow_S lk L 0
  have hgo : (getObj r).run P w = .ok (.map ⟨ents L⟩ clock) w := by simp [getObj, Sem.run, hw]
  have hso : ∀ o, (setObj r o).run P w = .ok () { w with heap := w.heap.setIfInBounds r o } := fun o => by simp [setObj, Sem.run, hw]
  have hset := set_ents lk x clock L
  cases hres : findS lk L 0 with
  | none =>
    rw [hres] at hfn
    obtain ⟨k1, k2⟩ := setObj_keepS (o2 := .map ⟨ents (mapSet lk x clock L)⟩ (clock + 1)) hs hr
    refine ⟨.skip, undef, _, _, ?_, .inr ⟨rfl, rfl⟩, ⟨rfl, clock + 1, rfl, fun _ => rfl⟩, k1, k2⟩
    rw [← hset.2 hres]
    rcases hop with rfl | rfl <;> simp [execOp, mkO, hm, hk, hv, Instr.mapUpdate, run_underlying hu, hgo, checkKey_S hks, Instr.findKey, run_underlying hks, hfn, hso]
  | some p =>
    obtain ⟨i, u⟩ := p
    rw [hres] at hfn
    obtain ⟨g1, e, he, hek⟩ := hset.1 i u hres
    obtain ⟨k1, k2⟩ := setObj_keepS (o2 := .map ⟨ents (mapSet lk x clock L)⟩ clock) hs hr
    refine ⟨.skip, undef, _, _, ?_, .inr ⟨rfl, rfl⟩, ⟨rfl, clock, rfl, fun hn => by simp [mapGet, hres] at hn⟩, k1, k2⟩
    rw [← g1]
    have hsb : Instr.sameBits 10000 e.key (vS lk) = true := by rw [hek]; simp [Instr.sameBits, beq_bytesS]
    rcases hop with rfl | rfl <;> simp [execOp, mkO, hm, hk, hv, Instr.mapUpdate, run_underlying hu, hgo, checkKey_S hks, Instr.findKey, run_underlying hks, hfn, hso, he, Instr.keyThatStays, hsb]
end
end Go.Den
/- Statements in memory; the readers of statements without blocks. -/
namespace Go.Proofs.D
open Go Go.Den Go.Sx
set_option maxRecDepth 100000
attribute [local irreducible] IntKind.wrap Tri

mutual
/-- A statement in memory; we, ws: the cells of an expression and of a statement. -/
def RS (pl : Nat → List Value) (we ws : Nat) (h : PHeap) : S → List Value → Prop
  | .mk k nm args body els pos, cs => ∃ a ac b bc e ec, cs = [vI k, vS nm, vL a args.length ac, vL b body.length bc, vL e els.length ec] ++ pl pos ∧ At we (RE pl we) h a args ∧
      (body = [] ∨ ∃ b' o, b = ad b' o ∧ RSs pl we ws h b' o body) ∧ (els = [] ∨ ∃ b' o, e = ad b' o ∧ RSs pl we ws h b' o els)
def RSs (pl : Nat → List Value) (we ws : Nat) (h : PHeap) (b : Nat) : Nat → List S → Prop
  | _, [] => True
  | o, x :: xs => (∃ cs, h.row b o cs ∧ RS pl we ws h x cs) ∧ RSs pl we ws h b (o + ws) xs
end

mutual
theorem RS.ext {pl : Nat → List Value} {we ws : Nat} {h h' : PHeap} (x : Ext h h') : ∀ {e : S} {cs : List Value}, RS pl we ws h e cs → RS pl we ws h' e cs
  | .mk k nm args body els pos, cs, hr => by
    obtain ⟨a, ac, b, bc, e, ec, h1, h2, h3, h4⟩ := hr
    refine ⟨a, ac, b, bc, e, ec, h1, h2.ext (RE_mono _ _) x, ?_, ?_⟩
    · rcases h3 with h3 | ⟨b, o, h3, h5⟩
      · exact .inl h3
      · exact .inr ⟨b, o, h3, RSs.ext x h5⟩
    · rcases h4 with h4 | ⟨b, o, h4, h5⟩
      · exact .inl h4
      · exact .inr ⟨b, o, h4, RSs.ext x h5⟩
theorem RSs.ext {pl : Nat → List Value} {we ws : Nat} {h h' : PHeap} (x : Ext h h') {b : Nat} : ∀ {es : List S} {o : Nat}, RSs pl we ws h b o es → RSs pl we ws h' b o es
  | [], _, _ => trivial
  | e :: es, o, hr => by
    obtain ⟨⟨cs, h1, h2⟩, h3⟩ := hr
    exact ⟨⟨cs, row_ext (fun ob => x b ob) h1, RS.ext x h2⟩, RSs.ext x h3⟩
end
theorem RS_mono (pl : Nat → List Value) (we ws : Nat) : Mono (RS pl we ws) := ⟨fun x h => h.ext x⟩

theorem RSs_of {pl : Nat → List Value} {we ws : Nat} {H : PHeap} {b : Nat} : ∀ {es : List S} {o : Nat}, (∀ (j : Nat) (x : S), es[j]? = some x → ∃ cs, H.row b (o + j * ws) cs ∧ RS pl we ws H x cs) → RSs pl we ws H b o es
  | [], _, _ => trivial
  | e :: es, o, hj => by
    refine ⟨?_, RSs_of fun j x hx => ?_⟩
    · obtain ⟨cs, h1, h2⟩ := hj 0 e rfl
      exact ⟨cs, by simpa using h1, h2⟩
    · obtain ⟨cs, h1, h2⟩ := hj (j + 1) x (by simpa using hx)
      exact ⟨cs, by rw [show o + ws + j * ws = o + (j + 1) * ws by rw [Nat.add_mul]; omega]; exact h1, h2⟩
theorem RSs_get {pl : Nat → List Value} {we ws : Nat} {H : PHeap} {b : Nat} : ∀ {es : List S} {o : Nat}, RSs pl we ws H b o es → ∀ (j : Nat) (x : S), es[j]? = some x → ∃ cs, H.row b (o + j * ws) cs ∧ RS pl we ws H x cs
  | [], _, _, j, x, hx => by simp at hx
  | e :: es, o, hr, 0, x, hx => by
    simp at hx; subst hx
    obtain ⟨cs, h1, h2⟩ := hr.1
    exact ⟨cs, by simpa using h1, h2⟩
  | e :: es, o, hr, j + 1, x, hx => by
    obtain ⟨cs, h1, h2⟩ := RSs_get hr.2 j x (by simpa using hx)
    exact ⟨cs, by rw [show o + (j + 1) * ws = o + ws + j * ws by rw [Nat.add_mul]; omega]; exact h1, h2⟩
theorem REs_get {pl : Nat → List Value} {w : Nat} {H : PHeap} {b : Nat} : ∀ {es : List E} {o : Nat}, REs pl w H b o es → ∀ (j : Nat) (x : E), es[j]? = some x → ∃ cs, H.row b (o + j * w) cs ∧ RE pl w H x cs
  | [], _, _, j, x, hx => by simp at hx
  | e :: es, o, hr, 0, x, hx => by
    simp at hx; subst hx
    obtain ⟨cs, h1, h2⟩ := hr.1
    exact ⟨cs, by simpa using h1, h2⟩
  | e :: es, o, hr, j + 1, x, hx => by
    obtain ⟨cs, h1, h2⟩ := REs_get hr.2 j x (by simpa using hx)
    exact ⟨cs, by rw [show o + (j + 1) * w = o + w + j * w by rw [Nat.add_mul]; omega]; exact h1, h2⟩

theorem RS_iff {pl : Nat → List Value} {we ws : Nat} {h : PHeap} {k : Nat} {nm : Bytes} {args : List E} {body els : List S} {pos : Nat} {cs : List Value} :
    RS pl we ws h (.mk k nm args body els pos) cs ↔ ∃ a ac b bc e ec, cs = [vI k, vS nm, vL a args.length ac, vL b body.length bc, vL e els.length ec] ++ pl pos ∧ At we (RE pl we) h a args ∧ At ws (RS pl we ws) h b body ∧ At ws (RS pl we ws) h e els := by
  have key : ∀ {a : Option Addr} {l : List S}, (l = [] ∨ ∃ b' o, a = ad b' o ∧ RSs pl we ws h b' o l) ↔ At ws (RS pl we ws) h a l := fun {a l} => by
    constructor
    · rintro (h1 | ⟨b, o, h1, h2⟩)
      · exact .inl h1
      · exact .inr ⟨b, o, h1, RSs_get h2⟩
    · rintro (h1 | ⟨b, o, h1, h2⟩)
      · exact .inl h1
      · exact .inr ⟨b, o, h1, RSs_of h2⟩
  constructor
  · rintro ⟨a, ac, b, bc, e, ec, h1, h2, h3, h4⟩
    exact ⟨a, ac, b, bc, e, ec, h1, h2, key.1 h3, key.1 h4⟩
  · rintro ⟨a, ac, b, bc, e, ec, h1, h2, h3, h4⟩
    exact ⟨a, ac, b, bc, e, ec, h1, h2, key.2 h3, key.2 h4⟩
theorem RE_iff {pl : Nat → List Value} {w : Nat} {h : PHeap} {k : Nat} {op nm : Bytes} {v : Nat} {t : Bytes} {args : List E} {pos : Nat} {cs : List Value} :
    RE pl w h (.mk k op nm v t args pos) cs ↔ ∃ a c, cs = [vI k, vS op, vS nm, vI v, vS t, vL a args.length c] ++ pl pos ∧ At w (RE pl w) h a args := by
  constructor
  · rintro ⟨a, c, h1, h2⟩
    refine ⟨a, c, h1, ?_⟩
    rcases h2 with h2 | ⟨b, o, h2, h3⟩
    · exact .inl h2
    · exact .inr ⟨b, o, h2, REs_get h3⟩
  · rintro ⟨a, c, h1, h2⟩
    exact ⟨a, c, h1, h2.res⟩

theorem At.nil {α : Type} {k : Nat} {rel : PHeap → α → List Value → Prop} {h : PHeap} {a : Option Addr} : At k rel h a [] := .inl rfl
theorem At.one {α : Type} {k : Nat} {rel : PHeap → α → List Value → Prop} {H : PHeap} {b : Nat} {x : α} {l : List Value} {t : TypeId} {z : Nat × Nat} (hb : H b = some (.cells ⟨l⟩ t z)) (he : rel H x l) : At k rel H (ad b 0) [x] :=
  .inr ⟨b, 0, rfl, fun j y hy => by
    match j, hy with
    | 0, hy => simp at hy; subst hy; exact ⟨l, row_lit hb fun j v hj => by simpa using hj, he⟩
    | j + 1, hy => simp at hy⟩
theorem At.two {α : Type} {k : Nat} {rel : PHeap → α → List Value → Prop} {H : PHeap} {b : Nat} {x y : α} {l m : List Value} {t : TypeId} {z : Nat × Nat} (hw : l.length = k) (hb : H b = some (.cells ⟨l ++ m⟩ t z)) (hx : rel H x l) (hy : rel H y m) : At k rel H (ad b 0) [x, y] :=
  .inr ⟨b, 0, rfl, fun j u hu => by
    match j, hu with
    | 0, hu =>
      simp at hu; subst hu
      refine ⟨l, row_lit hb fun j v hj => ?_, hx⟩
      have : j < l.length := (List.getElem?_eq_some_iff.1 hj).1
      simp only [Nat.zero_mul, Nat.zero_add]; rw [List.getElem?_append_left this]; exact hj
    | 1, hu =>
      simp at hu; subst hu
      refine ⟨m, row_lit hb fun j v hj => ?_, hy⟩
      simp only [Nat.zero_add, Nat.one_mul]; rw [List.getElem?_append_right (by omega)]; rw [show k + j - l.length = j by omega]; exact hj
    | j + 2, hu => simp at hu⟩

/-- What a reader of statements leaves. -/
def PSt (K : PK) (s : Bytes) (p : Nat) (h : PHeap) (r : R S) (v : Value) (h' : PHeap) : Prop :=
  ∃ c : SC, v = vA c.l ∧ Away p h h' ∧ PX K s h' p r fun x => RS (plP s) 8 7 (only (New h) h') x c.l
/-- What the reader of a block leaves. -/
def PBk (K : PK) (s : Bytes) (p : Nat) (h : PHeap) (r : R (List S)) (v : Value) (h' : PHeap) : Prop :=
  ∃ a n c, v = vL a n c ∧ Away p h h' ∧ PX K s h' p r fun l => n = l.length ∧ At 7 (RS (plP s) 8 7) (only (New h) h') a l
/-- What the reader of a condition leaves. -/
def PCo (K : PK) (s : Bytes) (p : Nat) (h : PHeap) (r : R E) (v : Value) (h' : PHeap) : Prop :=
  ∃ a c, v = vL a 1 c ∧ Away p h h' ∧ PX K s h' p r fun e => At 8 (RE (plP s) 8) (only (New h) h') a [e]

section
variable {K : PK} {s : Bytes} {p : Nat}

theorem cond_tri {f : Nat} (hf : f ≤ 5000000) {α : Type} (r : R α) (h : PHeap) (hP : PS K s h p r) (hn : NF (bindR r fun _ ts d => pCond f ts d)) : Tri Tryz.prog 93 [vP p 0] h (PCo K s p h (bindR r fun _ ts d => pCond f ts d)) := by
  refine T93 ?_
  unfold R93
  have he : (bindR r fun _ ts d => pCond f ts d) = thenR (bindR (bindR r fun _ ts d => takeT [40] ts d) fun _ ts d => pBin f 1 ts d) fun ts d => takeT [41] ts d := by
    simp only [thenR, bindR_bind, bindR_ok, pCond]
  rw [he] at hn ⊢
  have hp0 := hP.mem
  refine Tri.mono (take_tri hP [40]) ?_
  rintro _ h1 ⟨rfl, hc1, hP1⟩
  refine ⟨rfl, ?_⟩
  refine Tri.mono (expr_tri (xok f hf) _ h1 hP1 hn.then.bind) ?_
  rintro _ h2 ⟨c, rfl, hA2, hx2⟩
  refine ⟨_, _, _, _, _, _, _, _, _, _, rfl, ?_⟩
  refine Tri.mono (take_tri hx2.ps [41]) ?_
  rintro _ h3 ⟨rfl, hc3, hP3⟩
  refine ⟨rfl, ?_⟩
  intro b hb h4 hh
  have hA3 : Away p h h3 := (hc1.away.trans hA2).trans hc3.away
  have hb0 : h b = none := hA3.dom hP3.mem b hb
  have hbk : only (New h) h4 b = some (.cells ⟨c.l⟩ 48 (0, 0)) := only_some.2 ⟨hb0, Put.at hh⟩
  refine ⟨ad b 0, 1, rfl, hA3.trans (Put.ext hh hb).away, ?_⟩
  have hx3 := hx2.then (rel' := fun e => RE (plP s) 8 (only (New h) h4) e c.l) hP3 fun e he => he.ext ((only_new (hc1.away.dom hP1.mem)).trans (only_away hp0 (hc3.away.trans (Put.ext hh hb).away)))
  exact hx3.ext (Put.ext hh hb) fun e he => At.one hbk he

theorem RS_mk {pl : Nat → List Value} {we ws : Nat} {h : PHeap} (k : Nat) (nm : Bytes) {args : List E} {body els : List S} (pos : Nat) {a : Option Addr} (ac : Nat) {b : Option Addr} (bc : Nat) {e : Option Addr} (ec : Nat)
    (h1 : At we (RE pl we) h a args) (h2 : At ws (RS pl we ws) h b body) (h3 : At ws (RS pl we ws) h e els) :
    RS pl we ws h (.mk k nm args body els pos) ([vI k, vS nm, vL a args.length ac, vL b body.length bc, vL e els.length ec] ++ pl pos) := RS_iff.2 ⟨a, ac, b, bc, e, ec, rfl, h1, h2, h3⟩

/-- word: a statement of one word. -/
def pWord (k : Nat) (ts : List Tok) (d : Int) : R S := bindR (takeT [59] ts.tail d) fun _ ts' d => .ok (.mk k [] [] [] [] (hd ts).pos, ts', d)

theorem word_tri (k : Nat) {ts : List Tok} {d : Int} {h : PHeap} (hP : POk K s h p ts d) (hk : (hd ts).kind ≠ 0) : Tri Tryz.prog 41 [vP p 0, vI k] h (PSt K s p h (pWord k ts d)) := by
  refine T41 ?_
  unfold R41
  refine Tri.mono (begin_tri hP hk k) ?_
  rintro _ h1 ⟨rfl, hc1, hP1⟩
  refine ⟨_, _, _, _, _, _, _, _, _, _, _, _, _, rfl, ?_⟩
  refine Tri.mono (take_tri (r := (.ok ((), ts.tail, d) : R Unit)) hP1 [59]) ?_
  rintro _ h2 ⟨rfl, hc2, hP2⟩
  refine ⟨rfl, ⟨k, [], none, 0, 0, none, 0, 0, none, 0, 0, _, _⟩, rfl, hc1.away.trans hc2.away, ?_⟩
  have hx : PX K s h2 p (takeT [59] ts.tail d) fun _ => True := PX.unit hP2
  exact hx.map (k := fun _ => S.mk k [] [] [] [] (hd ts).pos) fun _ _ => RS_mk k [] _ 0 0 0 At.nil At.nil At.nil

theorem word8_tri {ts : List Tok} {d : Int} {h : PHeap} (hP : POk K s h p ts d) (hk : (hd ts).kind ≠ 0) : Tri Tryz.prog 40 [vP K.box 0] h (PSt K s p h (pWord 8 ts d)) := by
  refine T40 ?_
  unfold R40
  obtain ⟨⟨_, _, _, _, _, _, _, _, hq⟩, _⟩ := id hP
  refine ⟨p, 0, cell_of hq 0, ?_⟩
  refine Tri.mono (word_tri 8 hP hk) ?_
  rintro _ h1 hE
  have hE' := hE
  obtain ⟨c, rfl, _⟩ := hE
  exact ⟨_, _, _, _, _, _, _, _, _, _, _, _, _, rfl, hE'⟩
theorem word9_tri {ts : List Tok} {d : Int} {h : PHeap} (hP : POk K s h p ts d) (hk : (hd ts).kind ≠ 0) : Tri Tryz.prog 42 [vP K.box 0] h (PSt K s p h (pWord 9 ts d)) := by
  refine T42 ?_
  unfold R42
  obtain ⟨⟨_, _, _, _, _, _, _, _, hq⟩, _⟩ := id hP
  refine ⟨p, 0, cell_of hq 0, ?_⟩
  refine Tri.mono (word_tri 9 hP hk) ?_
  rintro _ h1 hE
  have hE' := hE
  obtain ⟨c, rfl, _⟩ := hE
  exact ⟨_, _, _, _, _, _, _, _, _, _, _, _, _, rfl, hE'⟩
end
end Go.Proofs.D
/- The readers of statements. -/
namespace Go.Proofs.D
open Go Go.Den Go.Sx
set_option maxRecDepth 100000
attribute [local irreducible] IntKind.wrap Tri

section
variable {K : PK} {s : Bytes} {p : Nat}

def pDecl (f : Nat) (ts : List Tok) (d : Int) : R S := bindR (takeK 1 ts.tail d) fun t ts' d =>
      if isT ts' [61] then bindR (takeT [61] ts' d) fun _ ts' d => bindR (pBin f 1 ts' d) fun e ts' d => bindR (takeT [59] ts' d) fun _ ts' d => .ok (.mk 1 t.text [e] [] [] (hd ts).pos, ts', d)
      else bindR (takeT [59] ts' d) fun _ ts' d => .ok (.mk 1 t.text [] [] [] (hd ts).pos, ts', d)
def pWhile (f : Nat) (ts : List Tok) (d : Int) : R S := bindR (pCond f ts.tail d) fun e ts' d => bindR (pBlock f ts' d) fun b ts' d => .ok (.mk 6 [] [e] b [] (hd ts).pos, ts', d)
def pRet (f : Nat) (ts : List Tok) (d : Int) : R S :=
      if isT ts.tail [59] then bindR (takeT [59] ts.tail d) fun _ ts' d => .ok (.mk 7 [] [] [] [] (hd ts).pos, ts', d)
      else bindR (pBin f 1 ts.tail d) fun e ts' d => bindR (takeT [59] ts' d) fun _ ts' d => .ok (.mk 7 [] [e] [] [] (hd ts).pos, ts', d)

theorem decl_tri {f : Nat} (hf : f ≤ 5000000) {ts : List Tok} {d : Int} {h : PHeap} (hP : POk K s h p ts d) (hk : (hd ts).kind ≠ 0) (hn : NF (pDecl f ts d)) : Tri Tryz.prog 36 [vP p 0] h (PSt K s p h (pDecl f ts d)) := by
  refine T36 ?_
  unfold R36
  have hp0 : h p ≠ none := PS.mem (r := (.ok ((), ts, d) : R Unit)) hP
  refine Tri.mono (begin_tri hP hk 1) ?_
  rintro _ h1 ⟨rfl, hc1, hP1⟩
  refine ⟨_, _, _, _, _, _, _, _, _, _, _, _, _, rfl, ?_⟩
  refine Tri.mono (takeKind_tri (r := (.ok ((), ts.tail, d) : R Unit)) hP1 1 (by decide)) ?_
  rintro _ h2 ⟨t, rfl, hc2, hx2⟩
  refine ⟨_, _, _, _, _, _, rfl, ?_⟩
  rw [bindR_ok] at hx2
  unfold pDecl at hn ⊢
  generalize takeK 1 ts.tail d = r2 at *
  refine Tri.mono (accept_tri hx2.ps [61]) ?_
  rintro _ h3 ⟨rfl, hc3, hP3⟩
  have hA3 : Away p h h3 := (hc1.away.trans hc2.away).trans hc3.away
  refine ⟨_, rfl, br_split (fun e => ?_) (fun e => ?_)⟩
  · obtain ⟨x, ts2, d2, rfl, hT, hac⟩ := accB_true e
    rw [hac] at hP3
    obtain ⟨_, rfl⟩ := hx2
    have he : (bindR (.ok (x, ts2, d2) : R Tok) fun t ts' d =>
      if isT ts' [61] then bindR (takeT [61] ts' d) fun _ ts' d => bindR (pBin f 1 ts' d) fun e ts' d => bindR (takeT [59] ts' d) fun _ ts' d => (.ok (.mk 1 t.text [e] [] [] (hd ts).pos, ts', d) : R S)
      else bindR (takeT [59] ts' d) fun _ ts' d => .ok (.mk 1 t.text [] [] [] (hd ts).pos, ts', d)) =
      mapR (fun e => .mk 1 x.text [e] [] [] (hd ts).pos) (thenR (bindR (takeT [61] ts2 d2) fun _ ts d => pBin f 1 ts d) fun ts d => takeT [59] ts d) := by
        rw [bindR_ok, if_pos hT]; simp only [mapR, thenR, bindR_bind, bindR_ok]
    rw [he] at hn ⊢
    refine Tri.mono (expr_tri (xok f hf) _ h3 hP3 hn.map.then.bind) ?_
    rintro _ h4 ⟨c, rfl, hA4, hx4⟩
    refine ⟨_, _, _, _, _, _, _, _, _, _, rfl, ?_⟩
    intro b hb h5 hh
    refine Tri.mono (take_tri (hx4.ps.ext (Put.ext hh hb)) [59]) ?_
    rintro _ h6 ⟨rfl, hc6, hP6⟩
    have hb0 : h b = none := (hA3.trans hA4).dom hx4.ps.mem b hb
    have hbp : b ≠ p := fun e => by subst e; exact hp0 hb0
    have hA46 : Away p h4 h6 := (Put.ext hh hb).away.trans hc6.away
    have hbk : only (New h) h6 b = some (.cells ⟨c.l⟩ 48 (0, 0)) := only_some.2 ⟨hb0, (hc6 b hbp).trans (Put.at hh)⟩
    have hx6 := hx4.then (rel' := fun e => RE (plP s) 8 (only (New h) h6) e c.l) hP6 fun e he => he.ext ((only_new (hA3.dom hP3.mem)).trans (only_away hp0 hA46))
    exact ⟨rfl, ⟨1, x.text, ad b 0, 1, 1, none, 0, 0, none, 0, 0, _, _⟩, rfl, (hA3.trans hA4).trans hA46, hx6.map fun e he => RS_mk 1 _ _ 1 0 0 (At.one hbk he) At.nil At.nil⟩
  · obtain ⟨hnt, hac⟩ := accB_false rfl e
    rw [hac] at hP3
    refine Tri.mono (take_tri hP3 [59]) ?_
    rintro _ h4 ⟨rfl, hc4, hP4⟩
    have hP4' : PS K s h4 p (bindR r2 fun _ ts d => takeT [59] ts d) := by
      simp only [mapR, bindR_bind, bindR_ok] at hP4; exact hP4
    have he : (bindR r2 fun t ts' d =>
      if isT ts' [61] then bindR (takeT [61] ts' d) fun _ ts' d => bindR (pBin f 1 ts' d) fun e ts' d => bindR (takeT [59] ts' d) fun _ ts' d => (.ok (.mk 1 t.text [e] [] [] (hd ts).pos, ts', d) : R S)
      else bindR (takeT [59] ts' d) fun _ ts' d => .ok (.mk 1 t.text [] [] [] (hd ts).pos, ts', d)) = mapR (fun t => .mk 1 t.text [] [] [] (hd ts).pos) (thenR r2 fun ts d => takeT [59] ts d) := by
      match r2, hnt with
      | .error x, _ => rfl
      | .ok (x, ts2, d2), hnt => rw [bindR_ok, if_neg (by rw [show isT ts2 [61] = false from hnt]; decide)]; simp only [mapR, thenR, bindR_bind, bindR_ok]
    rw [he]
    refine ⟨rfl, ⟨1, t.text, none, 0, 0, none, 0, 0, none, 0, 0, _, _⟩, rfl, hA3.trans hc4.away, ?_⟩
    refine (hx2.then hP4' fun _ h => h).map fun x hx => ?_
    subst hx
    exact RS_mk 1 _ _ 0 0 0 At.nil At.nil At.nil

theorem ret_tri {f : Nat} (hf : f ≤ 5000000) {ts : List Tok} {d : Int} {h : PHeap} (hP : POk K s h p ts d) (hk : (hd ts).kind ≠ 0) (hn : NF (pRet f ts d)) : Tri Tryz.prog 39 [vP p 0] h (PSt K s p h (pRet f ts d)) := by
  refine T39 ?_
  unfold R39
  have hp0 : h p ≠ none := PS.mem (r := (.ok ((), ts, d) : R Unit)) hP
  refine Tri.mono (begin_tri hP hk 7) ?_
  rintro _ h1 ⟨rfl, hc1, hP1⟩
  refine ⟨_, _, _, _, _, _, _, _, _, _, _, _, _, rfl, ?_⟩
  refine Tri.mono (is_tri (r := (.ok ((), ts.tail, d) : R Unit)) hP1 [59]) ?_
  rintro _ h1 ⟨rfl, rfl⟩
  unfold pRet at hn ⊢
  refine ⟨_, rfl, br_split (fun e => ?_) (fun e => ?_)⟩
  · have e : isT ts.tail [59] = false := by simpa [isTr] using e
    rw [if_neg (by rw [e]; decide)] at hn ⊢
    have he : (bindR (pBin f 1 ts.tail d) fun e ts' d => bindR (takeT [59] ts' d) fun _ ts' d => (.ok (.mk 7 [] [e] [] [] (hd ts).pos, ts', d) : R S)) =
      mapR (fun e => .mk 7 [] [e] [] [] (hd ts).pos) (thenR (pBin f 1 ts.tail d) fun ts d => takeT [59] ts d) := by simp only [mapR, thenR, bindR_bind, bindR_ok]
    rw [he] at hn ⊢
    refine Tri.mono (expr_tri (xok f hf) (.ok ((), ts.tail, d) : R Unit) h1 hP1 hn.map.then.bind) ?_
    rintro _ h4 ⟨c, rfl, hA4, hx4⟩
    refine ⟨_, _, _, _, _, _, _, _, _, _, rfl, ?_⟩
    intro b hb h5 hh
    refine Tri.mono (take_tri (hx4.ps.ext (Put.ext hh hb)) [59]) ?_
    rintro _ h6 ⟨rfl, hc6, hP6⟩
    have hb0 : h b = none := (hc1.away.trans hA4).dom hx4.ps.mem b hb
    have hbp : b ≠ p := fun e => by subst e; exact hp0 hb0
    have hA46 : Away p h4 h6 := (Put.ext hh hb).away.trans hc6.away
    have hbk : only (New h) h6 b = some (.cells ⟨c.l⟩ 48 (0, 0)) := only_some.2 ⟨hb0, (hc6 b hbp).trans (Put.at hh)⟩
    have hx6 := hx4.then (rel' := fun e => RE (plP s) 8 (only (New h) h6) e c.l) hP6 fun e he => he.ext ((only_new (hc1.away.dom (PS.mem (r := (.ok ((), ts.tail, d) : R Unit)) hP1))).trans (only_away hp0 hA46))
    exact ⟨rfl, ⟨7, [], ad b 0, 1, 1, none, 0, 0, none, 0, 0, _, _⟩, rfl, (hc1.away.trans hA4).trans hA46, hx6.map fun e he => RS_mk 7 _ _ 1 0 0 (At.one hbk he) At.nil At.nil⟩
  · have e : isT ts.tail [59] = true := by simpa [isTr] using e
    rw [if_pos e]
    refine Tri.mono (take_tri (r := (.ok ((), ts.tail, d) : R Unit)) hP1 [59]) ?_
    rintro _ h2 ⟨rfl, hc2, hP2⟩
    refine ⟨rfl, ⟨7, [], none, 0, 0, none, 0, 0, none, 0, 0, _, _⟩, rfl, hc1.away.trans hc2.away, ?_⟩
    have hx : PX K s h2 p (takeT [59] ts.tail d) fun _ => True := PX.unit hP2
    exact hx.map (k := fun _ => S.mk 7 [] [] [] [] (hd ts).pos) fun _ _ => RS_mk 7 [] _ 0 0 0 At.nil At.nil At.nil

theorem accT {ts : List Tok} {d : Int} {t : Bytes} (ho : opens t = true) (hT : isT ts t = true) : (accB (.ok ((), ts, d) : R Unit) t = false ∧ d = 32 ∧ accR (.ok ((), ts, d) : R Unit) t = .error (9, (hd ts).pos)) ∨ (accB (.ok ((), ts, d) : R Unit) t = true ∧ accR (.ok ((), ts, d) : R Unit) t = takeT t ts d) := by
  by_cases hd : d = 32
  · left; simp [accB, accR, hT, ho, hd, takeT]
  · right; simp [accB, accR, hT, ho, hd]

theorem pNamed_succ (f : Nat) (ts : List Tok) (d : Int) : pNamed (f + 1) ts d = if isT ts.tail [61] then bindR (takeT [61] ts.tail d) fun _ ts' d => bindR (pBin f 1 ts' d) fun e ts' d => bindR (takeT [59] ts' d) fun _ ts' d => .ok (.mk 2 (hd ts).text [e] [] [] (hd ts).pos, ts', d)
    else if isT ts.tail [91] then bindR (takeT [91] ts.tail d) fun _ ts' d => bindR (pBin f 1 ts' d) fun i ts' d => bindR (takeT [93] ts' d) fun _ ts' d => bindR (takeT [61] ts' d) fun _ ts' d =>
      bindR (pBin f 1 ts' d) fun e ts' d => bindR (takeT [59] ts' d) fun _ ts' d => .ok (.mk 3 (hd ts).text [i, e] [] [] (hd ts).pos, ts', d)
    else bindR (pCall f (hd ts) ts.tail d) fun e ts' d => bindR (takeT [59] ts' d) fun _ ts' d => .ok (.mk 4 [] [e] [] [] (hd ts).pos, ts', d) := by
  conv => lhs; unfold pNamed

theorem named_ok {f : Nat} (hf : f ≤ 5000000) {ts : List Tok} {d : Int} {h : PHeap} (hP : POk K s h p ts d) (hk1 : isK ts 1 = true) (hn : NF (pNamed (f + 1) ts d)) : Tri Tryz.prog 173 [vP p 0] h (PSt K s p h (pNamed (f + 1) ts d)) := by
  refine T173 ?_
  unfold R173
  have hk : (hd ts).kind ≠ 0 := by simp [isK] at hk1; omega
  have hp0 : h p ≠ none := PS.mem (r := (.ok ((), ts, d) : R Unit)) hP
  obtain ⟨⟨o, c', l', k', hp, hT, hc, _⟩, hI, hend, hlo, hhi, hl2, hwf⟩ := id hP
  refine ⟨_, _, _, PB_cell hp 0, K.tok, o, rfl, ⟨Int.le_refl _, len_pos hend⟩, _, _, _, _, _, _, POk.row hT hend, ?_⟩
  refine Tri.mono (begin_tri hP hk 2) ?_
  rintro _ h1 ⟨rfl, hc1, hP1⟩
  refine ⟨_, _, _, _, _, _, _, _, _, _, _, _, _, rfl, ?_⟩
  refine Tri.mono (accept_tri (r := (.ok ((), ts.tail, d) : R Unit)) hP1 [61]) ?_
  rintro _ h2 ⟨rfl, hc2, hP2⟩
  have hA2 : Away p h h2 := hc1.away.trans hc2.away
  rw [pNamed_succ] at hn ⊢
  refine ⟨_, rfl, br_split (fun e => ?_) (fun e => ?_)⟩
  · obtain ⟨x, ts2, d2, heq, hT, hac⟩ := accB_true e
    cases heq
    rw [hac] at hP2
    rw [if_pos hT] at hn ⊢
    have he : (bindR (takeT [61] ts.tail d) fun _ ts' d => bindR (pBin f 1 ts' d) fun e ts' d => bindR (takeT [59] ts' d) fun _ ts' d => (.ok (.mk 2 (hd ts).text [e] [] [] (hd ts).pos, ts', d) : R S)) =
      mapR (fun e => .mk 2 (hd ts).text [e] [] [] (hd ts).pos) (thenR (bindR (takeT [61] ts.tail d) fun _ ts d => pBin f 1 ts d) fun ts d => takeT [59] ts d) := by simp only [mapR, thenR, bindR_bind, bindR_ok]
    rw [he] at hn ⊢
    refine Tri.mono (expr_tri (xok f hf) _ h2 hP2 hn.map.then.bind) ?_
    rintro _ h4 ⟨c, rfl, hA4, hx4⟩
    refine ⟨_, _, _, _, _, _, _, _, _, _, rfl, ?_⟩
    intro b hb h5 hh
    refine Tri.mono (take_tri (hx4.ps.ext (Put.ext hh hb)) [59]) ?_
    rintro _ h6 ⟨rfl, hc6, hP6⟩
    have hb0 : h b = none := (hA2.trans hA4).dom hx4.ps.mem b hb
    have hbp : b ≠ p := fun e => by subst e; exact hp0 hb0
    have hA46 : Away p h4 h6 := (Put.ext hh hb).away.trans hc6.away
    have hbk : only (New h) h6 b = some (.cells ⟨c.l⟩ 48 (0, 0)) := only_some.2 ⟨hb0, (hc6 b hbp).trans (Put.at hh)⟩
    have hx6 := hx4.then (rel' := fun e => RE (plP s) 8 (only (New h) h6) e c.l) hP6 fun e he => he.ext ((only_new (hA2.dom hP2.mem)).trans (only_away hp0 hA46))
    exact ⟨rfl, ⟨2, (hd ts).text, ad b 0, 1, 1, none, 0, 0, none, 0, 0, _, _⟩, rfl, (hA2.trans hA4).trans hA46, hx6.map fun e he => RS_mk 2 _ _ 1 0 0 (At.one hbk he) At.nil At.nil⟩
  obtain ⟨hnt, hac⟩ := accB_false rfl e
  have hnt : isT ts.tail [61] = false := hnt
  rw [hac] at hP2
  have hP2 : POk K s h2 p ts.tail d := hP2
  rw [if_neg (by rw [hnt]; decide)] at hn ⊢
  refine Tri.mono (accept_tri (r := (.ok ((), ts.tail, d) : R Unit)) hP2 [91]) ?_
  rintro _ h3 ⟨rfl, hc3, hP3⟩
  have hA3 : Away p h h3 := hA2.trans hc3.away
  refine ⟨_, rfl, br_split (fun e2 => ?_) (fun e2 => ?_)⟩
  · obtain ⟨x, ts2, d2, heq, hT, hac⟩ := accB_true e2
    cases heq
    rw [hac] at hP3
    rw [if_pos hT] at hn ⊢
    have he : (bindR (takeT [91] ts.tail d) fun _ ts' d => bindR (pBin f 1 ts' d) fun i ts' d => bindR (takeT [93] ts' d) fun _ ts' d => bindR (takeT [61] ts' d) fun _ ts' d =>
      bindR (pBin f 1 ts' d) fun e ts' d => bindR (takeT [59] ts' d) fun _ ts' d => (.ok (.mk 3 (hd ts).text [i, e] [] [] (hd ts).pos, ts', d) : R S)) =
      mapR (fun ie : E × E => .mk 3 (hd ts).text [ie.1, ie.2] [] [] (hd ts).pos) (thenR (pairR (thenR (thenR (bindR (takeT [91] ts.tail d) fun _ ts d => pBin f 1 ts d) fun ts d => takeT [93] ts d) fun ts d => takeT [61] ts d) fun ts d => pBin f 1 ts d) fun ts d => takeT [59] ts d) := by
        simp only [mapR, thenR, pairR, bindR_bind, bindR_ok]
    rw [he] at hn ⊢
    have n1 := hn.map.then.bind
    have n2 := n1.bind
    refine ⟨rfl, ?_⟩
    refine Tri.mono (expr_tri (xok f hf) _ h3 hP3 n2.then.bind.bind) ?_
    rintro _ h4 ⟨c, rfl, hA4, hx4⟩
    refine ⟨_, _, _, _, _, _, _, _, _, _, rfl, ?_⟩
    refine Tri.mono (take_tri hx4.ps [93]) ?_
    rintro _ h5 ⟨rfl, hc5, hP5⟩
    refine ⟨rfl, ?_⟩
    have hx5 := hx4.then (rel' := fun e => RE (plP s) 8 (only (New h) h5) e c.l) hP5 fun e he => he.ext ((only_new (hA3.dom hP3.mem)).trans (only_away hp0 hc5.away))
    refine Tri.mono (take_tri hx5.ps [61]) ?_
    rintro _ h6 ⟨rfl, hc6, hP6⟩
    refine ⟨rfl, ?_⟩
    have hx6 := hx5.then (rel' := fun e => RE (plP s) 8 (only (New h) h6) e c.l) hP6 fun e he => he.ext (only_away hp0 hc6.away)
    have hA6 : Away p h h6 := ((hA3.trans hA4).trans hc5.away).trans hc6.away
    refine Tri.mono (expr_tri (xok f hf) _ h6 hx6.ps n1.pair) ?_
    rintro _ h7 ⟨c2, rfl, hA7, hx7⟩
    refine ⟨_, _, _, _, _, _, _, _, _, _, rfl, rfl, ?_⟩
    intro b hb h8 hh
    have hx8 := (hx6.pair (rel3 := fun ie => RE (plP s) 8 (only (New h) h7) ie.1 c.l ∧ RE (plP s) 8 (only (New h) h7) ie.2 c2.l) hx7 fun x y hx hy => ⟨hx.ext (only_away hp0 hA7), hy.ext (only_new (hA6.dom hx6.ps.mem))⟩)
    refine Tri.mono (take_tri (hx8.ps.ext (Put.ext hh hb)) [59]) ?_
    rintro _ h9 ⟨rfl, hc9, hP9⟩
    have hb0 : h b = none := (hA6.trans hA7).dom hx7.ps.mem b hb
    have hbp : b ≠ p := fun e => by subst e; exact hp0 hb0
    have hA79 : Away p h7 h9 := (Put.ext hh hb).away.trans hc9.away
    have hbk : only (New h) h9 b = some (.cells ⟨c.l ++ c2.l⟩ 48 (0, 0)) := only_some.2 ⟨hb0, (hc9 b hbp).trans (Put.at hh)⟩
    have hx9 := hx8.then (rel' := fun ie => RE (plP s) 8 (only (New h) h9) ie.1 c.l ∧ RE (plP s) 8 (only (New h) h9) ie.2 c2.l) hP9 fun ie hie => ⟨hie.1.ext (only_away hp0 hA79), hie.2.ext (only_away hp0 hA79)⟩
    exact ⟨rfl, ⟨3, (hd ts).text, ad b 0, 2, 2, none, 0, 0, none, 0, 0, _, _⟩, rfl, (hA6.trans hA7).trans hA79, hx9.map fun ie hie => RS_mk 3 _ _ 2 0 0 (At.two rfl hbk hie.1 hie.2) At.nil At.nil⟩
  · generalize hr3 : accR (.ok ((), ts.tail, d) : R Unit) [91] = r3 at *
    have he : (if isT ts.tail [91] then bindR (takeT [91] ts.tail d) fun _ ts' d => bindR (pBin f 1 ts' d) fun i ts' d => bindR (takeT [93] ts' d) fun _ ts' d => bindR (takeT [61] ts' d) fun _ ts' d =>
      bindR (pBin f 1 ts' d) fun e ts' d => bindR (takeT [59] ts' d) fun _ ts' d => (.ok (.mk 3 (hd ts).text [i, e] [] [] (hd ts).pos, ts', d) : R S)
      else bindR (pCall f (hd ts) ts.tail d) fun e ts' d => bindR (takeT [59] ts' d) fun _ ts' d => .ok (.mk 4 [] [e] [] [] (hd ts).pos, ts', d)) =
      mapR (fun e => .mk 4 [] [e] [] [] (hd ts).pos) (thenR (bindR r3 fun _ ts' d => pCall f (hd ts) ts' d) fun ts d => takeT [59] ts d) := by
        subst hr3
        cases h91 : isT ts.tail [91] with
        | true =>
          rcases accT rfl h91 (d := d) with ⟨_, h32, hac⟩ | ⟨h1, _⟩
          · rw [hac, if_pos rfl]; simp [takeT, h91, opens, h32, bindR_err, mapR, thenR]
          · rw [h1] at e2; cases e2
        | false =>
          have hac := (accB_false rfl e : _ ∧ _)
          have : accR (.ok ((), ts.tail, d) : R Unit) [91] = .ok ((), ts.tail, d) := by simp [accR, h91]
          rw [this, if_neg (by decide)]; simp only [mapR, thenR, bindR_bind, bindR_ok]
    rw [he] at hn ⊢
    refine Tri.mono ((xok f hf).call (hd ts) r3 h3 hP3 hn.map.then.bind) ?_
    rintro _ h4 ⟨c, rfl, hA4, hx4⟩
    refine ⟨_, _, _, _, _, _, _, _, _, _, rfl, ?_⟩
    intro b hb h5 hh
    refine Tri.mono (take_tri (hx4.ps.ext (Put.ext hh hb)) [59]) ?_
    rintro _ h6 ⟨rfl, hc6, hP6⟩
    have hb0 : h b = none := (hA3.trans hA4).dom hx4.ps.mem b hb
    have hbp : b ≠ p := fun e => by subst e; exact hp0 hb0
    have hA46 : Away p h4 h6 := (Put.ext hh hb).away.trans hc6.away
    have hbk : only (New h) h6 b = some (.cells ⟨c.l⟩ 48 (0, 0)) := only_some.2 ⟨hb0, (hc6 b hbp).trans (Put.at hh)⟩
    have hx6 := hx4.then (rel' := fun e => RE (plP s) 8 (only (New h) h6) e c.l) hP6 fun e he => he.ext ((only_new (hA3.dom hP3.mem)).trans (only_away hp0 hA46))
    exact ⟨rfl, ⟨4, [], ad b 0, 1, 1, none, 0, 0, none, 0, 0, _, _⟩, rfl, (hA3.trans hA4).trans hA46, hx6.map fun e he => RS_mk 4 _ _ 1 0 0 (At.one hbk he) At.nil At.nil⟩

/-! ### Blocks -/
structure SOk (K : PK) (s : Bytes) (p : Nat) (f : Nat) : Prop where
  blk : ∀ {α : Type} (r : R α) (h : PHeap), PS K s h p r → NF (bindR r fun _ ts d => pBlock f ts d) → Tri Tryz.prog 94 [vP p 0] h (PBk K s p h (bindR r fun _ ts d => pBlock f ts d))
  stm : ∀ {α : Type} (r : R α) (h : PHeap), PS K s h p r → NF (bindR r fun _ ts d => pStmt f ts d) → Tri Tryz.prog 141 [vP p 0] h (PSt K s p h (bindR r fun _ ts d => pStmt f ts d))
  iff : ∀ (ts : List Tok) (d : Int) (h : PHeap), POk K s h p ts d → (hd ts).kind ≠ 0 → NF (pIf f ts d) → Tri Tryz.prog 37 [vP p 0] h (PSt K s p h (pIf f ts d))

theorem while_tri {f : Nat} (hf : f ≤ 5000000) (X : SOk K s p f) {ts : List Tok} {d : Int} {h : PHeap} (hP : POk K s h p ts d) (hk : (hd ts).kind ≠ 0) (hn : NF (pWhile f ts d)) : Tri Tryz.prog 38 [vP p 0] h (PSt K s p h (pWhile f ts d)) := by
  refine T38 ?_
  unfold R38
  have hp0 : h p ≠ none := PS.mem (r := (.ok ((), ts, d) : R Unit)) hP
  have he : pWhile f ts d = mapR (fun eb : E × List S => .mk 6 [] [eb.1] eb.2 [] (hd ts).pos) (pairR (pCond f ts.tail d) fun ts d => pBlock f ts d) := by
    simp only [pWhile, mapR, pairR, bindR_bind, bindR_ok]
  rw [he] at hn ⊢
  refine Tri.mono (begin_tri hP hk 6) ?_
  rintro _ h1 ⟨rfl, hc1, hP1⟩
  refine ⟨_, _, _, _, _, _, _, _, _, _, _, _, _, rfl, ?_⟩
  refine Tri.mono (cond_tri hf (.ok ((), ts.tail, d) : R Unit) h1 hP1 hn.map.pair.bind) ?_
  rintro _ h2 ⟨a, c, rfl, hA2, hx2⟩
  refine ⟨_, _, _, rfl, ?_⟩
  rw [bindR_ok] at hx2
  refine Tri.mono (X.blk _ h2 hx2.ps hn.map.pair) ?_
  rintro _ h3 ⟨a3, n3, c3, rfl, hA3, hx3⟩
  refine ⟨_, _, _, rfl, ⟨6, [], a, 1, c, a3, n3, c3, none, 0, 0, _, _⟩, rfl, (hc1.away.trans hA2).trans hA3, ?_⟩
  have hA12 := hc1.away.trans hA2
  have hx := hx2.pair (rel3 := fun eb => At 8 (RE (plP s) 8) (only (New h) h3) a [eb.1] ∧ n3 = eb.2.length ∧ At 7 (RS (plP s) 8 7) (only (New h) h3) a3 eb.2) hx3 fun x y hx hy =>
    ⟨hx.ext (RE_mono _ _) ((only_new (hc1.away.dom (PS.mem (r := (.ok ((), ts.tail, d) : R Unit)) hP1))).trans (only_away hp0 hA3)), hy.1, hy.2.ext (RS_mono _ _ _) (only_new (hA12.dom hx2.ps.mem))⟩
  refine hx.map fun eb hh => ?_
  obtain ⟨g1, g2, g3⟩ := hh
  rw [g2]
  exact RS_mk 6 _ _ c c3 0 g1 g3 At.nil

theorem pIf_succ (f : Nat) (ts : List Tok) (d : Int) : pIf (f + 1) ts d = bindR (pCond f ts.tail d) fun e ts' d => bindR (pBlock f ts' d) fun b ts' d =>
      if isT ts' [101, 108, 115, 101] then
        if isT ts'.tail [105, 102] then bindR (pIf f ts'.tail d) fun s ts' d => .ok (.mk 5 [] [e] b [s] (hd ts).pos, ts', d)
        else bindR (pBlock f ts'.tail d) fun b' ts' d => .ok (.mk 5 [] [e] b b' (hd ts).pos, ts', d)
      else .ok (.mk 5 [] [e] b [] (hd ts).pos, ts', d) := by
  conv => lhs; unfold pIf

theorem takeT_else {ts : List Tok} {d : Int} (h : isT ts [101, 108, 115, 101] = true) : takeT [101, 108, 115, 101] ts d = .ok ((), ts.tail, d) := by
  simp [takeT, h, opens, closes]

theorem if_ok {f : Nat} (hf : f ≤ 5000000) (X : SOk K s p f) (ts : List Tok) (d : Int) (h : PHeap) (hP : POk K s h p ts d) (hk : (hd ts).kind ≠ 0) (hn : NF (pIf (f + 1) ts d)) : Tri Tryz.prog 37 [vP p 0] h (PSt K s p h (pIf (f + 1) ts d)) := by
  refine T37 ?_
  unfold R37
  have hp0 : h p ≠ none := PS.mem (r := (.ok ((), ts, d) : R Unit)) hP
  have he : pIf (f + 1) ts d = bindR (pairR (pCond f ts.tail d) fun ts d => pBlock f ts d) fun eb ts' d =>
      if isT ts' [101, 108, 115, 101] then
        if isT ts'.tail [105, 102] then bindR (pIf f ts'.tail d) fun s ts' d => .ok (.mk 5 [] [eb.1] eb.2 [s] (hd ts).pos, ts', d)
        else bindR (pBlock f ts'.tail d) fun b' ts' d => .ok (.mk 5 [] [eb.1] eb.2 b' (hd ts).pos, ts', d)
      else .ok (.mk 5 [] [eb.1] eb.2 [] (hd ts).pos, ts', d) := by
    rw [pIf_succ]; simp only [pairR, bindR_bind, bindR_ok]
  rw [he] at hn ⊢
  refine Tri.mono (begin_tri hP hk 5) ?_
  rintro _ h1 ⟨rfl, hc1, hP1⟩
  refine ⟨_, _, _, _, _, _, _, _, _, _, _, _, _, rfl, ?_⟩
  refine Tri.mono (cond_tri hf (.ok ((), ts.tail, d) : R Unit) h1 hP1 hn.bind.pair.bind) ?_
  rintro _ h2 ⟨a, c, rfl, hA2, hx2⟩
  refine ⟨_, _, _, rfl, ?_⟩
  rw [bindR_ok] at hx2
  refine Tri.mono (X.blk _ h2 hx2.ps hn.bind.pair) ?_
  rintro _ h3 ⟨a3, n3, c3, rfl, hA3, hx3⟩
  refine ⟨_, _, _, rfl, ?_⟩
  have hA12 := hc1.away.trans hA2
  have hA03 := hA12.trans hA3
  have hx := hx2.pair (rel3 := fun eb => At 8 (RE (plP s) 8) (only (New h) h3) a [eb.1] ∧ n3 = eb.2.length ∧ At 7 (RS (plP s) 8 7) (only (New h) h3) a3 eb.2) hx3 fun x y hx hy =>
    ⟨hx.ext (RE_mono _ _) ((only_new (hc1.away.dom (PS.mem (r := (.ok ((), ts.tail, d) : R Unit)) hP1))).trans (only_away hp0 hA3)), hy.1, hy.2.ext (RS_mono _ _ _) (only_new (hA12.dom hx2.ps.mem))⟩
  generalize (pairR (pCond f ts.tail d) fun ts d => pBlock f ts d) = r3 at *
  refine Tri.mono (accept_tri hx.ps [101, 108, 115, 101]) ?_
  rintro _ h4 ⟨rfl, hc4, hP4⟩
  refine ⟨_, rfl, br_split (fun e => ?_) (fun e => ?_)⟩
  · obtain ⟨⟨e1, b1⟩, ts4, d4, rfl, hT, hac⟩ := accB_true e
    rw [hac, takeT_else hT] at hP4
    rw [bindR_ok, if_pos hT] at hn ⊢
    obtain ⟨_, g1, g2, g3⟩ := hx
    have hA04 := hA03.trans hc4.away
    refine Tri.mono (is_tri (r := (.ok ((), ts4.tail, d4) : R Unit)) hP4 [105, 102]) ?_
    rintro _ h4 ⟨rfl, rfl⟩
    refine ⟨_, rfl, br_split (fun e2 => ?_) (fun e2 => ?_)⟩
    · have e2 : isT ts4.tail [105, 102] = true := e2
      rw [if_pos e2] at hn ⊢
      refine Tri.mono (X.iff ts4.tail d4 h4 hP4 (isT_kind e2) hn.bind) ?_
      rintro _ h5 ⟨c5, rfl, hA5, hx5⟩
      refine ⟨_, _, _, _, _, _, _, _, _, _, _, _, _, rfl, ?_⟩
      intro b hb h6 hh
      have hb0 : h b = none := (hA04.trans hA5).dom hx5.ps.mem b hb
      have hA46 : Away p h4 h6 := hA5.trans (Put.ext hh hb).away
      have hbk : only (New h) h6 b = some (.cells ⟨c5.l⟩ 56 (0, 0)) := only_some.2 ⟨hb0, Put.at hh⟩
      have hx6 := hx5.ext (rel' := fun x => RS (plP s) 8 7 (only (New h) h6) x c5.l) (Put.ext hh hb) fun x hx => hx.ext ((only_new (hA04.dom (PS.mem (r := (.ok ((), ts4.tail, d4) : R Unit)) hP4))).trans (only_away hp0 (Put.ext hh hb).away))
      refine ⟨⟨5, [], a, 1, c, a3, n3, c3, ad b 0, 1, 1, _, _⟩, rfl, hA04.trans hA46, hx6.map fun x hx => ?_⟩
      rw [g2]
      have hX := only_away hp0 (hc4.away.trans hA46)
      exact RS_mk 5 _ _ c c3 1 (g1.ext (RE_mono _ _) hX) (g3.ext (RS_mono _ _ _) hX) (At.one hbk hx)
    · have e2 : isT ts4.tail [105, 102] = false := e2
      rw [if_neg (by rw [e2]; decide)] at hn ⊢
      refine Tri.mono (X.blk (.ok ((), ts4.tail, d4) : R Unit) h4 hP4 hn.bind) ?_
      rintro _ h5 ⟨a5, n5, c5, rfl, hA5, hx5⟩
      refine ⟨_, _, _, rfl, ⟨5, [], a, 1, c, a3, n3, c3, a5, n5, c5, _, _⟩, rfl, hA04.trans hA5, hx5.map fun x hx => ?_⟩
      rw [g2, hx.1]
      have hX := only_away hp0 (hc4.away.trans hA5)
      exact RS_mk 5 _ _ c c3 c5 (g1.ext (RE_mono _ _) hX) (g3.ext (RS_mono _ _ _) hX) (hx.2.ext (RS_mono _ _ _) (only_new (hA04.dom (PS.mem (r := (.ok ((), ts4.tail, d4) : R Unit)) hP4))))
  · obtain ⟨hnt, hac⟩ := accB_false rfl e
    rw [hac] at hP4
    have he2 : (bindR r3 fun eb ts' d =>
      if isT ts' [101, 108, 115, 101] then
        if isT ts'.tail [105, 102] then bindR (pIf f ts'.tail d) fun s ts' d => (.ok (.mk 5 [] [eb.1] eb.2 [s] (hd ts).pos, ts', d) : R S)
        else bindR (pBlock f ts'.tail d) fun b' ts' d => .ok (.mk 5 [] [eb.1] eb.2 b' (hd ts).pos, ts', d)
      else .ok (.mk 5 [] [eb.1] eb.2 [] (hd ts).pos, ts', d)) = mapR (fun eb => .mk 5 [] [eb.1] eb.2 [] (hd ts).pos) r3 := by
      match r3, hnt with
      | .error x, _ => rfl
      | .ok (x, ts2, d2), hnt => rw [bindR_ok, if_neg (by rw [show isT ts2 [101, 108, 115, 101] = false from hnt]; decide)]; rfl
    rw [he2]
    refine ⟨⟨5, [], a, 1, c, a3, n3, c3, none, 0, 0, _, _⟩, rfl, hA03.trans hc4.away, ?_⟩
    have hX := only_away hp0 hc4.away
    have hx4 : PX K s h4 p r3 fun eb => At 8 (RE (plP s) 8) (only (New h) h4) a [eb.1] ∧ n3 = eb.2.length ∧ At 7 (RS (plP s) 8 7) (only (New h) h4) a3 eb.2 := by
      match r3, hx, hP4 with
      | .error x, _, hP4 => exact hP4
      | .ok (x, ts2, d2), hx, hP4 => exact ⟨hP4, hx.2.1.ext (RE_mono _ _) hX, hx.2.2.1, hx.2.2.2.ext (RS_mono _ _ _) hX⟩
    refine hx4.map fun eb hh => ?_
    rw [hh.2.1]
    exact RS_mk 5 _ _ c c3 0 hh.1 hh.2.2 At.nil
end
end Go.Proofs.D
/- Blocks and statements together. -/
namespace Go.Proofs.D
open Go Go.Den Go.Sx
set_option maxRecDepth 100000
attribute [local irreducible] IntKind.wrap Tri

section
variable {K : PK} {s : Bytes} {p : Nat}

theorem pStmts_succ (f : Nat) (l : List S) (ts : List Tok) (d : Int) : pStmts (f + 1) l ts d = if isT ts [125] then bindR (takeT [125] ts d) fun _ ts d => .ok (l, ts, d) else bindR (pStmt f ts d) fun s ts d => pStmts f (l ++ [s]) ts d := by
  conv => lhs; unfold pStmts
theorem pBlock_succ (f : Nat) (ts : List Tok) (d : Int) : pBlock (f + 1) ts d = bindR (takeT [123] ts d) fun _ ts d => pStmts f [] ts d := by
  conv => lhs; unfold pBlock

theorem SC.one (c : SC) : allOne c.l = true := rfl

theorem block_ok {f : Nat} (X : ∀ g, g ≤ f → SOk K s p g) (hf : f ≤ 5000000) {α : Type} (r : R α) (h : PHeap) (hP : PS K s h p r) (hn : NF (bindR r fun _ ts d => pBlock (f + 1) ts d)) : Tri Tryz.prog 94 [vP p 0] h (PBk K s p h (bindR r fun _ ts d => pBlock (f + 1) ts d)) := by
  refine T94 ?_
  unfold R94
  have hp0 := hP.mem
  have hI := hP.isin
  have he : (bindR r fun _ ts d => pBlock (f + 1) ts d) = bindR (bindR r fun _ ts d => takeT [123] ts d) fun _ ts d => pStmts f [] ts d := by
    simp only [bindR_bind, pBlock_succ]
  rw [he] at hn ⊢
  refine Tri.mono (take_tri hP [123]) ?_
  rintro _ h1 ⟨rfl, hc1, hP1⟩
  refine ⟨rfl, ?_⟩
  generalize (bindR r fun _ ts d => takeT [123] ts d) = r1 at *
  generalize hfin : (bindR r1 fun _ ts d => pStmts f [] ts d) = fin at *
  refine ⟨fun m a n cc h' => ∃ (r' : R (List S)) (css : List (List Value)), n + m ≤ f ∧ Away p h h' ∧ LM 56 7 h h' a n cc css ∧ PX K s h' p r' (fun l => LR (RS (plP s) 8 7) h h' a css l) ∧ (bindR r' fun l ts d => pStmts m l ts d) = fin,
    ⟨f, mapR (fun _ => []) r1, [], by omega, hc1.away, LM.nil, (PX.unit hP1).map fun _ _ => LR.nil, by rw [← hfin]; simp only [mapR, bindR_bind, bindR_ok]⟩, ?_⟩
  rintro m a n cc h2 ⟨r', css, hm, hA2, hM2, hx2, hf2⟩
  have done : ∀ {h3 : PHeap}, Chg p h2 h3 → PS K s h3 p (bindR r' fun _ ts d => takeT [125] ts d) → fin = thenR r' (fun ts d => takeT [125] ts d) → PBk K s p h fin (vL a n cc) h3 := by
    intro h3 hc3 hP3 he3
    rw [he3]
    refine ⟨a, n, cc, rfl, hA2.trans hc3.away, hx2.then hP3 fun l hl => ?_⟩
    exact ⟨by rw [← hM2.len]; exact hl.1, (hM2.away hp0 hc3.away).at (RS_mono _ _ _) (hl.away (RS_mono _ _ _) hp0 hc3.away)⟩
  obtain ⟨i, hi, hz⟩ := hx2.ps.err
  refine ⟨i, hi, br_split (fun e => ?_) (fun e => ?_)⟩
  · obtain ⟨l, ts, d, rfl⟩ := okR_true (hz.symm.trans e)
    rw [bindR_ok] at hf2
    refine Tri.mono (is_tri hx2.ps [125]) ?_
    rintro _ h2 ⟨rfl, rfl⟩
    match m, hf2, hm with
    | 0, hf2, hm => exact absurd hf2.symm hn
    | m + 1, hf2, hm =>
      rw [pStmts_succ] at hf2
      refine ⟨_, rfl, br_split (fun e2 => ?_) (fun e2 => ?_)⟩
      · have e2 : isT ts [125] = false := by simpa [isTr] using e2
        rw [if_neg (by rw [e2]; decide)] at hf2
        have hnS : NF (pStmt m ts d) := by rw [← hf2] at hn; exact hn.bind
        refine Tri.mono ((X m (by omega)).stm (.ok ((), ts, d) : R Unit) h2 hx2.1 hnS) ?_
        rintro _ h3 ⟨c3, rfl, hA3, hx3⟩
        refine ⟨_, _, _, _, _, _, _, _, _, _, _, _, _, rfl, ?_⟩
        intro b hb h4 hh4
        have hA03 := hA2.trans hA3
        have hd3 : ∀ b, h3 b = none → h b = none := hA03.dom hx3.ps.mem
        refine Raw.mono (LM.append (h0 := h) (cs := c3.l) und52 elem56 rfl rfl rfl rfl rfl (hM2.away hp0 hA3) hb hh4 rfl c3.one (by omega) hd3) ?_
        rintro _ h5 ⟨b5, cap5, rfl, hk5, hd5, hn5, hq5, hM5, hR5⟩
        refine ⟨_, _, _, rfl, m, by omega, ⟨mapR (fun x => l ++ [x]) (pStmt m ts d), _, by omega, fun k o hk ho => hk5 k o (by rw [ho]; exact fun e => by cases e) (hA03 k o hk ho), hM5, ?_, ?_⟩, trivial⟩
        · refine (hx3.stay (rel' := fun x => LR (RS (plP s) 8 7) h h5 (ad b5 0) (css ++ [c3.l]) (l ++ [x])) (hI.old hp0 hk5) fun x hx => ?_).map fun x hx => hx
          exact hR5 (RS_mono _ _ _) (hx2.2.away (RS_mono _ _ _) hp0 hA3) (hx.ext (hM2.new (hA2.dom (PS.mem (r := (.ok ((), ts, d) : R Unit)) hx2.1))))
        · rw [← hf2]; simp only [mapR, bindR_bind, bindR_ok]
      · have e2 : isT ts [125] = true := by simpa [isTr] using e2
        rw [if_pos e2] at hf2
        refine Tri.mono (take_tri hx2.ps [125]) ?_
        rintro _ h3 ⟨rfl, hc3, hP3⟩
        exact ⟨rfl, done hc3 hP3 (by rw [← hf2]; rfl)⟩
  · obtain ⟨x, rfl⟩ := okR_false (hz.symm.trans e)
    refine Tri.mono (take_tri hx2.ps [125]) ?_
    rintro _ h3 ⟨rfl, hc3, hP3⟩
    exact ⟨rfl, done hc3 hP3 hf2.symm⟩

def smapL (p q : Nat) : List (List UInt8 × Value × Nat) := [
  ([118, 97, 114], vF 36 [vP p 0] [], 0),
  ([105, 102], vF 37 [vP p 0] [], 1),
  ([119, 104, 105, 108, 101], vF 38 [vP p 0] [], 2),
  ([114, 101, 116, 117, 114, 110], vF 39 [vP p 0] [], 3),
  ([98, 114, 101, 97, 107], vF 40 [] [vP q 0], 4),
  ([99, 111, 110, 116, 105, 110, 117, 101], vF 42 [] [vP q 0], 5)]
theorem smap_ents (p q : Nat) : smap p q = ⟨ents (smapL p q)⟩ := rfl
theorem und79 : Tryz.prog.underlying 79 = some (.map 9 82) := rfl
theorem und9 : Tryz.prog.underlying 9 = some .string := rfl
theorem zero82 : zeroT Tryz.prog 82 = some .nilFunc := rfl

theorem pStmt_succ (f : Nat) (ts : List Tok) (d : Int) : pStmt (f + 1) ts d = if isK ts 1 then pNamed f ts d
    else if isT ts [118, 97, 114] then pDecl f ts d
    else if isT ts [105, 102] then pIf f ts d
    else if isT ts [119, 104, 105, 108, 101] then pWhile f ts d
    else if isT ts [114, 101, 116, 117, 114, 110] then pRet f ts d
    else if isT ts [98, 114, 101, 97, 107] then pWord 8 ts d
    else if isT ts [99, 111, 110, 116, 105, 110, 117, 101] then pWord 9 ts d
    else .error (30, (hd ts).pos) := by
  conv => lhs; unfold pStmt
  rfl

/-- A keyword that begins a statement. -/
theorem smap_get (p q : Nat) (k : List UInt8) : mapGet (smapL p q) k = if k == [118, 97, 114] then some (vF 36 [vP p 0] []) else if k == [105, 102] then some (vF 37 [vP p 0] []) else if k == [119, 104, 105, 108, 101] then some (vF 38 [vP p 0] [])
    else if k == [114, 101, 116, 117, 114, 110] then some (vF 39 [vP p 0] []) else if k == [98, 114, 101, 97, 107] then some (vF 40 [] [vP q 0]) else if k == [99, 111, 110, 116, 105, 110, 117, 101] then some (vF 42 [] [vP q 0]) else none := by
  simp only [smapL, mapGet_cons]; rfl

theorem isT_key {ts : List Tok} (h4 : isK ts 4 = true) (t : Bytes) : isT ts t = ((hd ts).text == t) := by
  have : (hd ts).kind = 4 := by simpa [isK] using h4
  simp [isT, this]

theorem stmt_ok {f : Nat} (X : ∀ g, g ≤ f → SOk K s p g) (hf : f ≤ 5000000) {α : Type} (r : R α) (h : PHeap) (hP : PS K s h p r) (hn : NF (bindR r fun _ ts d => pStmt (f + 1) ts d)) : Tri Tryz.prog 141 [vP p 0] h (PSt K s p h (bindR r fun _ ts d => pStmt (f + 1) ts d)) := by
  refine T141 ?_
  unfold R141
  refine Tri.mono (isKind_tri hP 1) ?_
  rintro _ h ⟨rfl, rfl⟩
  have pass : ∀ {r' : R S} {v : Value} {h1 : PHeap}, PSt K s p h r' v h1 → ∃ (Kind2 : Int) (Name2 : List UInt8) (Argsa2 : Option Addr) (Argsn2 Argsc2 : Nat) (Bodya2 : Option Addr) (Bodyn2 Bodyc2 : Nat) (Elsea2 : Option Addr) (Elsen2 Elsec2 : Nat) (Line2 Column2 : Int), v = vA [vI Kind2, vS Name2, vL Argsa2 Argsn2 Argsc2, vL Bodya2 Bodyn2 Bodyc2, vL Elsea2 Elsen2 Elsec2, vI Line2, vI Column2] ∧
        PSt K s p h r' (vA [vI Kind2, vS Name2, vL Argsa2 Argsn2 Argsc2, vL Bodya2 Bodyn2 Bodyc2, vL Elsea2 Elsen2 Elsec2, vI Line2, vI Column2]) h1 := by
    rintro r' v h1 hE
    have hE' := hE
    obtain ⟨c, rfl, _⟩ := hE
    exact ⟨_, _, _, _, _, _, _, _, _, _, _, _, _, rfl, hE'⟩
  have bad : ∀ {h2 : PHeap}, PS K s h2 p (failR r 30 : R S) → Chg p h h2 → (bindR r fun _ ts d => pStmt (f + 1) ts d) = failR r 30 → PSt K s p h (bindR r fun _ ts d => pStmt (f + 1) ts d) (vA [vI 0, vS [], vL none 0 0, vL none 0 0, vL none 0 0, vI 0, vI 0]) h2 := by
    intro h2 hP2 hc2 he
    rw [he]
    refine ⟨⟨0, [], none, 0, 0, none, 0, 0, none, 0, 0, 0, 0⟩, rfl, hc2.away, ?_⟩
    match r, hP2 with
    | .error x, hP2 => exact hP2
    | .ok (x, ts, d), hP2 => exact hP2
  refine ⟨_, rfl, br_split (fun e => ?_) (fun e => ?_)⟩
  · obtain ⟨x, ts, d, rfl, k1⟩ := isKr_ok e
    have he : (bindR (.ok (x, ts, d) : R α) fun _ ts d => pStmt (f + 1) ts d) = pNamed f ts d := by rw [bindR_ok, pStmt_succ, if_pos k1]
    rw [he] at hn ⊢
    match f, hf, X, hn with
    | 0, _, _, hn => exact absurd (by unfold pNamed; rfl) hn
    | f + 1, hf, X, hn =>
      exact Tri.mono (named_ok (by omega) hP k1 hn) fun v h1 hE => pass hE
  refine Tri.mono (isKind_tri hP 4) ?_
  rintro _ h ⟨rfl, rfl⟩
  refine ⟨_, rfl, br_split (fun e2 => ?_) (fun e2 => ?_)⟩
  · obtain ⟨x, ts, d, rfl, k4⟩ := isKr_ok e2
    have k1 : isK ts 1 = false := e
    have hk : (hd ts).kind ≠ 0 := by simp [isK] at k4; omega
    obtain ⟨⟨o, c', l', k', hp, hT, hc, hM, hq⟩, hI, hend, hlo, hhi, hl2, hwf⟩ := id (show POk K s h p ts d from hP)
    refine ⟨_, PB_cell hp 2, _, _, _, PB_cell hp 0, K.tok, o, rfl, ⟨Int.le_refl _, len_pos hend⟩, _, (POk.row hT hend).2.1, ?_⟩
    rw [smap_ents] at hM
    refine Raw.mono (raw_lookupS und79 und9 zero82 rfl rfl hM) ?_
    rintro _ h ⟨rfl, rfl⟩
    refine ⟨_, _, rfl, PB_cell hp 0, ?_⟩
    rw [smap_get]
    have he : (bindR (.ok (x, ts, d) : R α) fun _ ts d => pStmt (f + 1) ts d) = if (hd ts).text == [118, 97, 114] then pDecl f ts d
      else if (hd ts).text == [105, 102] then pIf f ts d
      else if (hd ts).text == [119, 104, 105, 108, 101] then pWhile f ts d
      else if (hd ts).text == [114, 101, 116, 117, 114, 110] then pRet f ts d
      else if (hd ts).text == [98, 114, 101, 97, 107] then pWord 8 ts d
      else if (hd ts).text == [99, 111, 110, 116, 105, 110, 117, 101] then pWord 9 ts d
      else .error (30, (hd ts).pos) := by
      rw [bindR_ok, pStmt_succ, if_neg (by rw [k1]; decide), isT_key k4, isT_key k4, isT_key k4, isT_key k4, isT_key k4, isT_key k4]
    cases t1 : (hd ts).text == [118, 97, 114] with
    | true =>
      simp only [t1, Bool.false_eq_true, if_true, if_false] at he hn ⊢
      rw [he] at hn ⊢
      refine br_pos rfl ⟨36, [vP p 0], [], rfl, ?_⟩
      exact Tri.mono (decl_tri hf hP hk hn) fun v h1 hE => pass hE
    | false =>
    cases t2 : (hd ts).text == [105, 102] with
    | true =>
      simp only [t1, t2, Bool.false_eq_true, if_true, if_false] at he hn ⊢
      rw [he] at hn ⊢
      refine br_pos rfl ⟨37, [vP p 0], [], rfl, ?_⟩
      exact Tri.mono ((X f (Nat.le_refl _)).iff ts d h hP hk hn) fun v h1 hE => pass hE
    | false =>
    cases t3 : (hd ts).text == [119, 104, 105, 108, 101] with
    | true =>
      simp only [t1, t2, t3, Bool.false_eq_true, if_true, if_false] at he hn ⊢
      rw [he] at hn ⊢
      refine br_pos rfl ⟨38, [vP p 0], [], rfl, ?_⟩
      exact Tri.mono (while_tri hf (X f (Nat.le_refl _)) hP hk hn) fun v h1 hE => pass hE
    | false =>
    cases t4 : (hd ts).text == [114, 101, 116, 117, 114, 110] with
    | true =>
      simp only [t1, t2, t3, t4, Bool.false_eq_true, if_true, if_false] at he hn ⊢
      rw [he] at hn ⊢
      refine br_pos rfl ⟨39, [vP p 0], [], rfl, ?_⟩
      exact Tri.mono (ret_tri hf hP hk hn) fun v h1 hE => pass hE
    | false =>
    cases t5 : (hd ts).text == [98, 114, 101, 97, 107] with
    | true =>
      simp only [t1, t2, t3, t4, t5, Bool.false_eq_true, if_true, if_false] at he hn ⊢
      rw [he] at hn ⊢
      refine br_pos rfl ⟨40, [], [vP K.box 0], rfl, ?_⟩
      exact Tri.mono (word8_tri hP hk) fun v h1 hE => pass hE
    | false =>
    cases t6 : (hd ts).text == [99, 111, 110, 116, 105, 110, 117, 101] with
    | true =>
      simp only [t1, t2, t3, t4, t5, t6, Bool.false_eq_true, if_true, if_false] at he hn ⊢
      rw [he] at hn ⊢
      refine br_pos rfl ⟨42, [], [vP K.box 0], rfl, ?_⟩
      exact Tri.mono (word9_tri hP hk) fun v h1 hE => pass hE
    | false =>
      simp only [t1, t2, t3, t4, t5, t6, Bool.false_eq_true, if_false] at he ⊢
      refine br_neg rfl ?_
      refine Tri.mono (fail_tri (β := S) hP 30 (by decide)) ?_
      rintro _ h2 ⟨rfl, hc2, hP2⟩
      exact ⟨rfl, bad hP2 hc2 he⟩
  · refine Tri.mono (fail_tri (β := S) hP 30 (by decide)) ?_
    rintro _ h2 ⟨rfl, hc2, hP2⟩
    refine ⟨rfl, bad hP2 hc2 ?_⟩
    match r, e, e2, hP with
    | .error x, _, _, _ => rfl
    | .ok (x, ts, d), e, e2, hP0 =>
      have k1 : isK ts 1 = false := e
      have k4 : isK ts 4 = false := e2
      have hwf : (hd ts).kind = 5 → words.contains (hd ts).text = false := POk.wf hP0 _ (by rw [(POk.ended hP0).cons]; exact List.mem_cons_self)
      have hT : ∀ t : Bytes, words.contains t = true → ¬ isT ts t = true := fun t ht hi => by
        have k4 : ((hd ts).kind == 4) = false := k4
        simp only [isT, k4, Bool.false_or, Bool.and_eq_true, beq_iff_eq] at hi
        have := hwf hi.1
        rw [hi.2, ht] at this; cases this
      rw [bindR_ok, pStmt_succ, if_neg (by rw [k1]; decide), if_neg (hT _ rfl), if_neg (hT _ rfl), if_neg (hT _ rfl), if_neg (hT _ rfl), if_neg (hT _ rfl), if_neg (hT _ rfl)]
      rfl

theorem block_err {e : Nat × Nat} {h : PHeap} (hP : PErr K s h p e) : Tri Tryz.prog 94 [vP p 0] h (PBk K s p h (.error e)) := by
  refine T94 ?_
  unfold R94
  refine Tri.mono (take_tri (r := (.error e : R Unit)) hP [123]) ?_
  rintro _ h1 ⟨rfl, hc1, hP1⟩
  refine ⟨rfl, fun m a n cc h' => h' = h1, ⟨0, rfl⟩, ?_⟩
  rintro m a n cc h1 rfl
  obtain ⟨i, hi, hz⟩ := hP1.err
  refine ⟨i, hi, br_neg hz ?_⟩
  refine Tri.mono (take_tri hP1 [125]) ?_
  rintro _ h3 ⟨rfl, hc3, hP3⟩
  exact ⟨rfl, a, n, cc, rfl, hc1.away.trans hc3.away, hP3⟩

theorem stmt_err {e : Nat × Nat} {h : PHeap} (hP : PErr K s h p e) : Tri Tryz.prog 141 [vP p 0] h (PSt K s p h (.error e)) := by
  refine T141 ?_
  unfold R141
  refine Tri.mono (isKind_tri (r := (.error e : R Unit)) hP 1) ?_
  rintro _ h ⟨rfl, rfl⟩
  refine ⟨_, rfl, br_neg rfl ?_⟩
  refine Tri.mono (isKind_tri (r := (.error e : R Unit)) hP 4) ?_
  rintro _ h ⟨rfl, rfl⟩
  refine ⟨_, rfl, br_neg rfl ?_⟩
  refine Tri.mono (fail_tri (β := S) (r := (.error e : R Unit)) hP 30 (by decide)) ?_
  rintro _ h2 ⟨rfl, hc2, hP2⟩
  exact ⟨rfl, ⟨0, [], none, 0, 0, none, 0, 0, none, 0, 0, 0, 0⟩, rfl, hc2.away, hP2⟩

theorem sok (f : Nat) (hf : f ≤ 5000000) : SOk K s p f := by
  induction f using Nat.strongRecOn with
  | _ f ih =>
    match f, ih, hf with
    | 0, _, _ =>
      refine ⟨fun r h hP hn => ?_, fun r h hP hn => ?_, fun ts d h hP h1 hn => ?_⟩
      · obtain ⟨e, rfl⟩ := fuel_err (fun _ _ _ => by unfold pBlock; rfl) hn
        exact block_err hP
      · obtain ⟨e, rfl⟩ := fuel_err (fun _ _ _ => by unfold pStmt; rfl) hn
        exact stmt_err hP
      · exact absurd (by unfold pIf; rfl) hn
    | f + 1, ih, hf =>
      have X : ∀ g, g ≤ f → SOk K s p g := fun g hg => ih g (by omega) (by omega)
      exact ⟨fun r h hP hn => block_ok X (by omega) r h hP hn, fun r h hP hn => stmt_ok X (by omega) r h hP hn, fun ts d h hP hk hn => if_ok (by omega) (X f (Nat.le_refl _)) ts d h hP hk hn⟩
end
end Go.Proofs.D
