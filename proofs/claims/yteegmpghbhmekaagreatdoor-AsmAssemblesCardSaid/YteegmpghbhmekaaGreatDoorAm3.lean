import Derived.Test.YteegmpghbhmekaaGreatDoorAm2
import Derived.Test.YteegmpghbhmekaaGreatDoorProg
import Derived.IntWalk
namespace Go.Proofs.D
open Go Go.Den
theorem mixed : Tryz.prog.follows .mixedOrders = true := by kernel_rfl
end Go.Proofs.D
namespace Go.Proofs.D
open Go Go.Den
set_option maxRecDepth 100000
theorem br_pos {c : Bool} {X Y : Prop} (h : c = true) (x : X) : br c X Y := by subst h; exact x
theorem br_neg {c : Bool} {X Y : Prop} (h : c = false) (y : Y) : br c X Y := by subst h; exact y
theorem put_same (h : PHeap) (b : Nat) (o : Obj) : (h.put b o) b = some o := if_pos rfl
theorem put_ne {h : PHeap} {k b : Nat} {o : Obj} (hk : k ≠ b) : (h.put b o) k = h k := if_neg hk
theorem put_put (h : PHeap) (b : Nat) (o o' : Obj) : (h.put b o).put b o' = h.put b o' := by
 funext k; simp only [PHeap.put]; split <;> rfl
theorem cell_of {h : PHeap} {b : Nat} {l : List Value} {t : TypeId} {z : Nat × Nat} (hb : h b = some (.cells ⟨l⟩ t z)) (o : Nat) : h.cell b o = l[o]? := by
 simp [PHeap.cell, hb]
theorem cell_eq {h h' : PHeap} {b : Nat} (e : h' b = h b) (o : Nat) : h'.cell b o = h.cell b o := by simp only [PHeap.cell, e]
theorem row_get {h : PHeap} {b : Nat} : ∀ {l : List Value} {o j : Nat} {v : Value}, h.row b o l → l[j]? = some v → h.cell b (o + j) = some v
 | [], _, _, _, _, hj => by simp at hj
 | [w], o, 0, v, hr, hj => by simp at hj; subst hj; exact hr
 | [w], o, j + 1, v, hr, hj => by simp at hj
 | w :: x :: l, o, 0, v, hr, hj => by simp at hj; subst hj; exact hr.1
 | w :: x :: l, o, j + 1, v, hr, hj => by
   have := row_get (l := x :: l) (j := j) hr.2 (by simpa using hj)
   rw [show o + (j + 1) = o + 1 + j by omega]; exact this
theorem row_lit {h : PHeap} {b : Nat} {l : List Value} {t : TypeId} {z : Nat × Nat} (hb : h b = some (.cells ⟨l⟩ t z)) {o : Nat} {vs : List Value} (hv : ∀ j v, vs[j]? = some v → l[o + j]? = some v) : h.row b o vs :=
 Go.Den.row_of vs o fun j v hj => by rw [cell_of hb]; exact hv j v hj
def Ext (h h' : PHeap) : Prop := ∀ k o, h k = some o → h' k = some o
def Away (p : Nat) (h h' : PHeap) : Prop := ∀ k o, k ≠ p → h k = some o → h' k = some o
def Chg (p : Nat) (h h' : PHeap) : Prop := ∀ k, k ≠ p → h' k = h k
theorem Ext.refl (h : PHeap) : Ext h h := fun _ _ x => x
theorem Ext.trans {a b c : PHeap} (x : Ext a b) (y : Ext b c) : Ext a c := fun k o z => y k o (x k o z)
theorem Ext.put {h : PHeap} {b : Nat} (hb : h b = none) (o : Obj) : Ext h (h.put b o) := fun k o' hk => by
 have : k ≠ b := fun e => by subst e; rw [hb] at hk; cases hk
 rw [put_ne this]; exact hk
theorem Ext.dom {h h' : PHeap} (x : Ext h h') : ∀ k, h' k = none → h k = none := fun k hk => by
 cases e : h k with
 | none => rfl
 | some o => rw [x _ _ e] at hk; cases hk
theorem Away.refl (p : Nat) (h : PHeap) : Away p h h := fun _ _ _ x => x
theorem Away.trans {p : Nat} {a b c : PHeap} (x : Away p a b) (y : Away p b c) : Away p a c := fun k o hk z => y k o hk (x k o hk z)
theorem Chg.refl (p : Nat) (h : PHeap) : Chg p h h := fun _ _ => rfl
theorem Chg.trans {p : Nat} {a b c : PHeap} (x : Chg p a b) (y : Chg p b c) : Chg p a c := fun k hk => (y k hk).trans (x k hk)
theorem Chg.put (p : Nat) (h : PHeap) (o : Obj) : Chg p h (h.put p o) := fun _ hk => put_ne hk
theorem cell_ext {h h' : PHeap} {b o : Nat} {v : Value} (x : ∀ ob, h b = some ob → h' b = some ob) (hc : h.cell b o = some v) : h'.cell b o = some v := by
 unfold PHeap.cell at hc
 split at hc
 · rename_i c t z hb
   simp only [PHeap.cell, x _ hb]; exact hc
 · cases hc
theorem row_ext {h h' : PHeap} {b : Nat} (x : ∀ ob, h b = some ob → h' b = some ob) : ∀ {l : List Value} {o : Nat}, h.row b o l → h'.row b o l
 | [], _, _ => trivial
 | [v], o, hr => cell_ext x hr
 | v :: w :: l, o, hr => ⟨cell_ext x hr.1, row_ext x (l := w :: l) hr.2⟩
open Classical in
noncomputable def only (D : Nat → Prop) (h : PHeap) : PHeap := fun k => if D k then h k else none
def New (h0 : PHeap) (k : Nat) : Prop := h0 k = none
theorem only_some {D : Nat → Prop} {h : PHeap} {k : Nat} {o : Obj} : only D h k = some o ↔ D k ∧ h k = some o := by
 unfold only; split
 · rename_i hd; exact ⟨fun x => ⟨hd, x⟩, fun x => x.2⟩
 · rename_i hd; exact ⟨(fun x => by cases x), fun x => absurd x.1 hd⟩
theorem only_ext {D D' : Nat → Prop} {h h' : PHeap} (x : ∀ k o, D k → h k = some o → D' k ∧ h' k = some o) : Ext (only D h) (only D' h') := fun k o hk => by
 rw [only_some] at hk ⊢; exact x k o hk.1 hk.2
theorem Put.ext {h h1 : PHeap} {b : Nat} {o : Obj} (e : h1 = h.put b o) (hb : h b = none) : Ext h h1 := e ▸ Ext.put hb o
theorem Put.at {h h1 : PHeap} {b : Nat} {o : Obj} (e : h1 = h.put b o) : h1 b = some o := e ▸ put_same h b o
theorem Away.dom {p : Nat} {h h' : PHeap} (x : Away p h h') (hp : h' p ≠ none) : ∀ k, h' k = none → h k = none := fun k hk => by
 cases e : h k with
 | none => rfl
 | some o =>
   have : k ≠ p := fun e => by subst e; exact hp hk
   rw [x k o this e] at hk; cases hk
theorem wrap64 {n : Int} (h1 : -9223372036854775808 ≤ n) (h2 : n ≤ 9223372036854775807) : IntKind.i64.wrap n = n := Go.IntWalk.i64_in n ⟨h1, h2⟩
attribute [local irreducible] IntKind.wrap Tri
def ElemT (e k : Nat) : Prop := ∃ i z, Tryz.prog.info? e = some i ∧ i.zero = some z ∧ z.cells.size = k ∧ i.size = k ∧ i.bytes ≤ 200
theorem append_one {h : PHeap} {e t ty : TypeId} {k : Nat} (hu : Tryz.prog.underlying t = some (.slice e)) (he : ElemT e k) {ρ : Operand → Value} {c : Call} {x y : Operand} (hc : c.callee = .builtin .append) (ha : c.args = #[x, y]) (hts : c.argTypes = #[t, t])
 {a : Option Addr} {n cp b2 : Nat} {xs ys : List Value} (hx : ρ x = vL a n cp) (hy : ρ y = vL (ad b2 0) 1 1) (ho : Own h e k (vL a n cp) n xs) (hb2 : h b2 = some (.cells ⟨ys⟩ e (0, 0))) (hl : ys.length = k) (h1 : allOne ys = true) (hn : n ≤ 10000000) :
 Raw Tryz.prog (execOp ρ (mkO (.call c) ty)) h fun v h' => ∃ b cap, v = vL (ad b 0) (n + 1) cap ∧ Own h' e k (vL (ad b 0) (n + 1) cap) (n + 1) (xs ++ ys) ∧ (h b = none ∨ a = ad b 0) ∧ Chg b h h' := by
 obtain ⟨i, z, hi, hz, hzc, hk, hby⟩ := he
 subst hk
 have hsrc : SrcH Tryz.prog h i.size t (vL (ad b2 0) 1 1) 1 ys := SrcH.row hu (by omega) (row_lit hb2 fun j v hj => by simpa using hj) h1
 have hbig : (16 * (n + 1) + 16384) * i.bytes ≤ 281474976710656 := by
  have : (16 * (n + 1) + 16384) * i.bytes ≤ (16 * (n + 1) + 16384) * 200 := Nat.mul_le_mul_left _ hby
  omega
 refine Raw.mono (raw_append hc ha hts hu hi hz hx hy ho hsrc hzc (by omega) hbig (by omega)) ?_
 rintro v h' ⟨b, cap, rest, rfl, rfl, hr, hcap, hb⟩
 have hxl := ho.1
 refine ⟨b, cap, rfl, ⟨?_, .inr ⟨b, cap, rest, rfl, put_same _ _ _, hr, hcap⟩⟩, ?_, Chg.put _ _ _⟩
 · rw [List.length_append, hxl, hl, Nat.add_mul]; omega
 · rcases hb with hb | ⟨c2, hb⟩
   · exact .inl hb
   · injection hb with h1 h2 h3; exact .inr h1
structure LM (e k : Nat) (h0 h : PHeap) (a : Option Addr) (n c : Nat) (css : List (List Value)) : Prop where
 own : ∀ b, a = ad b 0 → h0 b = none ∧ h b ≠ none
 len : css.length = n
 each : ∀ (j : Nat) (cs : List Value), css[j]? = some cs → cs.length = k
 row : Own h e k (vL a n c) n css.flatten
 emp : n = 0 → a = none ∧ c = 0
def LR {α : Type} (rel : PHeap → α → List Value → Prop) (h0 h : PHeap) (a : Option Addr) (css : List (List Value)) (xs : List α) : Prop :=
 css.length = xs.length ∧ ∀ (j : Nat) (x : α) (cs : List Value), xs[j]? = some x → css[j]? = some cs → rel (only (fun b => New h0 b ∧ a ≠ ad b 0) h) x cs
def At {α : Type} (k : Nat) (rel : PHeap → α → List Value → Prop) (h : PHeap) (a : Option Addr) (xs : List α) : Prop :=
 xs = [] ∨ ∃ b o, a = ad b o ∧ ∀ (j : Nat) (x : α), xs[j]? = some x → ∃ cs, h.row b (o + j * k) cs ∧ rel h x cs
structure Mono {α : Type} (rel : PHeap → α → List Value → Prop) : Prop where
 ap : ∀ {h h' : PHeap} {x : α} {cs : List Value}, Ext h h' → rel h x cs → rel h' x cs
section
variable {α : Type} {e k : Nat} {rel : PHeap → α → List Value → Prop} {h0 h h' : PHeap} {a : Option Addr} {n c : Nat} {xs : List α}
theorem At.ext (hm : Mono rel) (x : Ext h h') (ha : At k rel h a xs) : At k rel h' a xs := by
 rcases ha with ha | ⟨b, o, ha, hj⟩
 · exact .inl ha
 · exact .inr ⟨b, o, ha, fun j y hy => let ⟨cs, h1, h2⟩ := hj j y hy; ⟨cs, row_ext (fun ob => x b ob) h1, hm.ap x h2⟩⟩
theorem LM.nil : LM e k h0 h none 0 0 [] :=
 ⟨(fun b hb => by cases hb), rfl, (fun j cs hj => by simp at hj), ⟨by simp, .inl ⟨rfl, rfl⟩⟩, fun _ => ⟨rfl, rfl⟩⟩
theorem LR.nil : LR rel h0 h none [] ([] : List α) := ⟨rfl, fun j x cs hx => by simp at hx⟩
theorem Own.keep {xs : List Value} (hb : ∀ b, a = ad b 0 → h' b = h b) (ho : Own h e k (vL a n c) n xs) : Own h' e k (vL a n c) n xs := by
 refine ⟨ho.1, ?_⟩
 rcases ho.2 with h1 | ⟨b', cap, rest, h1, h2, h3, h4⟩
 · exact .inl h1
 · injection h1 with e1 e2 e3
   subst e3
   exact .inr ⟨b', c, rest, by rw [e1], by rw [hb b' e1]; exact h2, h3, h4⟩
variable {css : List (List Value)}
theorem LM.ext (x : Ext h h') (hL : LM e k h0 h a n c css) : LM e k h0 h' a n c css := by
 obtain ⟨h2, h3, h4, h5, h6⟩ := hL
 have hk : ∀ b, a = ad b 0 → h' b = h b := fun b hb => by
  obtain ⟨g1, g2⟩ := h2 b hb
  cases e : h b with
  | none => exact absurd e g2
  | some o => exact x b o e
 exact ⟨fun b hb => ⟨(h2 b hb).1, by rw [hk b hb]; exact (h2 b hb).2⟩, h3, h4, Own.keep hk h5, h6⟩
theorem LR.ext (hm : Mono rel) (x : Ext h h') (hL : LR rel h0 h a css xs) : LR rel h0 h' a css xs :=
 ⟨hL.1, fun j y cs hy hc => hm.ap (only_ext fun k o hn hk => ⟨hn, x k o hk⟩) (hL.2 j y cs hy hc)⟩
def okN (a : Option Addr) (n c : Nat) : Prop := n ≤ c ∧ (n = 0 → a = none ∧ c = 0)
theorem LM.okN (hL : LM e k h0 h a n c css) : okN a n c := by
 refine ⟨?_, hL.emp⟩
 rcases hL.row.2 with ⟨_, h1⟩ | ⟨_, _, _, h1, _, _, h2⟩
 · omega
 · injection h1 with _ _ h1; omega
theorem LM.new (hL : LM e k h0 h a n c css) (hd : ∀ b, h b = none → h0 b = none) : Ext (only (New h) h') (only (fun b => New h0 b ∧ a ≠ ad b 0) h') :=
 only_ext fun b o hn hk => ⟨⟨hd b hn, fun e => (hL.own b e).2 hn⟩, hk⟩
theorem flatten_row {k : Nat} : ∀ {css : List (List Value)} {j : Nat} {cs : List Value}, (∀ (i : Nat) (c : List Value), css[i]? = some c → c.length = k) → css[j]? = some cs → ∀ (i : Nat) (v : Value), cs[i]? = some v → css.flatten[j * k + i]? = some v
 | [], j, cs, _, hj, _, _, _ => by simp at hj
 | c :: css, 0, cs, hl, hj, i, v, hv => by
   simp at hj; subst hj
   have : i < c.length := (List.getElem?_eq_some_iff.1 hv).1
   simp [List.getElem?_append_left this, hv]
 | c :: css, j + 1, cs, hl, hj, i, v, hv => by
   have h0 := hl 0 c rfl
   have := flatten_row (k := k) (css := css) (j := j) (cs := cs) (fun i c hc => hl (i + 1) c (by simpa using hc)) (by simpa using hj) i v hv
   rw [List.flatten_cons, List.getElem?_append_right (by rw [h0, Nat.add_mul]; omega), h0, Nat.add_mul, show j * k + 1 * k + i - k = j * k + i by omega]
   exact this
theorem LM.at (hm : Mono rel) (hM : LM e k h0 h a n c css) (hL : LR rel h0 h a css xs) : At k rel (only (New h0) h) a xs := by
 obtain ⟨h2, h3, h4, h5, _⟩ := hM
 obtain ⟨g0, h6⟩ := hL
 rcases h5.2 with ⟨g1, g2⟩ | ⟨b, cap, rest, g1, g2, g3, g4⟩
 · left; exact List.eq_nil_of_length_eq_zero (by omega)
 · injection g1 with g1 _ _
   right
   refine ⟨b, 0, g1, fun j x hx => ?_⟩
   have hj : j < css.length := by rw [g0]; exact (List.getElem?_eq_some_iff.1 hx).1
   have hcs : css[j]? = some css[j] := List.getElem?_eq_getElem hj
   refine ⟨css[j], ?_, hm.ap (only_ext fun b o hn hk => ⟨hn.1, hk⟩) (h6 j x _ hx hcs)⟩
   have hbk : only (New h0) h b = some (.cells ⟨css.flatten ++ rest⟩ e (0, 0)) := only_some.2 ⟨(h2 b g1).1, g2⟩
   refine row_lit hbk fun i v hv => ?_
   have hfl := flatten_row (k := k) h4 hcs i v hv
   rw [Nat.zero_add, List.getElem?_append_left (List.getElem?_eq_some_iff.1 hfl).1]
   exact hfl
theorem LM.append {t ty : TypeId} (hu : Tryz.prog.underlying t = some (.slice e)) (he : ElemT e k) {ρ : Operand → Value} {cl : Call} {x y : Operand} (hcl : cl.callee = .builtin .append) (hca : cl.args = #[x, y]) (hts : cl.argTypes = #[t, t])
 {b2 : Nat} {cs : List Value} (hx : ρ x = vL a n c) (hy : ρ y = vL (ad b2 0) 1 1) (hL : LM e k h0 h a n c css) (hb2 : h b2 = none) (hh : h' = h.put b2 (.cells ⟨cs⟩ e (0, 0))) (hl : cs.length = k) (h1 : allOne cs = true) (hn : n ≤ 10000000)
 (hd : ∀ b, h b = none → h0 b = none) :
 Raw Tryz.prog (execOp ρ (mkO (.call cl) ty)) h' fun w h2 => ∃ b cap, w = vL (ad b 0) (n + 1) cap ∧ (∀ q o, h0 q ≠ none → h q = some o → h2 q = some o) ∧ (∀ q, h2 q = none → h q = none) ∧ h0 b = none ∧ (∀ q o, ad b 0 ≠ ad q 0 → h q = some o → h2 q = some o) ∧
  LM e k h0 h2 (ad b 0) (n + 1) cap (css ++ [cs]) ∧ ∀ {α : Type} {rel : PHeap → α → List Value → Prop} {xs : List α} {v : α}, Mono rel → LR rel h0 h a css xs → rel (only (fun b => New h0 b ∧ a ≠ ad b 0) h) v cs → LR rel h0 h2 (ad b 0) (css ++ [cs]) (xs ++ [v]) := by
 have hL' := hL.ext (Put.ext hh hb2)
 obtain ⟨g2, g3, g4, g5, _⟩ := hL'
 refine Raw.mono (append_one hu he hcl hca hts hx hy g5 (Put.at hh) hl h1 hn) ?_
 rintro w h2 ⟨b, cap, rfl, ho, hb, hc⟩
 have hbh : h' b ≠ none → a = ad b 0 := fun hne => hb.resolve_left hne
 have hb0 : h0 b = none := by
  rcases hb with hb | hb
  · refine hd b ?_
    cases e : h b with
    | none => rfl
    | some o => rw [Put.ext hh hb2 b o e] at hb; cases hb
  · exact (g2 b hb).1
 have hown : h2 b ≠ none := by
  rcases ho.2 with ⟨g, _⟩ | ⟨b', c', rest, g, g', _⟩
  · cases g
  · injection g with g; injection g with g; injection g with g; subst g; rw [g']; exact fun e => by cases e
 have hq : ∀ q o, q ≠ b → h q = some o → h2 q = some o := fun q o e hqo => by rw [hc q e]; exact Put.ext hh hb2 q o hqo
 refine ⟨b, cap, rfl, fun q o hq0 hqo => hq q o (fun e => by subst e; exact hq0 hb0) hqo, fun q hqn => ?_, hb0, fun q o e hqo => hq q o (fun e' => by subst e'; exact e rfl) hqo, ⟨fun q hq => ?_, by simp [g3], fun j cs' hj => ?_, by simpa using ho, fun e => absurd e (Nat.succ_ne_zero _)⟩, fun {α rel xs v} hm hR hrel => ⟨by simp [hR.1], fun j x cs' hx hcs => ?_⟩⟩
 · by_cases e : q = b
   · subst e; exact absurd hqn hown
   · cases e2 : h q with
     | none => rfl
     | some o => rw [hq q o e e2] at hqn; cases hqn
 · injection hq with hq; injection hq with hq; subst hq
   exact ⟨hb0, hown⟩
 · by_cases hj' : j < css.length
   · rw [List.getElem?_append_left hj'] at hj; exact g4 j cs' hj
   · have : j = css.length := by
      have := (List.getElem?_eq_some_iff.1 hj).1
      simp at this; omega
     subst this
     have e2 : cs' = cs := by simpa using hj.symm
     subst e2; exact hl
 · have hold : Ext (only (fun b => New h0 b ∧ a ≠ ad b 0) h) (only (fun q => New h0 q ∧ ad b 0 ≠ ad q 0) h2) := only_ext fun q o hq' hqo => by
    have hqb : q ≠ b := fun e => by
     subst e
     exact hq'.2 (hbh (by rw [Put.ext hh hb2 q o hqo]; exact fun e => by cases e))
    exact ⟨⟨hq'.1, fun e => hqb (by injection e with e; injection e with e; exact e.symm)⟩, hq q o hqb hqo⟩
   by_cases hj : j < xs.length
   · rw [List.getElem?_append_left hj] at hx
     rw [List.getElem?_append_left (by rw [hR.1]; exact hj)] at hcs
     exact hm.ap hold (hR.2 j x cs' hx hcs)
   · have : j = xs.length := by
      have := (List.getElem?_eq_some_iff.1 hx).1
      simp at this; omega
     subst this
     have e1 : x = v := by simpa using hx.symm
     have e2 : cs' = cs := by rw [← hR.1] at hcs; simpa using hcs.symm
     subst e1; subst e2
     exact hm.ap hold hrel
end
end Go.Proofs.D
namespace Go.Proofs.D
open Go Go.Den
set_option maxRecDepth 100000
set_option maxHeartbeats 4000000
noncomputable def d49 : DCode := up ⟨[], [], []⟩ (low Tryz.prog (fun _ => false) (Tryz.f49.body.getD .skip))
theorem low49 : low Tryz.prog (fun _ => false) (Tryz.f49.body.getD .skip) = some (eC d49) := by kernel_rfl
def R49 (i1 : Int) (h : PHeap) (Q : Value → PHeap → Prop) : Prop :=
 br (decide (i1 ≥ 97))
 (br (decide (i1 ≤ 122))
 (Q (vB true) h)
 (br (decide (i1 ≥ 65))
 (Q (vB (decide (i1 ≤ 90))) h)
 (Q (vB false) h)))
 (br (decide (i1 ≥ 65))
 (Q (vB (decide (i1 ≤ 90))) h)
 (Q (vB false) h))
theorem T49 {i1 : Int} {h : PHeap} {Q : Value → PHeap → Prop} (hR : R49 i1 h Q) : Tri Tryz.prog 49 [vU i1] h Q :=
 tri_of_dn mixed Tryz.func49 rfl (by kernel_rfl) low49 (rs := [.tmp 2]) (by kernel_rfl) rfl (Eq.mpr (by kernel_rfl : dnF Tryz.prog Tryz.f49.ntmps d49 [.tmp 2] [vU i1] h Q = R49 i1 h Q) hR)
noncomputable def d53 : DCode := up ⟨[], [], []⟩ (low Tryz.prog (fun _ => false) (Tryz.f53.body.getD .skip))
theorem low53 : low Tryz.prog (fun _ => false) (Tryz.f53.body.getD .skip) = some (eC d53) := by kernel_rfl
def R53 (i1 : Int) (h : PHeap) (Q : Value → PHeap → Prop) : Prop :=
 br (decide (i1 ≥ 48))
 (Q (vB (decide (i1 ≤ 57))) h)
 (Q (vB false) h)
theorem T53 {i1 : Int} {h : PHeap} {Q : Value → PHeap → Prop} (hR : R53 i1 h Q) : Tri Tryz.prog 53 [vU i1] h Q :=
 tri_of_dn mixed Tryz.func53 rfl (by kernel_rfl) low53 (rs := [.tmp 2]) (by kernel_rfl) rfl (Eq.mpr (by kernel_rfl : dnF Tryz.prog Tryz.f53.ntmps d53 [.tmp 2] [vU i1] h Q = R53 i1 h Q) hR)
noncomputable def d163 : DCode := up ⟨[(4, .c (.one false [.bool]))], [], []⟩ (low Tryz.prog (fun _ => false) (Tryz.f163.body.getD .skip))
theorem low163 : low Tryz.prog (fun _ => false) (Tryz.f163.body.getD .skip) = some (eC d163) := by kernel_rfl
def R163 (i1 : Int) (h : PHeap) (Q : Value → PHeap → Prop) : Prop :=
 Tri Tryz.prog 53 [vU i1] h fun v_1 h_1 =>
 ∃ (c1 : Bool), v_1 = vB c1 ∧
 br c1
 (Q (vB true) h_1)
 (br (decide (i1 ≥ 97))
 (Q (vB (decide (i1 ≤ 102))) h_1)
 (Q (vB false) h_1))
theorem T163 {i1 : Int} {h : PHeap} {Q : Value → PHeap → Prop} (hR : R163 i1 h Q) : Tri Tryz.prog 163 [vU i1] h Q :=
 tri_of_dn mixed Tryz.func163 rfl (by kernel_rfl) low163 (rs := [.tmp 2]) (by kernel_rfl) rfl (Eq.mpr (by kernel_rfl : dnF Tryz.prog Tryz.f163.ntmps d163 [.tmp 2] [vU i1] h Q = R163 i1 h Q) hR)
noncomputable def d120 : DCode := up ⟨[(4, .c (.one false [.bool])), (7, .c (.one false [.bool]))], [], []⟩ (low Tryz.prog (fun _ => false) (Tryz.f120.body.getD .skip))
theorem low120 : low Tryz.prog (fun _ => false) (Tryz.f120.body.getD .skip) = some (eC d120) := by kernel_rfl
def R120 (i1 : Int) (h : PHeap) (Q : Value → PHeap → Prop) : Prop :=
 Tri Tryz.prog 49 [vU i1] h fun v_1 h_1 =>
 ∃ (c1 : Bool), v_1 = vB c1 ∧
 br c1
 (Q (vB true) h_1)
 (Tri Tryz.prog 53 [vU i1] h_1 fun v_2 h_2 =>
 ∃ (c2 : Bool), v_2 = vB c2 ∧
 br c2
 (Q (vB true) h_2)
 (br (i1 == 95)
 (Q (vB true) h_2)
 (br (i1 == 46)
 (Q (vB true) h_2)
 (Q (vB (i1 == 45)) h_2))))
theorem T120 {i1 : Int} {h : PHeap} {Q : Value → PHeap → Prop} (hR : R120 i1 h Q) : Tri Tryz.prog 120 [vU i1] h Q :=
 tri_of_dn mixed Tryz.func120 rfl (by kernel_rfl) low120 (rs := [.tmp 2]) (by kernel_rfl) rfl (Eq.mpr (by kernel_rfl : dnF Tryz.prog Tryz.f120.ntmps d120 [.tmp 2] [vU i1] h Q = R120 i1 h Q) hR)
noncomputable def d52 : DCode := up ⟨[(4, .c (.one false [.bool])), (7, .c (.one false [.bool]))], [], []⟩ (low Tryz.prog (fun _ => false) (Tryz.f52.body.getD .skip))
theorem low52 : low Tryz.prog (fun _ => false) (Tryz.f52.body.getD .skip) = some (eC d52) := by kernel_rfl
def R52 (i1 : Int) (h : PHeap) (Q : Value → PHeap → Prop) : Prop :=
 Tri Tryz.prog 49 [vU i1] h fun v_1 h_1 =>
 ∃ (c1 : Bool), v_1 = vB c1 ∧
 br c1
 (Q (vB true) h_1)
 (Tri Tryz.prog 53 [vU i1] h_1 fun v_2 h_2 =>
 ∃ (c2 : Bool), v_2 = vB c2 ∧
 br c2
 (Q (vB true) h_2)
 (br (i1 == 95)
 (Q (vB true) h_2)
 (Q (vB (i1 == 46)) h_2)))
theorem T52 {i1 : Int} {h : PHeap} {Q : Value → PHeap → Prop} (hR : R52 i1 h Q) : Tri Tryz.prog 52 [vU i1] h Q :=
 tri_of_dn mixed Tryz.func52 rfl (by kernel_rfl) low52 (rs := [.tmp 2]) (by kernel_rfl) rfl (Eq.mpr (by kernel_rfl : dnF Tryz.prog Tryz.f52.ntmps d52 [.tmp 2] [vU i1] h Q = R52 i1 h Q) hR)
noncomputable def d50 : DCode := up ⟨[], [], []⟩ (low Tryz.prog (fun _ => false) (Tryz.f50.body.getD .skip))
theorem low50 : low Tryz.prog (fun _ => false) (Tryz.f50.body.getD .skip) = some (eC d50) := by kernel_rfl
def R50 (l1 : Bs) (h : PHeap) (Q : Value → PHeap → Prop) : Prop :=
 br ((l1.length : Int) != 2)
 (Q (vT [vI 0, vB false]) h)
 (0 ≤ (0 : Int) ∧ ∃ (c1 : UInt8), (l1)[0]? = some c1 ∧
 br ((c1.toNat : Int) != 114)
 (Q (vT [vI 0, vB false]) h)
 (0 ≤ (1 : Int) ∧ ∃ (c2 : UInt8), (l1)[1]? = some c2 ∧
 br (decide ((c2.toNat : Int) < 48))
 (Q (vT [vI 0, vB false]) h)
 (0 ≤ (1 : Int) ∧ ∃ (c3 : UInt8), (l1)[1]? = some c3 ∧
 br (decide ((c3.toNat : Int) ≥ 56))
 (Q (vT [vI 0, vB false]) h)
 (0 ≤ (1 : Int) ∧ ∃ (c4 : UInt8), (l1)[1]? = some c4 ∧
 Q (vT [vI (IntKind.i64.wrap ((IntKind.u8.wrap ((c4.toNat : Int) - 48)))), vB true]) h))))
theorem T50 {l1 : Bs} {h : PHeap} {Q : Value → PHeap → Prop} (hR : R50 l1 h Q) : Tri Tryz.prog 50 [vS l1] h Q :=
 tri_of_dn mixed Tryz.func50 rfl (by kernel_rfl) low50 (rs := [.tmp 2, .tmp 3]) (by kernel_rfl) rfl (Eq.mpr (by kernel_rfl : dnF Tryz.prog Tryz.f50.ntmps d50 [.tmp 2, .tmp 3] [vS l1] h Q = R50 l1 h Q) hR)
noncomputable def d51 : DCode := up ⟨[(15, .c (.one false [.bool]))], [], [(9, 12, [(8, qi)], [])]⟩ (low Tryz.prog (fun _ => false) (Tryz.f51.body.getD .skip))
theorem low51 : low Tryz.prog (fun _ => false) (Tryz.f51.body.getD .skip) = some (eC d51) := by kernel_rfl
def R51 (l1 : Bs) (f1 : Nat) (x1 : List Value) (y1 : List Value) (h : PHeap) (Q : Value → PHeap → Prop) : Prop :=
 ∃ (I_1 : Nat → Int → PHeap → Prop), (∃ (m2 : Nat), I_1 m2 (0 : Int) h) ∧
 ∀ (m1 : Nat) (i1 : Int) (h_1 : PHeap), I_1 m1 i1 h_1 →
 br (decide (i1 < (l1.length : Int)))
 (0 ≤ i1 ∧ ∃ (c1 : UInt8), (l1)[(i1).toNat]? = some c1 ∧
 Tri Tryz.prog f1 (x1 ++ [vU (c1.toNat : Int)] ++ y1) h_1 fun v_1 h_2 =>
 ∃ (c2 : Bool), v_1 = vB c2 ∧
 br (!c2)
 (Q (vB false) h_2)
 (∃ (m3 : Nat), m3 < m1 ∧ I_1 m3 (IntKind.i64.wrap (i1 + 1)) h_2 ∧
 True))
 (Q (vB true) h_1)
theorem T51 {l1 : Bs} {f1 : Nat} {x1 : List Value} {y1 : List Value} {h : PHeap} {Q : Value → PHeap → Prop} (hR : R51 l1 f1 x1 y1 h Q) : Tri Tryz.prog 51 [vS l1, vF f1 x1 y1] h Q :=
 tri_of_dn mixed Tryz.func51 rfl (by kernel_rfl) low51 (rs := [.tmp 4]) (by kernel_rfl) rfl (Eq.mpr (by kernel_rfl : dnF Tryz.prog Tryz.f51.ntmps d51 [.tmp 4] [vS l1, vF f1 x1 y1] h Q = R51 l1 f1 x1 y1 h Q) hR)
noncomputable def d27 : DCode := up ⟨[(16, .c (.one false [.bool])), (26, .c (.tup [(false, [qi]), (false, [.bool])])), (31, .c (.one false [.bool]))], [], []⟩ (low Tryz.prog (fun _ => false) (Tryz.f27.body.getD .skip))
theorem low27 : low Tryz.prog (fun _ => false) (Tryz.f27.body.getD .skip) = some (eC d27) := by kernel_rfl
def R27 (l1 : Bs) (h : PHeap) (Q : Value → PHeap → Prop) : Prop :=
 br ((l1.length : Int) == 0)
 (Q (vB false) h)
 (br (decide ((l1.length : Int) > 32))
 (Q (vB false) h)
 (0 ≤ (0 : Int) ∧ ∃ (c1 : UInt8), (l1)[0]? = some c1 ∧
 Tri Tryz.prog 49 [vU (c1.toNat : Int)] h fun v_1 h_1 =>
 ∃ (c2 : Bool), v_1 = vB c2 ∧
 br (!c2)
 (0 ≤ (0 : Int) ∧ ∃ (c3 : UInt8), (l1)[0]? = some c3 ∧
 br ((c3.toNat : Int) != 95)
 (Q (vB false) h_1)
 (Tri Tryz.prog 50 [vS l1] h_1 fun v_2 h_2 =>
 ∃ (i1 : Int) (c4 : Bool), v_2 = vT [vI i1, vB c4] ∧
 br c4
 (Q (vB false) h_2)
 (Tri Tryz.prog 51 [vS l1, vF 52 [] []] h_2 fun v_3 h_3 =>
 ∃ (c5 : Bool), v_3 = vB c5 ∧
 Q (vB c5) h_3)))
 (Tri Tryz.prog 50 [vS l1] h_1 fun v_4 h_4 =>
 ∃ (i2 : Int) (c6 : Bool), v_4 = vT [vI i2, vB c6] ∧
 br c6
 (Q (vB false) h_4)
 (Tri Tryz.prog 51 [vS l1, vF 52 [] []] h_4 fun v_5 h_5 =>
 ∃ (c7 : Bool), v_5 = vB c7 ∧
 Q (vB c7) h_5))))
theorem T27 {l1 : Bs} {h : PHeap} {Q : Value → PHeap → Prop} (hR : R27 l1 h Q) : Tri Tryz.prog 27 [vS l1] h Q :=
 tri_of_dn mixed Tryz.func27 rfl (by kernel_rfl) low27 (rs := [.tmp 2]) (by kernel_rfl) rfl (Eq.mpr (by kernel_rfl : dnF Tryz.prog Tryz.f27.ntmps d27 [.tmp 2] [vS l1] h Q = R27 l1 h Q) hR)
noncomputable def d54 : DCode := up ⟨[], [], []⟩ (low Tryz.prog (fun _ => false) (Tryz.f54.body.getD .skip))
theorem low54 : low Tryz.prog (fun _ => false) (Tryz.f54.body.getD .skip) = some (eC d54) := by kernel_rfl
def R54 (i1 : Int) (h : PHeap) (Q : Value → PHeap → Prop) : Prop :=
 br (decide (i1 ≥ 97))
 (br (decide (i1 ≤ 122))
 (Q (vB true) h)
 (br (decide (i1 ≥ 65))
 (br (decide (i1 ≤ 90))
 (Q (vB true) h)
 (Q (vB (i1 == 95)) h))
 (Q (vB (i1 == 95)) h)))
 (br (decide (i1 ≥ 65))
 (br (decide (i1 ≤ 90))
 (Q (vB true) h)
 (Q (vB (i1 == 95)) h))
 (Q (vB (i1 == 95)) h))
theorem T54 {i1 : Int} {h : PHeap} {Q : Value → PHeap → Prop} (hR : R54 i1 h Q) : Tri Tryz.prog 54 [vU i1] h Q :=
 tri_of_dn mixed Tryz.func54 rfl (by kernel_rfl) low54 (rs := [.tmp 2]) (by kernel_rfl) rfl (Eq.mpr (by kernel_rfl : dnF Tryz.prog Tryz.f54.ntmps d54 [.tmp 2] [vU i1] h Q = R54 i1 h Q) hR)
noncomputable def d56 : DCode := up ⟨[], [], []⟩ (low Tryz.prog (fun _ => false) (Tryz.f56.body.getD .skip))
theorem low56 : low Tryz.prog (fun _ => false) (Tryz.f56.body.getD .skip) = some (eC d56) := by kernel_rfl
def R56 (i1 : Int) (h : PHeap) (Q : Value → PHeap → Prop) : Prop :=
 br (decide (i1 ≥ 48))
 (Q (vB (decide (i1 ≤ 57))) h)
 (Q (vB false) h)
theorem T56 {i1 : Int} {h : PHeap} {Q : Value → PHeap → Prop} (hR : R56 i1 h Q) : Tri Tryz.prog 56 [vU i1] h Q :=
 tri_of_dn mixed Tryz.func56 rfl (by kernel_rfl) low56 (rs := [.tmp 2]) (by kernel_rfl) rfl (Eq.mpr (by kernel_rfl : dnF Tryz.prog Tryz.f56.ntmps d56 [.tmp 2] [vU i1] h Q = R56 i1 h Q) hR)
noncomputable def d55 : DCode := up ⟨[], [], []⟩ (low Tryz.prog (fun _ => false) (Tryz.f55.body.getD .skip))
theorem low55 : low Tryz.prog (fun _ => false) (Tryz.f55.body.getD .skip) = some (eC d55) := by kernel_rfl
def R55 (l1 : Bs) (h : PHeap) (Q : Value → PHeap → Prop) : Prop :=
 br ((l1.length : Int) == 2)
 (0 ≤ (0 : Int) ∧ ∃ (c1 : UInt8), (l1)[0]? = some c1 ∧
 br ((c1.toNat : Int) == 114)
 (0 ≤ (1 : Int) ∧ ∃ (c2 : UInt8), (l1)[1]? = some c2 ∧
 br (decide ((c2.toNat : Int) ≥ 48))
 (0 ≤ (1 : Int) ∧ ∃ (c3 : UInt8), (l1)[1]? = some c3 ∧
 br (decide ((c3.toNat : Int) ≤ 55))
 (0 ≤ (1 : Int) ∧ ∃ (c4 : UInt8), (l1)[1]? = some c4 ∧
 Q (vI (IntKind.i64.wrap ((IntKind.u8.wrap ((c4.toNat : Int) - 48))))) h)
 (Q (vI (-1)) h))
 (Q (vI (-1)) h))
 (Q (vI (-1)) h))
 (Q (vI (-1)) h)
theorem T55 {l1 : Bs} {h : PHeap} {Q : Value → PHeap → Prop} (hR : R55 l1 h Q) : Tri Tryz.prog 55 [vS l1] h Q :=
 tri_of_dn mixed Tryz.func55 rfl (by kernel_rfl) low55 (rs := [.tmp 2]) (by kernel_rfl) rfl (Eq.mpr (by kernel_rfl : dnF Tryz.prog Tryz.f55.ntmps d55 [.tmp 2] [vS l1] h Q = R55 l1 h Q) hR)
noncomputable def d28 : DCode := up ⟨[(14, .c (.one false [.bool])), (19, .c (.one false [qi])), (31, .c (.one false [.bool])), (37, .c (.one false [.bool]))], [], [(22, 26, [(3, qi)], [])]⟩ (low Tryz.prog (fun _ => false) (Tryz.f28.body.getD .skip))
theorem low28 : low Tryz.prog (fun _ => false) (Tryz.f28.body.getD .skip) = some (eC d28) := by kernel_rfl
def R28 (l1 : Bs) (h : PHeap) (Q : Value → PHeap → Prop) : Prop :=
 br (l1 == [])
 (Q (vB false) h)
 (br (decide ((l1.length : Int) > 32))
 (Q (vB false) h)
 (0 ≤ (0 : Int) ∧ ∃ (c1 : UInt8), (l1)[0]? = some c1 ∧
 Tri Tryz.prog 54 [vU (c1.toNat : Int)] h fun v_1 h_1 =>
 ∃ (c2 : Bool), v_1 = vB c2 ∧
 br (!c2)
 (Q (vB false) h_1)
 (Tri Tryz.prog 55 [vS l1] h_1 fun v_2 h_2 =>
 ∃ (i1 : Int), v_2 = vI i1 ∧
 br (decide (i1 ≥ 0))
 (Q (vB false) h_2)
 (∃ (I_1 : Nat → Int → PHeap → Prop), (∃ (m2 : Nat), I_1 m2 (0 : Int) h_2) ∧
 ∀ (m1 : Nat) (i2 : Int) (h_3 : PHeap), I_1 m1 i2 h_3 →
 br (decide (i2 < (l1.length : Int)))
 (0 ≤ i2 ∧ ∃ (c3 : UInt8), (l1)[(i2).toNat]? = some c3 ∧
 Tri Tryz.prog 54 [vU (c3.toNat : Int)] h_3 fun v_3 h_4 =>
 ∃ (c4 : Bool), v_3 = vB c4 ∧
 br (!c4)
 (0 ≤ i2 ∧ ∃ (c5 : UInt8), (l1)[(i2).toNat]? = some c5 ∧
 Tri Tryz.prog 56 [vU (c5.toNat : Int)] h_4 fun v_4 h_5 =>
 ∃ (c6 : Bool), v_4 = vB c6 ∧
 br (!c6)
 (0 ≤ i2 ∧ ∃ (c7 : UInt8), (l1)[(i2).toNat]? = some c7 ∧
 br ((c7.toNat : Int) != 46)
 (Q (vB false) h_5)
 (∃ (m3 : Nat), m3 < m1 ∧ I_1 m3 (IntKind.i64.wrap (i2 + 1)) h_5 ∧
 True))
 (∃ (m4 : Nat), m4 < m1 ∧ I_1 m4 (IntKind.i64.wrap (i2 + 1)) h_5 ∧
 True))
 (∃ (m5 : Nat), m5 < m1 ∧ I_1 m5 (IntKind.i64.wrap (i2 + 1)) h_4 ∧
 True))
 (Q (vB true) h_3)))))
theorem T28 {l1 : Bs} {h : PHeap} {Q : Value → PHeap → Prop} (hR : R28 l1 h Q) : Tri Tryz.prog 28 [vS l1] h Q :=
 tri_of_dn mixed Tryz.func28 rfl (by kernel_rfl) low28 (rs := [.tmp 2]) (by kernel_rfl) rfl (Eq.mpr (by kernel_rfl : dnF Tryz.prog Tryz.f28.ntmps d28 [.tmp 2] [vS l1] h Q = R28 l1 h Q) hR)
noncomputable def d173 : DCode := up ⟨[(5, .c (.one false [.bool]))], [], []⟩ (low Tryz.prog (fun _ => false) (Tryz.f173.body.getD .skip))
theorem low173 : low Tryz.prog (fun _ => false) (Tryz.f173.body.getD .skip) = some (eC d173) := by kernel_rfl
def R173 (i1 : Int) (h : PHeap) (Q : Value → PHeap → Prop) : Prop :=
 Tri Tryz.prog 56 [vU i1] h fun v_1 h_1 =>
 ∃ (c1 : Bool), v_1 = vB c1 ∧
 br c1
 (Q (vI (IntKind.i64.wrap ((IntKind.u8.wrap (i1 - 48))))) h_1)
 (br (decide (i1 ≥ 97))
 (br (decide (i1 ≤ 102))
 (Q (vI (IntKind.i64.wrap ((IntKind.i64.wrap ((IntKind.u8.wrap (i1 - 97)))) + 10))) h_1)
 (Q (vI (-1)) h_1))
 (Q (vI (-1)) h_1))
theorem T173 {i1 : Int} {h : PHeap} {Q : Value → PHeap → Prop} (hR : R173 i1 h Q) : Tri Tryz.prog 173 [vU i1] h Q :=
 tri_of_dn mixed Tryz.func173 rfl (by kernel_rfl) low173 (rs := [.tmp 2]) (by kernel_rfl) rfl (Eq.mpr (by kernel_rfl : dnF Tryz.prog Tryz.f173.ntmps d173 [.tmp 2] [vU i1] h Q = R173 i1 h Q) hR)
noncomputable def d171 : DCode := up ⟨[(4, .c (.one false [.bool]))], [], []⟩ (low Tryz.prog (fun _ => false) (Tryz.f171.body.getD .skip))
theorem low171 : low Tryz.prog (fun _ => false) (Tryz.f171.body.getD .skip) = some (eC d171) := by kernel_rfl
def R171 (i1 : Int) (h : PHeap) (Q : Value → PHeap → Prop) : Prop :=
 Tri Tryz.prog 53 [vU i1] h fun v_1 h_1 =>
 ∃ (c1 : Bool), v_1 = vB c1 ∧
 br c1
 (Q (vU (IntKind.u8.wrap (i1 - 48))) h_1)
 (Q (vU (IntKind.u8.wrap ((IntKind.u8.wrap (i1 - 97)) + 10))) h_1)
theorem T171 {i1 : Int} {h : PHeap} {Q : Value → PHeap → Prop} (hR : R171 i1 h Q) : Tri Tryz.prog 171 [vU i1] h Q :=
 tri_of_dn mixed Tryz.func171 rfl (by kernel_rfl) low171 (rs := [.tmp 2]) (by kernel_rfl) rfl (Eq.mpr (by kernel_rfl : dnF Tryz.prog Tryz.f171.ntmps d171 [.tmp 2] [vU i1] h Q = R171 i1 h Q) hR)
end Go.Proofs.D
