import Derived.Test.YteegmpghbhmekaaGreatDoorNa6
import Derived.WalkKit
import Derived.ProofKit
import Derived.OpenShut
import Derived.Deep.DeepHandedRow
import Derived.Test.YteegmpghbhmekaaGreatDoorCards
import Derived.Lib.LaidTab
import Derived.Shelf.Vars
import Derived.Stop.LaidErr
import Derived.MakeChecks
namespace Go.Proofs.D
open Go Go.Den Go.As
set_option maxRecDepth 100000
attribute [local irreducible] IntKind.wrap Tri
theorem und23 : Tryz.prog.underlying 23 = some (.slice 80) := rfl
theorem elem80 : ElemT 80 3 := ⟨_, _, rfl, rfl, rfl, rfl, by decide⟩
theorem mem_ents : ∀ (ls : List Lb) (i : Nat) (e : MapEntry), e ∈ ents (labE i ls) → ∃ j l, ls[j]? = some l ∧ e = ⟨vS l.name, lbV l, i + j⟩
 | [], i, e, h => by cases h
 | l :: ls, i, e, h => by
   rcases List.mem_cons.1 h with rfl | h
   · exact ⟨0, l, rfl, rfl⟩
   · obtain ⟨j, l', h1, h2⟩ := mem_ents ls (i + 1) e h
     exact ⟨j + 1, l', by simpa using h1, by rw [h2, show i + (j + 1) = i + 1 + j by omega]⟩
theorem ents_mem : ∀ (ls : List Lb) (i j : Nat) (l : Lb), ls[j]? = some l → (⟨vS l.name, lbV l, i + j⟩ : MapEntry) ∈ ents (labE i ls)
 | [], _, _, _, h => by simp at h
 | l :: ls, i, 0, l', h => by
   have : l = l' := by simpa using h
   subst this; exact List.mem_cons_self ..
 | l :: ls, i, j + 1, l', h => by
   refine List.mem_cons_of_mem _ ?_
   have := ents_mem ls (i + 1) j l' (by simpa using h)
   rwa [show i + 1 + j = i + (j + 1) by omega] at this
theorem ents_born : ∀ (ls : List Lb) (i : Nat), (ents (labE i ls)).map (·.born) = List.range' i ls.length
 | [], _ => rfl
 | l :: ls, i => by
   show i :: (ents (labE (i + 1) ls)).map (·.born) = _
   rw [ents_born ls (i + 1), List.length_cons, List.range'_succ]
def pick (ls : List Lb) (S : List Nat) : List Lb := S.map fun i => ls.getD i ⟨[], false, 0⟩
theorem pick_perm {ls : List Lb} {S : List Nat} (hn : S.Nodup) (hlt : ∀ i ∈ S, i < ls.length) (hall : ∀ i, i < ls.length → i ∈ S) : (pick ls S).Perm ls := by
 have h1 : S.Perm (List.range ls.length) := by
  rw [List.perm_ext_iff_of_nodup hn List.nodup_range]
  intro i
  rw [List.mem_range]
  exact ⟨hlt i, hall i⟩
 have h2 : pick ls (List.range ls.length) = ls := by
  unfold pick
  apply List.ext_getElem?
  intro j
  by_cases hj : j < ls.length
  · simp [hj]
  · simp [hj]
 have := h1.map fun i => ls.getD i ⟨[], false, 0⟩
 unfold pick at *
 rw [h2] at this
 exact this
theorem nodup_names {ls : List Lb} (h : (ls.map (·.name)).Nodup) : ls.Nodup := by
 induction ls with
 | nil => exact List.nodup_nil
 | cons l ls ih =>
   rw [List.map_cons, List.nodup_cons] at h
   exact List.nodup_cons.2 ⟨fun hm => h.1 (List.mem_map_of_mem hm), ih h.2⟩
theorem sort_perm_eq {L ls : List Lb} (hp : L.Perm ls) (hn : ls.Nodup) : sortL L = sortL ls := by
 have hnL := hp.nodup_iff.2 hn
 exact sorted_unique ((sort_perm L).trans (hp.trans (sort_perm ls).symm)) (sortL_sorted hnL) (sortL_sorted hn)
theorem LM.rowAt {e k : Nat} {h0 h : PHeap} {a : OA} {n c : Nat} {css : List (List Value)} (hM : LM e k h0 h a n c css) {j : Nat} {cs : List Value} (hj : css[j]? = some cs) : ∃ b, a = ad b 0 ∧ h.row b (0 + j * k) cs := by
 have hjl := (List.getElem?_eq_some_iff.1 hj).1
 obtain ⟨b, rest, h1, h2, h3, h4, h5⟩ := hM.open (by have := hM.len; omega)
 refine ⟨b, h1, row_lit h2 fun i v hv => ?_⟩
 have := flatten_row (k := k) (css := css) (j := j) (cs := cs) (fun i c hc => hM.each i c hc) hj i v hv
 rw [Nat.zero_add, List.getElem?_append_left (List.getElem?_eq_some_iff.1 this).1]
 exact this
theorem LM.lbs {h0 h : PHeap} {a : OA} {n c : Nat} {L : List Lb} (hM : LM 80 3 h0 h a n c (L.map lbC)) : LbAt h a L := by
 by_cases hL : L = []
 · exact .inl hL
 have hn : 0 < n := by
  have := hM.len
  cases L with
  | nil => exact absurd rfl hL
  | cons x L => simp at this; omega
 obtain ⟨b, rest, h1, h2, _⟩ := hM.open hn
 refine .inr ⟨b, 0, h1, fun j l hj => ?_⟩
 obtain ⟨b', h3, h4⟩ := hM.rowAt (j := j) (cs := lbC l) (by simp [hj])
 rw [h1] at h3; injection h3 with h3; injection h3 with h3
 subst h3; exact h4
theorem LM.ins {h0 h : PHeap} {a : OA} {n c : Nat} {L : List Ins} (hM : LM 58 4 h0 h a n c (inL L)) : InAt h a L := by
 by_cases hL : L = []
 · exact .inl hL
 have hn : 0 < n := by
  have := hM.len
  cases L with
  | nil => exact absurd rfl hL
  | cons x L => simp [inL] at this; omega
 obtain ⟨b, rest, h1, h2, _⟩ := hM.open hn
 refine .inr ⟨b, 0, h1, fun j l hj => ?_⟩
 obtain ⟨b', h3, h4⟩ := hM.rowAt (j := j) (cs := insC l) (by simp [inL, hj])
 rw [h1] at h3; injection h3 with h3; injection h3 with h3
 subst h3; exact h4
def FA (mS : Nat) (ca : OA) (cc : Nat) (q : Pg) (la : OA) (ln lc : Nat) (tl : List Value) : Obj :=
 .cells ⟨[vM mS, vL ca q.code.length cc, vS q.data, vI q.zero, vI q.entry, vL la ln lc] ++ tl⟩ 74 (0, 0)
def emptyV : Value := vA [vL none 0 0, vS [], vI 0, vI 0, vL none 0 0]
def AsmR (h0 : PHeap) (r : Except (Nat × Nat) Pg) (v : Value) (h' : PHeap) : Prop := Ext h0 h' ∧ match r with
 | .error (l, e) => e ≠ 0 ∧ v = vT [emptyV, vI (l : Int), vI (e : Int)]
 | .ok q => ∃ a1 k1 a2 k2, v = vT [vA [vL a1 q.code.length k1, vS q.data, vI q.zero, vI q.entry, vL a2 q.labels.length k2], vI 0, vI 0] ∧ InAt h' a1 q.code ∧ LbAt h' a2 q.labels ∧ okN a1 q.code.length k1 ∧ okN a2 q.labels.length k2
def finS (q : Pg) : Except (Nat × Nat) Pg :=
 let q := { q with labels := sortL q.labels }
 let e := checkP q
 if e ≠ 0 then .error (0, e) else .ok q
def endT (b1 : Nat) (h_13 : PHeap) (Q : Value → PHeap → Prop) : Prop :=
 ∃ (a8 : OA) (n8 k9 : Nat), h_13.cell b1 5 = some (vL a8 n8 k9) ∧
 Tri Tryz.prog 40 [vL a8 n8 k9, vF 41 [] []] h_13 fun v_8 h_14 =>
 v_8 = vT [] ∧
 ∃ (a9 : OA) (n9 k10 : Nat) (l8 : Bs) (i11 i12 : Int) (a10 : OA) (n10 k11 : Nat), h_14.row b1 1 [vL a9 n9 k10, vS l8, vI i11, vI i12, vL a10 n10 k11] ∧
 Tri Tryz.prog 24 [vA [vL a9 n9 k10, vS l8, vI i11, vI i12, vL a10 n10 k11]] h_14 fun v_9 h_15 =>
 ∃ (i13 : Int), v_9 = vI i13 ∧
 br (i13 != 0)
 (Q (vT [vA [vL none 0 0, vS [], vI 0, vI 0, vL none 0 0], vI 0, vI i13]) h_15)
 (∃ (a11 : OA) (n11 k12 : Nat) (l9 : Bs) (i14 i15 : Int) (a12 : OA) (n12 k13 : Nat), h_15.row b1 1 [vL a11 n11 k12, vS l9, vI i14, vI i15, vL a12 n12 k13] ∧
 Q (vT [vA [vL a11 n11 k12, vS l9, vI i14, vI i15, vL a12 n12 k13], vI 0, vI 0]) h_15)
section
variable {h0 hb h : PHeap} {p mS : Nat}
theorem FA_row {ca : OA} {cc : Nat} {q : Pg} {la : OA} {ln lc : Nat} {tl : List Value} (hp : h p = some (FA mS ca cc q la ln lc tl)) : h.row p 1 [vL ca q.code.length cc, vS q.data, vI q.zero, vI q.entry, vL la ln lc] :=
 ⟨(cell_of hp 1).trans rfl, (cell_of hp 2).trans rfl, (cell_of hp 3).trans rfl, (cell_of hp 4).trans rfl, (cell_of hp 5).trans rfl⟩
theorem end_13 {ca : OA} {cc : Nat} {q : Pg} {la : OA} {lc : Nat} {tl : List Value} {L : List Lb} (x0 : Ext h0 hb) (hO : OpTab hb) (hx : Ext hb h) (hpn : hb p = none) (hp : h p = some (FA mS ca cc q la L.length lc tl)) (hM : LM 80 3 hb h la L.length lc (L.map lbC)) (hI : InAt hb ca q.code) (hc : okN ca q.code.length cc)
 (hL : L.Perm q.labels) (hnd : (q.labels.map (·.name)).Nodup) (hn : q.code.length ≤ 1000000) (hd : q.data.length ≤ 1000000) (hl : q.labels.length ≤ 1000000) (ho : ∀ l ∈ q.labels, 0 ≤ l.off ∧ l.off ≤ 4096) (he : -10000000000 ≤ q.entry ∧ q.entry ≤ 10000000000) :
 endT p h fun v h' => AsmR h0 (finS q) v h' := by
 unfold endT
 have hnd' := nodup_names hnd
 have hndL := hL.nodup_iff.2 hnd'
 have hsl : sortL L = sortL q.labels := sort_perm_eq hL hnd'
 have hlen : L.length = q.labels.length := hL.length_eq
 have hslen : (sortL L).length = L.length := (sort_perm L).length_eq
 refine ⟨la, L.length, lc, (FA_row hp).2.2.2.2, ?_⟩
 have rest : ∀ h14, Ext hb h14 → h14 p = some (FA mS ca cc q la L.length lc tl) → LM 80 3 hb h14 la L.length lc ((sortL L).map lbC) →
  ∃ (a9 : OA) (n9 k10 : Nat) (l8 : Bs) (i11 i12 : Int) (a10 : OA) (n10 k11 : Nat), h14.row p 1 [vL a9 n9 k10, vS l8, vI i11, vI i12, vL a10 n10 k11] ∧
  Tri Tryz.prog 24 [vA [vL a9 n9 k10, vS l8, vI i11, vI i12, vL a10 n10 k11]] h14 fun v_9 h_15 =>
  ∃ (i13 : Int), v_9 = vI i13 ∧
  br (i13 != 0)
  (AsmR h0 (finS q) (vT [vA [vL none 0 0, vS [], vI 0, vI 0, vL none 0 0], vI 0, vI i13]) h_15)
  (∃ (a11 : OA) (n11 k12 : Nat) (l9 : Bs) (i14 i15 : Int) (a12 : OA) (n12 k13 : Nat), h_15.row p 1 [vL a11 n11 k12, vS l9, vI i14, vI i15, vL a12 n12 k13] ∧
  AsmR h0 (finS q) (vT [vA [vL a11 n11 k12, vS l9, vI i14, vI i15, vL a12 n12 k13], vI 0, vI 0]) h_15) := fun h14 x14 hp14 hM14 => by
  refine ⟨_, _, _, _, _, _, _, _, _, FA_row hp14, ?_⟩
  have hl2 : (sortL q.labels).length = L.length := by rw [← hsl]; exact hslen
  rw [← hl2]
  have hlb := hM14.lbs
  rw [hsl] at hlb
  refine Tri.mono (check_t (p := { q with labels := sortL q.labels }) (hO.ext x14) (hI.ext x14) hlb hn hd (by show (sortL q.labels).length ≤ _; omega) (fun l hm => ?_) (by show _ ≤ q.entry ∧ q.entry ≤ _; omega)) ?_
  · have := ho l ((sort_perm q.labels).subset hm); omega
  rintro _ h15 ⟨rfl, x15⟩
  refine ⟨_, rfl, br_split (fun e => ?_) fun e => ?_⟩
  · have e : checkP { q with labels := sortL q.labels } ≠ 0 := by simpa using e
    refine ⟨x0.trans (x14.trans x15), ?_⟩
    unfold finS
    simp only
    rw [if_pos e]
    exact ⟨e, rfl⟩
  · have e : checkP { q with labels := sortL q.labels } = 0 := by simpa using e
    have hok := hM14.okN
    refine ⟨_, _, _, _, _, _, _, _, _, FA_row (x15 _ _ hp14), ?_⟩
    refine ⟨x0.trans (x14.trans x15), ?_⟩
    unfold finS
    simp only
    rw [if_neg (by simp [e])]
    refine ⟨_, _, _, _, ?_, (hI.ext x14).ext x15, hlb.ext x15, hc, by rw [hl2]; exact hok⟩
    rw [hl2]
 by_cases hL0 : L = []
 · subst hL0
   refine Tri.mono sort_none ?_
   rintro _ h14 ⟨rfl, rfl⟩
   exact ⟨rfl, rest _ hx hp hM⟩
 · have hn0 : 0 < L.length := List.length_pos_iff.2 hL0
   obtain ⟨b, rst, hla, hbk, hr, hcc, _⟩ := hM.open hn0
   have hbp : b ≠ p := hM.ne hp (notE_cells (by decide) _ _) b hla
   subst hla
   refine Tri.mono (sort_t hbk (by omega) hndL) ?_
   rintro _ h14 ⟨rfl, rfl⟩
   refine ⟨rfl, rest _ (fun q' o hq => ?_) ?_ ?_⟩
   · rw [put_ne fun e => by subst e; rw [(hM.own q' rfl).1] at hq; cases hq]; exact hx _ _ hq
   · rw [put_ne (Ne.symm hbp)]; exact hp
   · exact hM.write hbk hr hcc hn0 (by rw [List.length_map, hslen]) fun cs hcs => by obtain ⟨x, _, rfl⟩ := List.mem_map.1 hcs; rfl
end
end Go.Proofs.D
namespace Go.Proofs.D
open Go Go.Den Go.As
set_option maxRecDepth 100000
attribute [local irreducible] IntKind.wrap Tri
theorem nodup_le : ∀ (n : Nat) (S : List Nat), S.Nodup → (∀ i ∈ S, i < n) → S.length ≤ n
 | 0, S, _, h => by
   cases S with
   | nil => simp
   | cons x S => exact absurd (h x (List.mem_cons_self ..)) (Nat.not_lt_zero _)
 | n + 1, S, hn, h => by
   have := nodup_le n (S.erase n) (hn.erase n) fun i hi => by
    have h1 := (hn.mem_erase_iff).1 hi
    have := h i h1.2
    have := h1.1
    omega
   rw [List.length_erase] at this
   split at this <;> omega
section
variable {h0 hb h : PHeap} {p mS : Nat}
def loopT (b1 p1 : Nat) (X : List Value) (h_11 : PHeap) (Q : Value → PHeap → Prop) : Prop :=
 ∃ (I_3 : Nat → PHeap → Prop), (∃ (m11 : Nat), I_3 m11 h_11) ∧
 ∀ (m10 : Nat) (h_12 : PHeap), I_3 m10 h_12 →
 Raw Tryz.prog (execOp (rho [(80, vP p1 0)]) (mkO o13_10 0)) h_12 fun v_7 h_13 =>
 ((v_7 = vT [vB false] ∧ endT b1 h_13 Q) ∨
 (∃ (k8 u1 : Value), v_7 = vT [vB true, k8, u1] ∧
 Raw Tryz.prog (execOp (rho [(80, vP p1 0)]) (mkO o13_12 0)) h_13 fun v_10 h_16 =>
 ∃ (l10 l11 : Bs) (c1 : Bool) (i16 : Int), v_10 = vT [vS l10, vA [vS l11, vB c1, vI i16]] ∧
 ∃ (a13 : OA) (n13 k14 : Nat), h_16.cell b1 5 = some (vL a13 n13 k14) ∧
 ∀ (b4 : Nat), h_16 b4 = none → ∀ (h_17 : PHeap), h_17 = h_16.put b4 (.cells ⟨[vS l11, vB c1, vI i16]⟩ 80) →
 (h_17.cell b1 5 = some (vL a13 n13 k14)) ∧
 Raw Tryz.prog (execOp (rho [(90, vL a13 n13 k14), (92, vL (ad b4 0) 1 1)]) (mkO o13_14 23)) h_17 fun v_11 h_18 =>
 ∃ (a14 : OA) (n14 k15 : Nat), v_11 = vL a14 n14 k15 ∧
 ∃ (l12 : List Value) (t3 : TypeId) (z3 : Nat × Nat), h_18 b1 = some (.cells ⟨l12⟩ t3 z3) ∧ (5 + 1 ≤ l12.length ∧ z3.2 ≤ 5) ∧
 ∀ (h_19 : PHeap), h_19 = h_18.put b1 (.cells ⟨splice l12 5 [vL a14 n14 k15]⟩ t3 z3) →
 ∃ (m12 : Nat), m12 < m10 ∧ I_3 m12 h_19 ∧
 tv X ∧ True))
theorem loop_13 {X : List Value} {ca : OA} {cc r mb : Nat} {q : Pg} {tl : List Value} (x0 : Ext h0 hb) (hO : OpTab hb) (hx : Ext hb h) (hpn : hb p = none) (hp : h p = some (FA mS ca cc q none 0 0 tl)) (hI : InAt hb ca q.code) (hc : okN ca q.code.length cc)
 (hrn : hb r = none) (hrp : r ≠ p) (hr : h r = some (.mapIter (some mb) q.labels.length #[] q.labels.length)) (hm : hb mb = some (.map ⟨ents (labE 0 q.labels)⟩ q.labels.length))
 (hnd : (q.labels.map (·.name)).Nodup) (hn : q.code.length ≤ 1000000) (hd : q.data.length ≤ 1000000) (hl : q.labels.length ≤ 1000000) (ho : ∀ l ∈ q.labels, 0 ≤ l.off ∧ l.off ≤ 4096) (he : -10000000000 ≤ q.entry ∧ q.entry ≤ 10000000000) :
 loopT p r X h fun v h' => AsmR h0 (finS q) v h' := by
 unfold loopT
 refine ⟨fun m h' => ∃ (S : List Nat) (la : OA) (lc : Nat), S.length + m = q.labels.length ∧ S.Nodup ∧ (∀ i ∈ S, i < q.labels.length) ∧ Ext hb h' ∧ h' r = some (.mapIter (some mb) q.labels.length ⟨S⟩ q.labels.length) ∧ h' p = some (FA mS ca cc q la S.length lc tl) ∧ LM 80 3 hb h' la S.length lc ((pick q.labels S).map lbC),
  ⟨q.labels.length, [], none, 0, by simp, List.nodup_nil, fun i hi => (List.not_mem_nil hi).elim, hx, hr, hp, LM.nil⟩, ?_⟩
 rintro m h1 ⟨S, la, lc, hm1, hSn, hSlt, hx1, hr1, hp1, hM⟩
 have hes : ∀ e ∈ (⟨ents (labE 0 q.labels)⟩ : Array MapEntry).toList, e.born < q.labels.length := fun e hem => by
  obtain ⟨j, l, h1, rfl⟩ := mem_ents _ _ _ hem
  have := (List.getElem?_eq_some_iff.1 h1).1
  simp; omega
 refine Raw.mono (raw_next rfl hr1 (hx1 _ _ hm) hes (Nat.le_refl _)) ?_
 rintro v h2 (⟨h0', rfl, rfl⟩ | ⟨e, hem, rfl, rfl⟩)
 · left
   refine ⟨rfl, ?_⟩
   have hall : ∀ i, i < q.labels.length → i ∈ S := fun i hi => by
    by_cases hiS : i ∈ S
    · exact hiS
    have hmem := ents_mem q.labels 0 i q.labels[i] (by simp [hi])
    rw [Nat.zero_add] at hmem
    have : (⟨vS q.labels[i].name, lbV q.labels[i], i⟩ : MapEntry) ∈ leftOf ⟨ents (labE 0 q.labels)⟩ ⟨S⟩ := by
     unfold leftOf
     rw [Array.mem_filter]
     refine ⟨Array.mem_def.2 hmem, ?_⟩
     simp [hiS]
    have hnil : leftOf ⟨ents (labE 0 q.labels)⟩ ⟨S⟩ = #[] := Array.eq_empty_of_size_eq_zero h0'
    rw [hnil] at this
    exact absurd this (Array.not_mem_empty _)
   have hpl : (pick q.labels S).length = S.length := by simp [pick]
   rw [← hpl] at hp1 hM
   exact end_13 x0 hO hx1 hpn hp1 hM hI hc (pick_perm hSn hSlt hall) hnd hn hd hl ho he
 · right
   obtain ⟨hem1, hem2⟩ := mem_left hem
   obtain ⟨j, l, hj, rfl⟩ := mem_ents _ _ _ hem1
   rw [Nat.zero_add] at *
   have hjS : j ∉ S := fun h => by
    have : (⟨S⟩ : Array Nat).contains j = true := by simp [h]
    rw [this] at hem2; cases hem2
   have hjl := (List.getElem?_eq_some_iff.1 hj).1
   have hpush : (⟨S⟩ : Array Nat).push j = ⟨S ++ [j]⟩ := by apply Array.toList_inj.1; simp
   have hlt : S.length < q.labels.length := by
    have h1 : (S ++ [j]).Nodup := List.nodup_append.2 ⟨hSn, by simp, fun x hx y hy hxy => by rw [List.mem_singleton.1 hy] at hxy; subst hxy; exact hjS hx⟩
    have h2 := nodup_le _ _ h1 fun i hi => by
     rcases List.mem_append.1 hi with hi | hi
     · exact hSlt i hi
     · rw [List.mem_singleton.1 hi]; exact hjl
    rw [List.length_append] at h2
    simp only [List.length_cons, List.length_nil] at h2; omega
   refine ⟨_, _, rfl, ?_⟩
   have hrn2 : NotE 80 (.mapIter (some mb) q.labels.length ((⟨S⟩ : Array Nat)) q.labels.length) := fun l z he => by cases he
   have hM2 := hM.put (o' := .mapIter (some mb) q.labels.length ((⟨S⟩ : Array Nat).push j) q.labels.length) hr1 hrn2
   have hx2 : Ext hb (h1.put r (.mapIter (some mb) q.labels.length ((⟨S⟩ : Array Nat).push j) q.labels.length)) := fun b o hb' => by
    rw [put_ne fun e => by subst e; rw [hrn] at hb'; cases hb']; exact hx1 _ _ hb'
   have hp2 : (h1.put r (.mapIter (some mb) q.labels.length ((⟨S⟩ : Array Nat).push j) q.labels.length)) p = some (FA mS ca cc q la S.length lc tl) := by
    rw [put_ne (Ne.symm hrp)]; exact hp1
   have hr2 : (h1.put r (.mapIter (some mb) q.labels.length ((⟨S⟩ : Array Nat).push j) q.labels.length)) r = some (.mapIter (some mb) q.labels.length ((⟨S⟩ : Array Nat).push j) q.labels.length) := put_same _ _ _
   generalize (h1.put r (.mapIter (some mb) q.labels.length ((⟨S⟩ : Array Nat).push j) q.labels.length)) = h2 at *
   have hfind : (⟨ents (labE 0 q.labels)⟩ : Array MapEntry).find? (·.born == j) = some ⟨vS l.name, lbV l, j⟩ := by
    rw [← Array.find?_toList]
    exact find_born ⟨vS l.name, lbV l, j⟩ _ (by rw [ents_born]; exact List.nodup_range') hem1
   refine Raw.mono (raw_entry rfl hr2 (hx2 _ _ hm) hfind) ?_
   rintro _ h3 ⟨rfl, rfl⟩
   refine ⟨l.name, l.name, l.data, l.off, rfl, la, S.length, lc, (FA_row hp2).2.2.2.2, ?_⟩
   intro b4 hb4 h4 hh4
   have x4 := Put.ext hh4 hb4
   have hp4 := x4 _ _ hp2
   have hr4 := x4 _ _ hr2
   refine ⟨(FA_row hp4).2.2.2.2, ?_⟩
   have hSlen : S.length ≤ q.labels.length := by omega
   refine Raw.mono (LM.push und23 elem80 rfl rfl rfl rfl rfl hx2 hM2 hb4 hh4 rfl rfl (by omega)) ?_
   rintro _ h5 ⟨b5, cap, rfl, hx5, hM5, hg⟩
   have hM4 := hM2.ext x4
   have hp5 : h5 p = h4 p := hg.ne hM4 hp4 (notE_cells (by decide) _ _)
   have hr5 : h5 r = h4 r := hg.ne hM4 hr4 (fun l z he => by cases he)
   refine ⟨_, _, _, rfl, _, _, _, (by rw [hp5]; exact hp4), ⟨by simp, Nat.zero_le _⟩, ?_⟩
   rintro h6 rfl
   refine ⟨m - 1, ?_, ⟨S ++ [j], ad b5 0, cap, ?_, ?_, ?_, ?_, ?_, ?_, ?_⟩, rfl, trivial⟩
   · omega
   · rw [List.length_append]; simp only [List.length_cons, List.length_nil]; omega
   · exact List.nodup_append.2 ⟨hSn, by simp, fun x hx y hy hxy => by rw [List.mem_singleton.1 hy] at hxy; subst hxy; exact hjS hx⟩
   · intro i hi
     rcases List.mem_append.1 hi with hi | hi
     · exact hSlt i hi
     · rw [List.mem_singleton.1 hi]; exact hjl
   · intro b o hb'
     rw [put_ne fun e => by subst e; rw [hpn] at hb'; cases hb']; exact hx5 _ _ hb'
   · rw [put_ne hrp, hr5, hr4, hpush]
   · rw [put_same]; simp [FA, splice]
   · have hl2 : (S ++ [j]).length = S.length + 1 := by simp
     have hpk : (pick q.labels (S ++ [j])).map lbC = (pick q.labels S).map lbC ++ [lbC l] := by
      simp [pick, List.getD_eq_getElem?_getD, hj]
     rw [hl2, hpk]
     exact hM5.put (by rw [hp5]; exact hp4) (notE_cells (by decide) _ _)
end
end Go.Proofs.D
namespace Go.Proofs.D
open Go Go.Den Go.As
set_option maxRecDepth 100000
attribute [local irreducible] IntKind.wrap Tri
section
variable {h0 hb h : PHeap} {p mS : Nat} {a : As.St} {K : AK}
def usesT (b1 : Nat) (a2 : OA) (n2 : Nat) (k2 : Nat) (l2 : Bs) (i2 : Int) (i3 : Int) (a3 : OA) (n3 : Nat) (k3 : Nat) (h_5 : PHeap) (Q : Value → PHeap → Prop) : Prop :=
 (∃ (a4 : OA) (n4 k4 : Nat), h_5.cell b1 12 = some (vL a4 n4 k4) ∧
 ∃ (I_2 : Nat → Int → OA → Nat → Nat → Bs → Int → Int → OA → Nat → Nat → PHeap → Prop), (∃ (m7 : Nat), I_2 m7 (0 : Int) a2 n2 k2 l2 i2 i3 a3 n3 k3 h_5) ∧
 ∀ (m6 : Nat) (i6 : Int) (a5 : OA) (n5 : Nat) (k5 : Nat) (l5 : Bs) (i7 : Int) (i8 : Int) (a6 : OA) (n6 : Nat) (k6 : Nat) (h_8 : PHeap), I_2 m6 i6 a5 n5 k5 l5 i7 i8 a6 n6 k6 h_8 →
 br (decide (i6 < ((n4 : Nat) : Int)))
 (∃ (b3 o2 : Nat), a4 = some ⟨b3, o2, none⟩ ∧ (0 ≤ i6 ∧ i6 < n4) ∧
 ∃ (i9 : Int) (f1 : Nat) (x1 y1 : List Value), h_8.row b3 (o2 + (i6).toNat * 2) [vI i9, vF f1 x1 y1] ∧
 Tri Tryz.prog f1 (x1 ++ [] ++ y1) h_8 fun v_5 h_9 =>
 ∃ (i10 : Int), v_5 = vI i10 ∧
 br (i10 != 0)
 ((tv [vI i9]) ∧
 Q (vT [vA [vL none 0 0, vS [], vI 0, vI 0, vL none 0 0], vI i9, vI i10]) h_9)
 (∃ (m8 : Nat), m8 < m6 ∧ I_2 m8 (IntKind.i64.wrap (i6 + 1)) a5 n5 k5 l5 i7 i8 a6 n6 k6 h_9 ∧
 True))
 (∃ (a7 : OA) (n7 k7 : Nat), h_8.cell b1 6 = some (vL a7 n7 k7) ∧
 ∃ (l6 : Bs), BytesAt h_8 a7 n7 l6 ∧
 ∃ (l7 : List Value) (t2 : TypeId) (z2 : Nat × Nat), h_8 b1 = some (.cells ⟨l7⟩ t2 z2) ∧ (2 + 1 ≤ l7.length ∧ z2.2 ≤ 2) ∧
 ∀ (h_10 : PHeap), h_10 = h_8.put b1 (.cells ⟨splice l7 2 [vS l6]⟩ t2 z2) →
 ∃ (m9 : Nat), h_10.cell b1 10 = some (vM m9) ∧
 Raw Tryz.prog (execOp (rho [(79, vM m9)]) (mkO o13_9 0)) h_10 fun v_6 h_11 =>
 ∃ (p1 o3 : Nat), v_6 = vP p1 o3 ∧
 ∃ (I_3 : Nat → PHeap → Prop), (∃ (m11 : Nat), I_3 m11 h_11) ∧
 ∀ (m10 : Nat) (h_12 : PHeap), I_3 m10 h_12 →
 Raw Tryz.prog (execOp (rho [(80, vP p1 o3)]) (mkO o13_10 0)) h_12 fun v_7 h_13 =>
 ((v_7 = vT [vB false] ∧ endT b1 h_13 Q) ∨
 (∃ (k8 u1 : Value), v_7 = vT [vB true, k8, u1] ∧
 Raw Tryz.prog (execOp (rho [(80, vP p1 o3)]) (mkO o13_12 0)) h_13 fun v_10 h_16 =>
 ∃ (l10 l11 : Bs) (c1 : Bool) (i16 : Int), v_10 = vT [vS l10, vA [vS l11, vB c1, vI i16]] ∧
 ∃ (a13 : OA) (n13 k14 : Nat), h_16.cell b1 5 = some (vL a13 n13 k14) ∧
 ∀ (b4 : Nat), h_16 b4 = none → ∀ (h_17 : PHeap), h_17 = h_16.put b4 (.cells ⟨[vS l11, vB c1, vI i16]⟩ 80) →
 (h_17.cell b1 5 = some (vL a13 n13 k14)) ∧
 Raw Tryz.prog (execOp (rho [(90, vL a13 n13 k14), (92, vL (ad b4 0) 1 1)]) (mkO o13_14 23)) h_17 fun v_11 h_18 =>
 ∃ (a14 : OA) (n14 k15 : Nat), v_11 = vL a14 n14 k15 ∧
 ∃ (l12 : List Value) (t3 : TypeId) (z3 : Nat × Nat), h_18 b1 = some (.cells ⟨l12⟩ t3 z3) ∧ (5 + 1 ≤ l12.length ∧ z3.2 ≤ 5) ∧
 ∀ (h_19 : PHeap), h_19 = h_18.put b1 (.cells ⟨splice l12 5 [vL a14 n14 k15]⟩ t3 z3) →
 ∃ (m12 : Nat), m12 < m10 ∧ I_3 m12 h_19 ∧
 tv [vL a5 n5 k5, vS l5, vI i7, vI i8, vL a6 n6 k6] ∧ True))))
def passS (a : As.St) : Except (Nat × Nat) Pg := match resolveS a.p a.uses with
 | .error e => .error e
 | .ok q => finS q
structure SameSz (p q : Pg) : Prop where
 code : q.code.length = p.code.length
 data : q.data.length = p.data.length
 labels : q.labels = p.labels
 ent : -10000000000 ≤ q.entry ∧ q.entry ≤ 10000000000
theorem SameSz.put {p q : Pg} {u : Us} {n : Int} (hs : SameSz p q) (hu : UseOk q u) (hn : 0 ≤ n ∧ n ≤ 5000000) : SameSz p (putU q u n) := by
 unfold putU
 split
 · exact ⟨by simp only [setC, List.length_modify]; exact hs.code, hs.data, hs.labels, hs.ent⟩
 · split
   · rename_i hk
     have := hu.data hk
     refine ⟨hs.code, ?_, hs.labels, hs.ent⟩
     have : (putW q.data u.idx n).length = q.data.length := by simp [putW, wordOf_len]; omega
     rw [this]; exact hs.data
   · exact ⟨hs.code, hs.data, hs.labels, by show _ ≤ n ∧ n ≤ _; omega⟩
theorem uses_13 {a2 : OA} {n2 k2 : Nat} {l2 : Bs} {i2 i3 : Int} {a3 : OA} {n3 k3 : Nat} (x0 : Ext h0 hb) (hO : OpTab hb) (hA : ASK hb h p mS a K) (hL : Lim a) (hV : Inv a) :
 usesT p a2 n2 k2 l2 i2 i3 a3 n3 k3 h fun v h' => AsmR h0 (passS a) v h' := by
 unfold usesT
 have hul : a.uses.length ≤ 10000 := by
  have := hL.uses; have := hL.code; have := hL.data
  have : a.hasEntry.toNat ≤ 1 := by cases a.hasEntry <;> decide
  omega
 refine ⟨K.ua, a.uses.length, K.uc, (by rw [PA_cell hA.obj]; rfl), fun m i _ _ _ _ _ _ _ _ _ h' => ∃ (j : Nat) (a' : As.St), i = (j : Int) ∧ j + m = a.uses.length ∧ ASK hb h' p mS a' K ∧ a'.uses = a.uses ∧ SameSz a.p a'.p ∧ resolveS a.p a.uses = resolveS a'.p (a.uses.drop j),
  ⟨a.uses.length, 0, a, rfl, by omega, hA, rfl, ⟨rfl, rfl, rfl, hV.ent⟩, rfl⟩, ?_⟩
 rintro m _ a5 n5 k5 l5 i7 i8 a6 n6 k6 h1 ⟨j, a', rfl, hjm, hA1, hu1, hsz, hres⟩
 refine br_split (fun e => ?_) fun e => ?_
 · have hlt : j < a.uses.length := by have := of_decide_eq_true e; omega
   have hg : a.uses[j]? = some a.uses[j] := by simp [hlt]
   have hdr := List.drop_eq_getElem_cons hlt
   have hmem := List.getElem_mem hlt
   rw [hdr, resolve_cons] at hres
   generalize a.uses[j] = u at *
   have hU := hA1.useAt
   rw [hu1] at hU
   have hlt2 : j < K.ul.length := by rw [← hU.1]; exact hlt
   have hg2 : K.ul[j]? = some K.ul[j] := by simp [hlt2]
   have hAt := hU.2 j u _ hg hg2
   obtain ⟨b, hba, hrow⟩ := hA1.uses.rowAt hg2
   generalize K.ul[j] = cs at *
   obtain ⟨b1, b2, b3, b4, b5, f, y, rfl, d1, d2, d3, d4, d5, hP⟩ := hAt
   have huo : UseOk a'.p u := (hV.uses u hmem).mono (by rw [hsz.code]; exact Nat.le_refl _) (by rw [hsz.data]; exact Nat.le_refl _)
   have hlb : ∀ l ∈ a'.p.labels, 0 ≤ l.off ∧ l.off ≤ 4096 := by rw [hsz.labels]; exact hV.labs
   have hcl : a'.p.code.length ≤ 1000000 := by rw [hsz.code]; have := hL.code; omega
   refine ⟨b, 0, hba, ⟨by omega, by omega⟩, _, _, _, _, (by rw [Int.toNat_natCast]; exact hrow), ?_⟩
   refine Tri.mono (value1_t hA1 d1 d2 d3 d4 d5 hP huo hlb hcl) ?_
   intro v h2 hR
   unfold ValR at hR
   cases had : address a'.p u.name with
   | none =>
     rw [had] at hR hres
     obtain ⟨rfl, hA2⟩ := hR
     refine ⟨_, rfl, br_pos rfl ⟨rfl, x0.trans hA2.ext, ?_⟩⟩
     unfold passS
     rw [hres]
     exact ⟨by decide, rfl⟩
   | some n =>
     rw [had] at hR hres
     simp only at hR hres
     by_cases hr : n < u.low ∨ u.high < n
     · rw [if_pos hr] at hR hres
       obtain ⟨rfl, hA2⟩ := hR
       refine ⟨_, rfl, br_pos rfl ⟨rfl, x0.trans hA2.ext, ?_⟩⟩
       unfold passS
       rw [hres]
       exact ⟨by decide, rfl⟩
     · rw [if_neg hr] at hR hres
       obtain ⟨rfl, hA2⟩ := hR
       have hn : 0 ≤ n ∧ n ≤ 5000000 := by
        unfold address at had
        simp only [Option.map_eq_some_iff] at had
        obtain ⟨l, h1, rfl⟩ := had
        exact place_range hcl (hlb l (List.mem_of_find?_eq_some h1))
       refine ⟨_, rfl, br_neg rfl ⟨m - 1, by omega, ⟨j + 1, _, ?_, by omega, hA2, hu1, hsz.put huo hn, hres⟩, trivial⟩⟩
       rw [wrap64 (by omega) (by omega)]; omega
 · have hj : j = a.uses.length := by have := of_decide_eq_false e; omega
   subst hj
   rw [List.drop_length] at hres
   have hres : resolveS a.p a.uses = .ok a'.p := hres
   have hp2 : passS a = finS a'.p := by unfold passS; rw [hres]
   rw [hp2]
   refine ⟨K.da, a'.p.data.length, K.dc, (by rw [PA_cell hA1.obj]; rfl), a'.p.data, hA1.data.bytes, _, _, _, hA1.obj, ⟨by simp, Nat.zero_le _⟩, ?_⟩
   rintro h2 rfl
   have hcA : (Obj.cells ⟨splice [vM mS, vL K.ca a'.p.code.length K.cc, vS [], vI a'.p.zero, vI a'.p.entry, vL none 0 0, vL K.da a'.p.data.length K.dc, vB a'.inData, vB a'.hasEntry, vB a'.hasZero, vM K.mb, vI a'.line, vL K.ua a'.uses.length K.uc] 2 [vS a'.p.data]⟩ 74 (0, 0)) =
    FA mS K.ca K.cc a'.p none 0 0 [vL K.da a'.p.data.length K.dc, vB a'.inData, vB a'.hasEntry, vB a'.hasZero, vM K.mb, vI a'.line, vL K.ua a'.uses.length K.uc] := rfl
   rw [hcA]
   generalize htl : [vL K.da a'.p.data.length K.dc, vB a'.inData, vB a'.hasEntry, vB a'.hasZero, vM K.mb, vI (a'.line : Int), vL K.ua a'.uses.length K.uc] = tl
   have hmbp := hA1.mbp
   have c10 : (h1.put p (FA mS K.ca K.cc a'.p none 0 0 tl)).cell p 10 = some (vM K.mb) := by
    rw [← htl]; exact (cell_of (put_same _ _ _) 10).trans rfl
   refine ⟨K.mb, c10, ?_⟩
   have hlen : a'.p.labels.length ≤ 1024 := by rw [hsz.labels]; exact hL.labels
   refine Raw.mono (raw_range und71 rfl (by rw [put_ne hmbp]; exact hA1.labs)) ?_
   rintro _ h3 ⟨r, hrn, rfl, rfl⟩
   refine ⟨r, 0, rfl, ?_⟩
   have hrp : r ≠ p := fun e => by subst e; rw [put_same] at hrn; cases hrn
   have hrn1 : h1 r = none := by rw [put_ne hrp] at hrn; exact hrn
   let hb1 : PHeap := fun q => if q = p then none else h1 q
   have g1 : ∀ q, q ≠ p → hb1 q = h1 q := fun q hq => if_neg hq
   have gp : hb1 p = none := if_pos rfl
   have xb : Ext hb hb1 := fun q o hq => by
    rw [g1 q fun e => by subst e; rw [hA1.new] at hq; cases hq]; exact hA1.ext _ _ hq
   have hIn : InAt hb1 K.ca a'.p.code := by
    have := LM.keep (h' := hb1) (fun b hb => g1 b (hA1.code.ne hA1.obj (notP 58 (by decide)) b hb)) hA1.code
    exact this.ins
   refine loop_13 (X := _) (mS := mS) (tl := tl) (mb := K.mb) (x0.trans xb) (hO.ext xb) (fun q o hq => ?_) gp ?_ hIn hA1.code.okN (by rw [g1 r hrp]; exact hrn1) hrp (put_same _ _ _) (by rw [g1 _ hmbp]; exact hA1.labs) (by rw [hsz.labels]; exact hV.nd) (by rw [hsz.code]; have := hL.code; omega) (by rw [hsz.data]; have := hL.data; omega) (by omega) (by rw [hsz.labels]; exact hV.labs) hsz.ent
   · have hqp : q ≠ p := fun e => by subst e; rw [gp] at hq; cases hq
     have hqr : q ≠ r := fun e => by subst e; rw [g1 q hqp, hrn1] at hq; cases hq
     rw [g1 q hqp] at hq
     rw [put_ne hqr, put_ne hqp]; exact hq
   · rw [put_ne (Ne.symm hrp), put_same]
end
end Go.Proofs.D
namespace Go.As
theorem split_each : ∀ (s : Bytes), ∀ x ∈ splitAt10 s, x.length ≤ s.length := by
 intro s x hx
 have := split_sum s
 have h2 : ∀ (l : List Nat), ∀ n ∈ l, n ≤ l.sum := by
  intro l
  induction l with
  | nil => intro n hn; cases hn
  | cons m l ih =>
    intro n hn
    rw [List.sum_cons]
    rcases List.mem_cons.1 hn with rfl | hn
    · omega
    · have := ih n hn; omega
 have := h2 _ x.length (List.mem_map_of_mem hx)
 omega
theorem split_count : ∀ (s : Bytes), (splitAt10 s).length ≤ s.length + 1
 | [] => by simp [splitAt10]
 | c :: r => by
   have ih := split_count r
   rw [splitAt10]
   split
   · simp only [List.length_cons]; omega
   · cases hs : splitAt10 r with
     | nil => simp
     | cons x l => rw [hs] at ih; simp only [List.length_cons] at *; omega
theorem lim0 : Lim st0 := ⟨by decide, by decide, by decide, by decide⟩
theorem inv0 : Inv st0 := ⟨fun _ h => (List.not_mem_nil h).elim, fun _ h => (List.not_mem_nil h).elim, List.nodup_nil, by decide⟩
end Go.As
namespace Go.Proofs.D
open Go Go.Den Go.As
set_option maxRecDepth 100000
attribute [local irreducible] IntKind.wrap Tri
theorem assemble_pass (s : Bytes) : assembleS s = if 65536 < s.length then .error (0, 5) else match linesS As.st0 (splitAt10 s) with
 | .error e => .error e
 | .ok a => passS a := rfl
theorem asm_t {h : PHeap} (s : Bytes) (hO : OpTab h) (hM : MaxLen h) : Tri Tryz.prog 13 [vS s] h fun v h' => AsmR h (assembleS s) v h' := by
 refine T13 ?_
 unfold R13
 refine br_split (fun e => ?_) fun e => ?_
 · have e := of_decide_eq_true e
   rw [assemble_pass, if_pos (by omega)]
   exact ⟨Ext.refl _, by decide, rfl⟩
 have hs : s.length ≤ 65536 := by have := of_decide_eq_false e; omega
 have hpass : assembleS s = match linesS As.st0 (splitAt10 s) with
  | .error e => .error e
  | .ok a => passS a := by rw [assemble_pass, if_neg (by omega)]
 refine Tri.mono (statements_t hO) ?_
 rintro _ h1 ⟨m1, rfl, x1, hS⟩
 refine ⟨m1, rfl, ?_⟩
 refine Raw.mono (raw_makeMap (Q := fun v h' => ∃ m, v = vM m ∧ h1 m = none ∧ h' = h1.put m (.map ⟨ents []⟩ 0)) fun b hb => ⟨b, rfl, hb, rfl⟩) ?_
 rintro _ h2 ⟨m2, rfl, hm2, hh2⟩
 refine ⟨m2, rfl, ?_⟩
 intro b1 hb1 h3 hh3
 have x2 := Put.ext hh2 hm2
 have x3 := Put.ext hh3 hb1
 have hK3 : ASK h1 h3 b1 m1 { As.st0 with line := 0 } ⟨none, 0, none, 0, none, 0, m2, []⟩ :=
  ⟨x2.trans x3, x2.dom _ hb1, Put.at hh3, LM.nil, LM.nil, LM.nil, ⟨rfl, fun j u cs h1 _ => by simp [As.st0] at h1⟩, hm2, x3 _ _ (Put.at hh2)⟩
 refine Tri.mono (split_t s (by omega) (hM.ext (x1.trans (x2.trans x3)))) ?_
 rintro _ h4 ⟨b2, hb2, rfl, hh4⟩
 have x4 := Put.ext hh4 hb2
 obtain ⟨hb4, y4, hA4, hin⟩ := AS.rebase x4 ⟨_, hK3⟩
 have hlines := hin b2 _ hb2 (Put.at hh4)
 have hcnt := split_count s
 have hlen := split_each s
 generalize splitAt10 s = lines at *
 refine ⟨_, _, _, rfl, ?_⟩
 refine ⟨fun m i _ _ _ _ _ _ _ _ _ h' => ∃ (j : Nat) (a : As.St) (l0 : Nat) (hb' : PHeap), i = (j : Int) ∧ j + m = lines.length ∧ Ext hb4 hb' ∧ AS hb' h' b1 m1 { a with line := l0 } ∧ a.line = j + 1 ∧ Lim a ∧ As.Inv a ∧ linesS As.st0 lines = linesS a (lines.drop j),
  ⟨lines.length, 0, As.st0, 0, hb4, rfl, by omega, Ext.refl _, hA4, rfl, lim0, inv0, rfl⟩, ?_⟩
 rintro m _ a2 n2 k2 l2 i2 i3 a3 n3 k3 h5 ⟨j, a, l0, hb', rfl, hjm, y5, hA5, hline, hLim, hInv, hres⟩
 have yb : Ext h hb' := x1.trans (y4.trans y5)
 refine br_split (fun e => ?_) fun e => ?_
 · have hlt : j < lines.length := by have := of_decide_eq_true e; omega
   have hg : lines[j]? = some lines[j] := by simp [hlt]
   have hdr := List.drop_eq_getElem_cons hlt
   have hll := hlen _ (List.getElem_mem hlt)
   rw [hdr, linesS] at hres
   generalize lines[j] = l at *
   refine ⟨b2, 0, rfl, ⟨by omega, by omega⟩, l, ?_, ?_⟩
   · rw [Int.toNat_natCast, Nat.zero_add, Nat.mul_one]
     refine cell_ext (fun ob => hA5.ext b2 ob) (cell_ext (fun ob => y5 b2 ob) ?_)
     rw [cell_of hlines]
     simp [hg]
   obtain ⟨K, hK⟩ := hA5
   refine ⟨_, _, _, hK.obj, ⟨by simp, Nat.zero_le _⟩, ?_⟩
   rintro h6 rfl
   have hw : IntKind.i64.wrap ((j : Int) + 1) = (a.line : Int) := by rw [wrap64 (by omega) (by omega), hline]; omega
   rw [hw]
   have hA6 : AS hb' (h5.put b1 (.cells ⟨splice [vM m1, vL K.ca a.p.code.length K.cc, vS [], vI a.p.zero, vI a.p.entry, vL none 0 0, vL K.da a.p.data.length K.dc, vB a.inData, vB a.hasEntry, vB a.hasZero, vM K.mb, vI l0, vL K.ua a.uses.length K.uc] 11 [vI (a.line : Int)]⟩ 74 (0, 0))) b1 m1 a :=
    ⟨K, hK.set (a' := a) rfl rfl rfl rfl rfl⟩
   refine Tri.mono (read_t (s := l) hA6 (hO.ext yb) (hS.ext (y4.trans y5)) (by omega) hLim) ?_
   intro v h7 hR
   cases hl : lineS a l with
   | error e =>
     rw [hl] at hR hres
     obtain ⟨rfl, g1, g2, g3⟩ := hR
     refine ⟨_, rfl, br_pos (by simp; omega) ⟨_, g3, g3, yb.trans g2, ?_⟩⟩
     rw [hpass, hres]
     exact ⟨g1, rfl⟩
   | ok a' =>
     rw [hl] at hR hres
     obtain ⟨rfl, hb7, g1, g2⟩ := hR
     obtain ⟨q1, q2⟩ := line_lim hLim (by omega) hl
     have q3 := line_inv hLim hInv (by omega) hl
     refine ⟨_, rfl, br_neg rfl ⟨m - 1, by omega, ⟨j + 1, { a' with line := a.line + 1 }, a'.line, hb7, ?_, by omega, y5.trans g1, g2, by simp only; omega, ⟨q1.code, q1.data, q1.labels, q1.uses⟩, ⟨q3.uses, q3.labs, q3.nd, q3.ent⟩, hres⟩, trivial⟩⟩
     omega
 · have hj : j = lines.length := by have := of_decide_eq_false e; omega
   subst hj
   rw [List.drop_length] at hres
   have hr : assembleS s = passS { a with line := l0 } := by rw [hpass, hres]; rfl
   rw [hr]
   obtain ⟨K, hK⟩ := hA5
   exact uses_13 yb (hO.ext yb) hK ⟨hLim.code, hLim.data, hLim.labels, hLim.uses⟩ ⟨hInv.uses, hInv.labs, hInv.nd, hInv.ent⟩
end Go.Proofs.D
namespace Go.As
def tx1 : Bytes := [115, 101, 116, 32, 114, 49, 44, 32, 120, 10, 46, 100, 97, 116, 97, 10, 120, 58, 32, 46, 98, 121, 116, 101, 32, 53]
def tx2 : Bytes := [97, 58, 32, 106, 117, 109, 112, 32, 97, 44, 32, 49]
def tx3 : Bytes := [106, 117, 109, 112, 32, 98]
def tx4 : Bytes := [115, 101, 116, 32, 114, 49, 44, 32, 51, 50, 55, 54, 56]
theorem as1 : assembleS tx1 = .ok ⟨[⟨2, 1, 0, 64⟩], [5], 0, 0, [⟨[120], true, 0⟩]⟩ := by kernel_rfl
theorem as2 : assembleS tx2 = .error (1, 30) := by kernel_rfl
theorem as3 : assembleS tx3 = .error (1, 37) := by kernel_rfl
theorem as4 : assembleS tx4 = .error (1, 2) := by kernel_rfl
end Go.As
namespace Go.Proofs.D
open Go Go.Den Go.As
set_option maxRecDepth 100000
attribute [local irreducible] IntKind.wrap Tri
theorem known_t {h : PHeap} (hO : OpTab h) (hM : MaxLen h) : Tri Tryz.prog 15 [] h fun v h' => v = vB true ∧ Ext h h' := by
 refine T15 ?_
 unfold R15
 refine Tri.mono (asm_t tx1 hO hM) ?_
 rintro v h1 ⟨x1, hr⟩
 rw [as1] at hr
 obtain ⟨a1, k1, a2, k2, rfl, hI, hL, _, _⟩ := hr
 refine ⟨_, _, _, _, _, _, _, _, _, _, _, rfl, ?_⟩
 refine Tri.mono (asm_t tx2 (hO.ext x1) (hM.ext x1)) ?_
 rintro v h2 ⟨x2, hr⟩
 rw [as2] at hr
 obtain ⟨_, rfl⟩ := hr
 refine ⟨_, _, _, _, _, _, _, _, _, _, _, rfl, ?_⟩
 have x12 := x1.trans x2
 refine Tri.mono (asm_t tx3 (hO.ext x12) (hM.ext x12)) ?_
 rintro v h3 ⟨x3, hr⟩
 rw [as3] at hr
 obtain ⟨_, rfl⟩ := hr
 refine ⟨_, _, _, _, _, _, _, _, _, _, _, rfl, ?_⟩
 have x13 := x12.trans x3
 refine Tri.mono (asm_t tx4 (hO.ext x13) (hM.ext x13)) ?_
 rintro v h4 ⟨x4, hr⟩
 rw [as4] at hr
 obtain ⟨_, rfl⟩ := hr
 refine ⟨_, _, _, _, _, _, _, _, _, _, _, rfl, br_pos rfl (br_pos rfl ?_)⟩
 have x24 := (x2.trans x3).trans x4
 obtain ⟨b, o, ha, hrow⟩ := (hI.ext x24).get (j := 0) rfl
 obtain ⟨b', o', ha', hrow'⟩ := (hL.ext x24).get (j := 0) rfl
 rw [Nat.zero_mul, Nat.add_zero] at hrow hrow'
 refine ⟨b, o, ha, by decide, _, hrow.2.2.2, br_pos rfl (br_pos rfl (br_pos rfl ⟨b', o', ha', by decide, _, _, _, hrow', true, pureVal_run _ (by kernel_rfl), br_pos rfl (br_pos rfl (br_pos rfl (br_pos rfl ⟨rfl, x13.trans x4⟩)))⟩))⟩
end Go.Proofs.D
namespace Go.Proofs.D
open Go Go.Den
set_option maxRecDepth 100000
set_option maxHeartbeats 4000000
abbrev ejk1 : List CK := [.slice, .str, qi, qi, .slice]
noncomputable def d21 : DCode := up ⟨[(8, .l ejk1), (9, .c (.one false [qi])), (12, .l [.slice]), (17, .l [.str, .bool, qi]), (19, .l [.str]), (22, .l ejk1), (23, .l [.str, .bool, qi]), (24, .c (.one false [qi]))], [], [(15, 15, [(14, qi)], [])]⟩ (low Tryz.prog (fun _ => false) (Tryz.f21.body.getD .skip))
theorem low21 : low Tryz.prog (fun _ => false) (Tryz.f21.body.getD .skip) = some (eC d21) := by kernel_rfl
def R21 (a1 : OA) (n1 : Nat) (ejk1 : Nat) (l1 : Bs) (i1 : Int) (i2 : Int) (a2 : OA) (n2 : Nat) (k2 : Nat) (l2 : Bs) (h : PHeap) (Q : Value → PHeap → Prop) : Prop :=
 Tri Tryz.prog 24 [vA [vL a1 n1 ejk1, vS l1, vI i1, vI i2, vL a2 n2 k2]] h fun v_1 h_1 =>
 ∃ (i3 : Int), v_1 = vI i3 ∧
 br (i3 != 0)
 (Q (vT [vI 0, vB false]) h_1)
 (∃ (I_1 : Nat → Int → PHeap → Prop), (∃ (m2 : Nat), I_1 m2 (0 : Int) h_1) ∧
 ∀ (m1 : Nat) (i4 : Int) (h_2 : PHeap), I_1 m1 i4 h_2 →
 br (decide (i4 < ((n2 : Nat) : Int)))
 (∃ (b1 o1 : Nat), a2 = some ⟨b1, o1, none⟩ ∧ (0 ≤ i4 ∧ i4 < n2) ∧
 ∃ (l3 : Bs) (c1 : Bool) (i5 : Int), h_2.row b1 (o1 + (i4).toNat * 3) [vS l3, vB c1, vI i5] ∧
 br (l3 == l2)
 (Tri Tryz.prog 44 [vA [vL a1 n1 ejk1, vS l1, vI i1, vI i2, vL a2 n2 k2], vA [vS l3, vB c1, vI i5]] h_2 fun v_2 h_3 =>
 ∃ (i6 : Int), v_2 = vI i6 ∧
 Q (vT [vI i6, vB true]) h_3)
 (∃ (m3 : Nat), m3 < m1 ∧ I_1 m3 (IntKind.i64.wrap (i4 + 1)) h_2 ∧
 tv [vL a1 n1 ejk1, vS l1, vI i1, vI i2, vL a2 n2 k2] ∧ True))
 (Q (vT [vI 0, vB false]) h_2))
theorem T21 {a1 : OA} {n1 : Nat} {ejk1 : Nat} {l1 : Bs} {i1 : Int} {i2 : Int} {a2 : OA} {n2 : Nat} {k2 : Nat} {l2 : Bs} {h : PHeap} {Q : Value → PHeap → Prop} (hR : R21 a1 n1 ejk1 l1 i1 i2 a2 n2 k2 l2 h Q) : Tri Tryz.prog 21 [vA [vL a1 n1 ejk1, vS l1, vI i1, vI i2, vL a2 n2 k2], vS l2] h Q :=
 tri_of_dn mixed Tryz.func21 rfl (by kernel_rfl) low21 (rs := [.tmp 4, .tmp 5]) (by kernel_rfl) rfl (Eq.mpr (by kernel_rfl : dnF Tryz.prog Tryz.f21.ntmps d21 [.tmp 4, .tmp 5] [vA [vL a1 n1 ejk1, vS l1, vI i1, vI i2, vL a2 n2 k2], vS l2] h Q = R21 a1 n1 ejk1 l1 i1 i2 a2 n2 k2 l2 h Q) hR)
abbrev o6_0 : Op := .call { callee := (.builtin .min), args := #[(.tmp 12), (.const (vI 60))], argTypes := #[3, 3] }
noncomputable def d6 : DCode := up ⟨[(13, .c (.one false [qi])), (15, .c (.one false [.bool])), (19, .c (.one false [.bool])), (21, .c (.one false [.bool])), (68, .c (.one false [.bool])), (73, .c (.tup [(true, ejk1), (false, [qi]), (false, [qi])])), (82, .c (.one false [.bool])), (87, .l ejk1), (89, .c (.tup [(false, [qi]), (false, [.bool])]))], [], [(24, 49, [(3, qi)], [])]⟩ (low Tryz.prog (fun _ => false) (Tryz.f6.body.getD .skip))
theorem low6 : low Tryz.prog (fun _ => false) (Tryz.f6.body.getD .skip) = some (eC d6) := by kernel_rfl
def R6 (l1 : Bs) (h : PHeap) (Q : Value → PHeap → Prop) : Prop :=
 ∃ (i1 : Int), PureRun Tryz.prog (execOp (rho [(12, vI (l1.length : Int))]) (mkO o6_0 3)) (vI i1) ∧
 (0 ≤ (0 : Int) ∧ (0 : Int) ≤ i1 ∧ i1 ≤ (l1.length : Int)) ∧
 Tri Tryz.prog 15 [] h fun v_1 h_1 =>
 ∃ (c1 : Bool), v_1 = vB c1 ∧
 br (!c1)
 (Q (vB false) h_1)
 (Tri Tryz.prog 27 [vS ((l1.drop 0).take ((i1).toNat - 0))] h_1 fun v_2 h_2 =>
 ∃ (c2 : Bool), v_2 = vB c2 ∧
 Tri Tryz.prog 28 [vS ((l1.drop 0).take ((i1).toNat - 0))] h_2 fun v_3 h_3 =>
 ∃ (c3 : Bool), v_3 = vB c3 ∧
 br (!(c2 == c3))
 (Q (vB false) h_3)
 (∃ (I_1 : Nat → Int → PHeap → Prop), (∃ (m2 : Nat), I_1 m2 (0 : Int) h_3) ∧
 ∀ (m1 : Nat) (i2 : Int) (h_4 : PHeap), I_1 m1 i2 h_4 →
 br (decide (i2 < ((((l1.drop 0).take ((i1).toNat - 0))).length : Int)))
 (0 ≤ i2 ∧ ∃ (c4 : UInt8), (((l1.drop 0).take ((i1).toNat - 0)))[(i2).toNat]? = some c4 ∧
 br (decide ((c4.toNat : Int) < 97))
 (br (decide ((c4.toNat : Int) < 65))
 (br (decide ((c4.toNat : Int) < 48))
 (br ((c4.toNat : Int) != 95)
 (br ((c4.toNat : Int) != 46)
 (br ((c4.toNat : Int) != 45)
 (Tri Tryz.prog 27 [vS ((l1.drop 0).take ((i1).toNat - 0))] h_4 fun v_4 h_5 =>
 ∃ (c5 : Bool), v_4 = vB c5 ∧
 Q (vB (!c5)) h_5)
 (∃ (m3 : Nat), m3 < m1 ∧ I_1 m3 (IntKind.i64.wrap (i2 + 1)) h_4 ∧
 True))
 (∃ (m4 : Nat), m4 < m1 ∧ I_1 m4 (IntKind.i64.wrap (i2 + 1)) h_4 ∧
 True))
 (∃ (m5 : Nat), m5 < m1 ∧ I_1 m5 (IntKind.i64.wrap (i2 + 1)) h_4 ∧
 True))
 (br (decide ((c4.toNat : Int) > 57))
 (br ((c4.toNat : Int) != 95)
 (br ((c4.toNat : Int) != 46)
 (br ((c4.toNat : Int) != 45)
 (Tri Tryz.prog 27 [vS ((l1.drop 0).take ((i1).toNat - 0))] h_4 fun v_5 h_6 =>
 ∃ (c6 : Bool), v_5 = vB c6 ∧
 Q (vB (!c6)) h_6)
 (∃ (m6 : Nat), m6 < m1 ∧ I_1 m6 (IntKind.i64.wrap (i2 + 1)) h_4 ∧
 True))
 (∃ (m7 : Nat), m7 < m1 ∧ I_1 m7 (IntKind.i64.wrap (i2 + 1)) h_4 ∧
 True))
 (∃ (m8 : Nat), m8 < m1 ∧ I_1 m8 (IntKind.i64.wrap (i2 + 1)) h_4 ∧
 True))
 (∃ (m9 : Nat), m9 < m1 ∧ I_1 m9 (IntKind.i64.wrap (i2 + 1)) h_4 ∧
 True)))
 (br (decide ((c4.toNat : Int) > 90))
 (br (decide ((c4.toNat : Int) < 48))
 (br ((c4.toNat : Int) != 95)
 (br ((c4.toNat : Int) != 46)
 (br ((c4.toNat : Int) != 45)
 (Tri Tryz.prog 27 [vS ((l1.drop 0).take ((i1).toNat - 0))] h_4 fun v_6 h_7 =>
 ∃ (c7 : Bool), v_6 = vB c7 ∧
 Q (vB (!c7)) h_7)
 (∃ (m10 : Nat), m10 < m1 ∧ I_1 m10 (IntKind.i64.wrap (i2 + 1)) h_4 ∧
 True))
 (∃ (m11 : Nat), m11 < m1 ∧ I_1 m11 (IntKind.i64.wrap (i2 + 1)) h_4 ∧
 True))
 (∃ (m12 : Nat), m12 < m1 ∧ I_1 m12 (IntKind.i64.wrap (i2 + 1)) h_4 ∧
 True))
 (br (decide ((c4.toNat : Int) > 57))
 (br ((c4.toNat : Int) != 95)
 (br ((c4.toNat : Int) != 46)
 (br ((c4.toNat : Int) != 45)
 (Tri Tryz.prog 27 [vS ((l1.drop 0).take ((i1).toNat - 0))] h_4 fun v_7 h_8 =>
 ∃ (c8 : Bool), v_7 = vB c8 ∧
 Q (vB (!c8)) h_8)
 (∃ (m13 : Nat), m13 < m1 ∧ I_1 m13 (IntKind.i64.wrap (i2 + 1)) h_4 ∧
 True))
 (∃ (m14 : Nat), m14 < m1 ∧ I_1 m14 (IntKind.i64.wrap (i2 + 1)) h_4 ∧
 True))
 (∃ (m15 : Nat), m15 < m1 ∧ I_1 m15 (IntKind.i64.wrap (i2 + 1)) h_4 ∧
 True))
 (∃ (m16 : Nat), m16 < m1 ∧ I_1 m16 (IntKind.i64.wrap (i2 + 1)) h_4 ∧
 True)))
 (∃ (m17 : Nat), m17 < m1 ∧ I_1 m17 (IntKind.i64.wrap (i2 + 1)) h_4 ∧
 True)))
 (br (decide ((c4.toNat : Int) > 122))
 (br (decide ((c4.toNat : Int) < 65))
 (br (decide ((c4.toNat : Int) < 48))
 (br ((c4.toNat : Int) != 95)
 (br ((c4.toNat : Int) != 46)
 (br ((c4.toNat : Int) != 45)
 (Tri Tryz.prog 27 [vS ((l1.drop 0).take ((i1).toNat - 0))] h_4 fun v_8 h_9 =>
 ∃ (c9 : Bool), v_8 = vB c9 ∧
 Q (vB (!c9)) h_9)
 (∃ (m18 : Nat), m18 < m1 ∧ I_1 m18 (IntKind.i64.wrap (i2 + 1)) h_4 ∧
 True))
 (∃ (m19 : Nat), m19 < m1 ∧ I_1 m19 (IntKind.i64.wrap (i2 + 1)) h_4 ∧
 True))
 (∃ (m20 : Nat), m20 < m1 ∧ I_1 m20 (IntKind.i64.wrap (i2 + 1)) h_4 ∧
 True))
 (br (decide ((c4.toNat : Int) > 57))
 (br ((c4.toNat : Int) != 95)
 (br ((c4.toNat : Int) != 46)
 (br ((c4.toNat : Int) != 45)
 (Tri Tryz.prog 27 [vS ((l1.drop 0).take ((i1).toNat - 0))] h_4 fun v_9 h_10 =>
 ∃ (c10 : Bool), v_9 = vB c10 ∧
 Q (vB (!c10)) h_10)
 (∃ (m21 : Nat), m21 < m1 ∧ I_1 m21 (IntKind.i64.wrap (i2 + 1)) h_4 ∧
 True))
 (∃ (m22 : Nat), m22 < m1 ∧ I_1 m22 (IntKind.i64.wrap (i2 + 1)) h_4 ∧
 True))
 (∃ (m23 : Nat), m23 < m1 ∧ I_1 m23 (IntKind.i64.wrap (i2 + 1)) h_4 ∧
 True))
 (∃ (m24 : Nat), m24 < m1 ∧ I_1 m24 (IntKind.i64.wrap (i2 + 1)) h_4 ∧
 True)))
 (br (decide ((c4.toNat : Int) > 90))
 (br (decide ((c4.toNat : Int) < 48))
 (br ((c4.toNat : Int) != 95)
 (br ((c4.toNat : Int) != 46)
 (br ((c4.toNat : Int) != 45)
 (Tri Tryz.prog 27 [vS ((l1.drop 0).take ((i1).toNat - 0))] h_4 fun v_10 h_11 =>
 ∃ (c11 : Bool), v_10 = vB c11 ∧
 Q (vB (!c11)) h_11)
 (∃ (m25 : Nat), m25 < m1 ∧ I_1 m25 (IntKind.i64.wrap (i2 + 1)) h_4 ∧
 True))
 (∃ (m26 : Nat), m26 < m1 ∧ I_1 m26 (IntKind.i64.wrap (i2 + 1)) h_4 ∧
 True))
 (∃ (m27 : Nat), m27 < m1 ∧ I_1 m27 (IntKind.i64.wrap (i2 + 1)) h_4 ∧
 True))
 (br (decide ((c4.toNat : Int) > 57))
 (br ((c4.toNat : Int) != 95)
 (br ((c4.toNat : Int) != 46)
 (br ((c4.toNat : Int) != 45)
 (Tri Tryz.prog 27 [vS ((l1.drop 0).take ((i1).toNat - 0))] h_4 fun v_11 h_12 =>
 ∃ (c12 : Bool), v_11 = vB c12 ∧
 Q (vB (!c12)) h_12)
 (∃ (m28 : Nat), m28 < m1 ∧ I_1 m28 (IntKind.i64.wrap (i2 + 1)) h_4 ∧
 True))
 (∃ (m29 : Nat), m29 < m1 ∧ I_1 m29 (IntKind.i64.wrap (i2 + 1)) h_4 ∧
 True))
 (∃ (m30 : Nat), m30 < m1 ∧ I_1 m30 (IntKind.i64.wrap (i2 + 1)) h_4 ∧
 True))
 (∃ (m31 : Nat), m31 < m1 ∧ I_1 m31 (IntKind.i64.wrap (i2 + 1)) h_4 ∧
 True)))
 (∃ (m32 : Nat), m32 < m1 ∧ I_1 m32 (IntKind.i64.wrap (i2 + 1)) h_4 ∧
 True)))
 (∃ (m33 : Nat), m33 < m1 ∧ I_1 m33 (IntKind.i64.wrap (i2 + 1)) h_4 ∧
 True)))
 (((l1.drop 0).take ((i1).toNat - 0)).length + ([58, 104, 97, 108, 116] : Bs).length ≤ 9223372036854775807 ∧
 Tri Tryz.prog 13 [vS (((l1.drop 0).take ((i1).toNat - 0)) ++ ([58, 104, 97, 108, 116] : Bs))] h_4 fun v_12 h_13 =>
 ∃ (a1 : OA) (n1 ejk1 : Nat) (l2 : Bs) (i3 i4 : Int) (a2 : OA) (n2 k2 : Nat) (i5 i6 : Int), v_12 = vT [vA [vL a1 n1 ejk1, vS l2, vI i3, vI i4, vL a2 n2 k2], vI i5, vI i6] ∧
 br (((l1.drop 0).take ((i1).toNat - 0)) == [])
 (Q (vB (i6 == 30)) h_13)
 (Tri Tryz.prog 27 [vS ((l1.drop 0).take ((i1).toNat - 0))] h_13 fun v_13 h_14 =>
 ∃ (c13 : Bool), v_13 = vB c13 ∧
 br (!c13)
 (Q (vB (i6 == 12)) h_14)
 (Tri Tryz.prog 21 [vA [vL a1 n1 ejk1, vS l2, vI i3, vI i4, vL a2 n2 k2], vS ((l1.drop 0).take ((i1).toNat - 0))] h_14 fun v_14 h_15 =>
 ∃ (i7 : Int) (c14 : Bool), v_14 = vT [vI i7, vB c14] ∧
 br (i6 == 0)
 (br c14
 (Q (vB (i7 == 0)) h_15)
 (Q (vB false) h_15))
 (Q (vB false) h_15))))))
theorem T6 {l1 : Bs} {h : PHeap} {Q : Value → PHeap → Prop} (hR : R6 l1 h Q) : Tri Tryz.prog 6 [vS l1] h Q :=
 tri_of_dn mixed Tryz.func6 rfl (by kernel_rfl) low6 (rs := [.tmp 2]) (by kernel_rfl) rfl (Eq.mpr (by kernel_rfl : dnF Tryz.prog Tryz.f6.ntmps d6 [.tmp 2] [vS l1] h Q = R6 l1 h Q) hR)
end Go.Proofs.D
namespace Go.As
theorem word_tab : ∀ n : Fin 256, wordB (UInt8.ofNat n.val) = decide ((97 ≤ n.val ∧ n.val ≤ 122) ∨ (65 ≤ n.val ∧ n.val ≤ 90) ∨ (48 ≤ n.val ∧ n.val ≤ 57) ∨ n.val = 95 ∨ n.val = 46 ∨ n.val = 45) := by decide +kernel
theorem word_iff (c : UInt8) : wordB c = decide ((97 ≤ c.toNat ∧ c.toNat ≤ 122) ∨ (65 ≤ c.toNat ∧ c.toNat ≤ 90) ∨ (48 ≤ c.toNat ∧ c.toNat ≤ 57) ∨ c.toNat = 95 ∨ c.toNat = 46 ∨ c.toNat = 45) := by
 have := word_tab ⟨c.toNat, c.toNat_lt⟩
 simpa using this
def hlt : Bytes := [58, 104, 97, 108, 116]
theorem word10 {c : UInt8} (h : wordB c = true) : c ≠ 10 := by rintro rfl; exact absurd h (by decide)
theorem split_none : ∀ (s : Bytes), (∀ c ∈ s, c ≠ 10) → splitAt10 s = [s]
 | [], _ => rfl
 | c :: r, h => by
   rw [splitAt10, if_neg (h c (List.mem_cons_self ..)), split_none r fun x hx => h x (List.mem_cons_of_mem _ hx)]
theorem hlt_stop : Stop hlt := stop_cons (by decide) _
theorem name_split {s : Bytes} (hs : s.all wordB = true) : splitAt10 (s ++ hlt) = [s ++ hlt] := by
 refine split_none _ fun c hc => ?_
 rcases List.mem_append.1 hc with h | h
 · exact word10 (List.all_eq_true.1 hs c h)
 · revert c
   intro c _ h
   have : ∀ c ∈ hlt, c ≠ 10 := by decide
   exact this c h
theorem name_tok {s : Bytes} (hs : s.all wordB = true) (hn : s ≠ []) : tokensL (s ++ hlt) = some [⟨1, s⟩, ⟨4, [58]⟩, ⟨1, [104, 97, 108, 116]⟩] := by
 rw [tokL_word hs hn hlt_stop]
 rw [show tokensL hlt = some [⟨4, [58]⟩, ⟨1, [104, 97, 108, 116]⟩] by kernel_rfl]; rfl
theorem name_line {s : Bytes} (hs : s.all wordB = true) (hn : s ≠ []) : lineS st0 (s ++ hlt) = (defineS st0 [s] >>= fun a => stmtS a [104, 97, 108, 116] []) := by
 unfold lineS
 rw [name_tok hs hn]
 rfl
def nameP (s : Bytes) : Pg := ⟨[⟨0, 0, 0, 0⟩], [], 0, 0, [⟨s, false, 0⟩]⟩
theorem name_bad {s : Bytes} (hs : s.all wordB = true) (hn : s ≠ []) (hb : s.length ≤ 60) (hl : isLabel s = false) : assembleS (s ++ hlt) = .error (1, 12) := by
 unfold assembleS
 rw [if_neg (by rw [List.length_append]; show ¬ 65536 < s.length + 5; omega), name_split hs]
 rw [linesS, name_line hs hn, defineS, if_pos hl]; rfl
theorem name_check {s : Bytes} (hl : isLabel s = true) : checkP (nameP s) = 0 := by
 have h1 : labelsErr (nameP s) none [⟨s, false, 0⟩] = 0 := by
  rw [labelsErr, if_neg (by rw [hl]; decide), if_neg (by simp [nameP]), if_neg (by simp)]; rfl
 unfold checkP
 rw [show ((nameP s).code.map checkI).find? (· ≠ 0) = none from by kernel_rfl]
 simp only
 rw [if_neg (by simp [nameP, dataAt]), if_neg (by simp [nameP])]
 rw [show (nameP s).labels = [⟨s, false, 0⟩] from rfl, h1]
 simp [twice]
theorem name_good {s : Bytes} (hs : s.all wordB = true) (hn : s ≠ []) (hb : s.length ≤ 60) (hl : isLabel s = true) : assembleS (s ++ hlt) = .ok (nameP s) := by
 unfold assembleS
 rw [if_neg (by rw [List.length_append]; show ¬ 65536 < s.length + 5; omega), name_split hs]
 rw [linesS, name_line hs hn, defineS, if_neg (by rw [hl]; decide), if_neg (by simp [st0]), if_neg (by simp [st0])]
 have h2 : (defineS { st0 with p := { st0.p with labels := st0.p.labels ++ [⟨s, st0.inData, if st0.inData then (st0.p.data.length : Int) else (4 * st0.p.code.length : Nat)⟩] } } [] >>= fun a => stmtS a [104, 97, 108, 116] []) = .ok { st0 with p := nameP s } := by kernel_rfl
 rw [h2]
 have h3 : linesS { ({ st0 with p := nameP s } : St) with line := st0.line + 1 } [] = .ok { ({ st0 with p := nameP s } : St) with line := 2 } := rfl
 simp only [h3]
 have h4 : resolveS (nameP s) st0.uses = .ok (nameP s) := rfl
 simp only [h4]
 have h5 : sortL (nameP s).labels = (nameP s).labels := rfl
 rw [h5]
 have h6 : ({ nameP s with labels := (nameP s).labels } : Pg) = nameP s := rfl
 rw [h6, name_check hl]; rfl
end Go.As
namespace Go.Proofs.D
open Go Go.Den Go.As
set_option maxRecDepth 100000
attribute [local irreducible] IntKind.wrap Tri
section
variable {h : PHeap}
def adrV (p : Pg) (n : Bytes) : Value := if checkP p ≠ 0 then vT [vI 0, vB false] else match address p n with
 | none => vT [vI 0, vB false]
 | some i => vT [vI i, vB true]
theorem address21_t (hO : OpTab h) {a1 : OA} {k1 : Nat} {a2 : OA} {k2 : Nat} {p : Pg} {n : Bytes} (hI : InAt h a1 p.code) (hL : LbAt h a2 p.labels) (hn : p.code.length ≤ 1000000) (hd : p.data.length ≤ 1000000) (hls : p.labels.length ≤ 1000000) (ho : ∀ l ∈ p.labels, -9223372036854775808 ≤ l.off ∧ l.off ≤ 9223372036854775807) (he : -9223372036854775808 ≤ p.entry ∧ p.entry ≤ 9223372036854775807) :
 Tri Tryz.prog 21 [vA [vL a1 p.code.length k1, vS p.data, vI p.zero, vI p.entry, vL a2 p.labels.length k2], vS n] h fun v h' => v = adrV p n ∧ Ext h h' := by
 refine T21 ?_
 unfold R21
 refine Tri.mono (check_t hO hI hL hn hd hls ho he) ?_
 rintro _ h1 ⟨rfl, x1⟩
 refine ⟨_, rfl, br_split (fun e => ?_) fun e => ?_⟩
 · have e : checkP p ≠ 0 := by simpa using e
   unfold adrV; rw [if_pos e]
   exact ⟨rfl, x1⟩
 have e : checkP p = 0 := by simpa using e
 have hok := check_ok e
 have hadr : adrV p n = match address p n with
  | none => vT [vI 0, vB false]
  | some i => vT [vI i, vB true] := by unfold adrV; rw [if_neg (by simp [e])]
 refine ⟨fun m i h' => ∃ j : Nat, i = (j : Int) ∧ j + m = p.labels.length ∧ h' = h1 ∧ (p.labels.find? fun l => l.name == n) = ((p.labels.drop j).find? fun l => l.name == n), ⟨p.labels.length, 0, rfl, by omega, rfl, rfl⟩, ?_⟩
 rintro m _ h2 ⟨j, rfl, hjm, rfl, hf⟩
 refine br_split (fun e1 => ?_) fun e1 => ?_
 · have hlt : j < p.labels.length := by have := of_decide_eq_true e1; omega
   have hg : p.labels[j]? = some p.labels[j] := by simp [hlt]
   have hdr := List.drop_eq_getElem_cons hlt
   have hmem := List.getElem_mem hlt
   rw [hdr, List.find?_cons] at hf
   generalize p.labels[j] = l at *
   obtain ⟨b, o, ha, hr⟩ := (hL.ext x1).get hg
   refine ⟨b, o, ha, ⟨by omega, by omega⟩, _, _, _, (by rw [Int.toNat_natCast]; exact hr), br_split (fun e2 => ?_) fun e2 => ?_⟩
   · rw [e2] at hf
     have hlo := hok.each l hmem
     have hb : -1000000000 ≤ l.off ∧ l.off ≤ 1000000000 := by
      have h1 := hlo.lo
      have h2 := hok.zero
      have h3 := hok.codeLen
      cases hd : l.data with
      | true => have := hlo.dat hd; omega
      | false => have := hlo.code hd; omega
     refine Tri.mono (address_t (p := p) hn hb) ?_
     rintro _ h2 ⟨rfl, rfl⟩
     refine ⟨_, rfl, ?_, x1⟩
     rw [hadr]
     unfold address
     rw [hf]; rfl
   · rw [e2] at hf
     refine ⟨m - 1, by omega, ⟨j + 1, ?_, by omega, rfl, hf⟩, rfl, trivial⟩
     rw [wrap64 (by omega) (by omega)]; omega
 · have hj : j = p.labels.length := by have := of_decide_eq_false e1; omega
   subst hj
   rw [List.drop_length] at hf
   refine ⟨?_, x1⟩
   rw [hadr]
   unfold address
   rw [hf]; rfl
def N6 (c : UInt8) (A B : Prop) : Prop := br ((c.toNat : Int) != 95) (br ((c.toNat : Int) != 46) (br ((c.toNat : Int) != 45) A B) B) B
def D6 (c : UInt8) (A B : Prop) : Prop := br (decide ((c.toNat : Int) < 48)) (N6 c A B) (br (decide ((c.toNat : Int) > 57)) (N6 c A B) B)
def U6 (c : UInt8) (A B : Prop) : Prop := br (decide ((c.toNat : Int) < 65)) (D6 c A B) (br (decide ((c.toNat : Int) > 90)) (D6 c A B) B)
def T6r (c : UInt8) (A B : Prop) : Prop := br (decide ((c.toNat : Int) < 97)) (U6 c A B) (br (decide ((c.toNat : Int) > 122)) (U6 c A B) B)
theorem tree_6 {c : UInt8} {A B : Prop} (hA : wordB c = false → A) (hB : wordB c = true → B) : T6r c A B := by
 have key := word_iff c
 have bb : (97 ≤ c.toNat ∧ c.toNat ≤ 122) ∨ (65 ≤ c.toNat ∧ c.toNat ≤ 90) ∨ (48 ≤ c.toNat ∧ c.toNat ≤ 57) ∨ c.toNat = 95 ∨ c.toNat = 46 ∨ c.toNat = 45 → B := fun h => hB (by rw [key]; exact decide_eq_true h)
 have aa : ¬ ((97 ≤ c.toNat ∧ c.toNat ≤ 122) ∨ (65 ≤ c.toNat ∧ c.toNat ≤ 90) ∨ (48 ≤ c.toNat ∧ c.toNat ≤ 57) ∨ c.toNat = 95 ∨ c.toNat = 46 ∨ c.toNat = 45) → A := fun h => hA (by rw [key]; exact decide_eq_false h)
 have n6 : ¬ ((97 ≤ c.toNat ∧ c.toNat ≤ 122) ∨ (65 ≤ c.toNat ∧ c.toNat ≤ 90) ∨ (48 ≤ c.toNat ∧ c.toNat ≤ 57)) → N6 c A B := fun h => by
  refine br_split (fun e => br_split (fun e1 => br_split (fun e2 => aa ?_) fun e2 => bb ?_) fun e1 => bb ?_) fun e => bb ?_
  all_goals simp at *; omega
 have d6 : ¬ ((97 ≤ c.toNat ∧ c.toNat ≤ 122) ∨ (65 ≤ c.toNat ∧ c.toNat ≤ 90)) → D6 c A B := fun h => by
  refine br_split (fun e => n6 ?_) fun e => br_split (fun e1 => n6 ?_) fun e1 => bb ?_
  all_goals simp at *; omega
 have u6 : ¬ (97 ≤ c.toNat ∧ c.toNat ≤ 122) → U6 c A B := fun h => by
  refine br_split (fun e => d6 ?_) fun e => br_split (fun e1 => d6 ?_) fun e1 => bb ?_
  all_goals simp at *; omega
 refine br_split (fun e => u6 ?_) fun e => br_split (fun e1 => u6 ?_) fun e1 => bb ?_
 all_goals simp at *; omega
end
theorem names_tri {h : PHeap} (hO : OpTab h) (hM : MaxLen h) (l1 : Bs) : Tri Tryz.prog 6 [vS l1] h fun v h' => v = vB true ∧ ∀ k o, h k = some o → h' k = some o := by
 refine T6 ?_
 unfold R6
 refine ⟨if 60 < (l1.length : Int) then 60 else (l1.length : Int), pureVal_run _ (by kernel_rfl), by split <;> omega, ?_⟩
 have hcut : (l1.drop 0).take ((if 60 < (l1.length : Int) then 60 else (l1.length : Int)).toNat - 0) = l1.take 60 := by
  rw [List.drop_zero, Nat.sub_zero]
  split
  · rfl
  · rw [Int.toNat_natCast, List.take_length, List.take_of_length_le (by omega)]
 rw [hcut]
 have hb : (l1.take 60).length ≤ 60 := by rw [List.length_take]; omega
 generalize l1.take 60 = s at *
 refine Tri.mono (known_t hO hM) ?_
 rintro _ h1 ⟨rfl, x1⟩
 refine ⟨_, rfl, br_neg rfl ?_⟩
 refine Tri.mono (label_t h1 s) ?_
 rintro _ h1 ⟨rfl, rfl⟩
 refine ⟨_, rfl, ?_⟩
 refine Tri.mono (rlabel_t h1 s) ?_
 rintro _ h1 ⟨rfl, rfl⟩
 refine ⟨_, rfl, br_neg (by simp) ?_⟩
 refine ⟨fun m i h' => ∃ j : Nat, i = (j : Int) ∧ j + m = s.length ∧ h' = h1 ∧ (s.take j).all wordB = true, ⟨s.length, 0, rfl, by omega, rfl, by simp⟩, ?_⟩
 rintro m _ h2 ⟨j, rfl, hjm, rfl, hall⟩
 refine br_split (fun e => ?_) fun e => ?_
 · have hlt : j < s.length := by have := of_decide_eq_true e; omega
   have hg : s[j]? = some s[j] := by simp [hlt]
   have htk := List.take_append_getElem hlt
   have hmem := List.getElem_mem hlt
   generalize s[j] = c at *
   refine ⟨by omega, c, (by rw [Int.toNat_natCast]; exact hg), ?_⟩
   refine tree_6 (fun hw => ?_) fun hw => ?_
   · refine Tri.mono (label_t h2 s) ?_
     rintro _ h3 ⟨rfl, rfl⟩
     have : isLabel s = false := by
      cases hl : isLabel s with
      | false => rfl
      | true =>
        have := List.all_eq_true.1 (As.label_word hl).1 c hmem
        rw [hw] at this; cases this
     exact ⟨_, rfl, by rw [this]; rfl, x1⟩
   · refine ⟨m - 1, by omega, ⟨j + 1, ?_, by omega, rfl, ?_⟩, trivial⟩
     · rw [wrap64 (by omega) (by omega)]; omega
     · rw [← htk, List.all_append, hall]; simp [hw]
 · have hj : j = s.length := by have := of_decide_eq_false e; omega
   subst hj
   rw [List.take_length] at hall
   refine ⟨by show s.length + 5 ≤ _; omega, ?_⟩
   refine Tri.mono (asm_t (s ++ hlt) (hO.ext x1) (hM.ext x1)) ?_
   rintro v h3 ⟨x3, hr⟩
   have x13 := x1.trans x3
   by_cases hn : s = []
   · subst hn
     rw [show assembleS ([] ++ hlt) = .error (1, 30) by kernel_rfl] at hr
     obtain ⟨_, rfl⟩ := hr
     exact ⟨_, _, _, _, _, _, _, _, _, _, _, rfl, br_pos rfl ⟨rfl, x13⟩⟩
   · have hne : (s == []) = false := by simpa using hn
     cases hl : isLabel s with
     | false =>
       rw [name_bad hall hn hb hl] at hr
       obtain ⟨_, rfl⟩ := hr
       refine ⟨_, _, _, _, _, _, _, _, _, _, _, rfl, br_neg hne (Tri.mono (label_t h3 s) ?_)⟩
       rintro _ h4 ⟨rfl, rfl⟩
       exact ⟨_, rfl, br_pos (by rw [hl]; rfl) ⟨rfl, x13⟩⟩
     | true =>
       rw [name_good hall hn hb hl] at hr
       obtain ⟨a1, k1, a2, k2, rfl, hI, hL, _, _⟩ := hr
       refine ⟨_, _, _, _, _, _, _, _, _, _, _, rfl, br_neg hne (Tri.mono (label_t h3 s) ?_)⟩
       rintro _ h4 ⟨rfl, rfl⟩
       refine ⟨_, rfl, br_neg (by rw [hl]; rfl) ?_⟩
       refine Tri.mono (address21_t (p := nameP s) (hO.ext x13) hI hL (by show 1 ≤ 1000000; decide) (by show 0 ≤ 1000000; decide) (by show 1 ≤ 1000000; decide) (fun l hm => by rw [List.mem_singleton.1 hm]; show _ ≤ (0 : Int) ∧ (0 : Int) ≤ _; decide) (by show _ ≤ (0 : Int) ∧ (0 : Int) ≤ _; decide)) ?_
       rintro _ h5 ⟨rfl, x5⟩
       have hv : adrV (nameP s) s = vT [vI 0, vB true] := by
        unfold adrV
        rw [if_neg (by rw [name_check hl]; decide)]
        have : address (nameP s) s = some 0 := by
         unfold address nameP
         simp [placeOf]
        rw [this]
       exact ⟨_, _, hv, br_pos rfl (br_pos rfl ⟨rfl, x13.trans x5⟩)⟩
end Go.Proofs.D
namespace Go.Fr
open Go Go.Den Go.ChangeShapes Go.RowKit
def Kept (w w' : World) : Prop := w'.os = w.os ∧ w'.output = w.output ∧ w.heap.size ≤ w'.heap.size ∧ ∀ k, k < w.heap.size → w'.heap[k]? = w.heap[k]?
theorem calls_of_tri {P : Program} {f : FuncId} {fn : Func} {args : List Value} {Q : Value → Prop} {h : PHeap} (ht : Tri P f args h fun v h' => Q v ∧ ∀ k o, h k = some o → h' k = some o) (hf : P.funcs[f]? = some fn) (hb : fn.body.isSome = true) (hname : (fn.name == "runtime.NumGoroutine") = false) (w : World) (hs : Sub w h) :
 Calls P f args.toArray w fun e w' => ∃ v, e = .returned v ∧ Q v ∧ Kept w w' := by
 have h1 := ht w hs
 unfold CallR at h1
 have hcall : (callFunc f args.toArray).run P w = .ok (.enter f args.toArray) w := by
  unfold callFunc
  have hname' : ¬ fn.name = "runtime.NumGoroutine" := fun e => by rw [e] at hname; simp at hname
  cases hbb : fn.body with
  | none => rw [hbb] at hb; cases hb
  | some c => simp [program, Sem.run, hf, hname', hbb]
 rw [hcall] at h1
 refine Calls.mono h1 fun e w' he => ?_
 cases e with
 | returned v =>
   obtain ⟨h', ⟨hq, hx⟩, hs', hk⟩ := he
   refine ⟨v, rfl, hq, hk.os, hk.output, hk.size, fun k hk' => ?_⟩
   cases hh : h k with
   | none => exact (hk.out k hk' hh).2
   | some o => rw [hs k o hh, hs' k o (hx k o hh)]
 | _ => exact he.elim
def one (w : World) (b : Nat) : PHeap := fun k => if k = b then w.heap[b]? else none
theorem one_cell {w : World} {b i : Nat} {v : Value} (h : w.cell? ⟨b, i, none⟩ = some v) : (one w b).cell b i = some v := by
 unfold World.cell? at h
 unfold PHeap.cell one
 rw [if_pos rfl]
 cases hb : w.heap[b]? with
 | none => simp [hb] at h
 | some o =>
   cases o with
   | cells c t z => simpa [hb] using h
   | _ => simp [hb] at h
theorem Kept.but {w w' : World} (h : Kept w w') (may : MemPlace → Prop) : w.keptBut w' may := by
 obtain ⟨h1, h2, h3, h4⟩ := h
 obtain ⟨_, _, r⟩ := World.keptBut_refl w may
 refine ⟨h1, h2, fun i hi => ?_⟩
 have := r i hi
 rw [h4 i hi]
 exact this
theorem Kept.frozen {w w' : World} (h : Kept w w') (b off : Nat) (hb : b < w.heap.size) : w'.frozen? ⟨b, off, none⟩ = w.frozen? ⟨b, off, none⟩ := by
 simp only [World.frozen?, h.2.2.2 b hb]
section
variable {H : Type} {enc : TypeId × Value → H} {P : Program}
theorem post_kept {f : Func} {s : ChangeSpec} {apart fresh handsOn again : Bool} {W W' : World} {args : Array Value} {v : Value} {ds gs : List (DataW H)} {before pa pv : List MemPlace}
 (hW : DataW.Whole enc P f.params.toList s.vars apart W args.toList ds gs before)
 (hres : ∀ (b : Nat) (sp : Nat → Bool) (hd : Bool), DataW.TrodAll enc P W' b sp hd f.resultTypes.toList (v.resultList f.resultTypes.size) (s.fn H (ds ++ gs)).results [])
 (hargs : ∀ sp : Nat → Bool, (∀ p ∈ before, sp p.block = true) → DataW.TrodAll enc P W' 0 sp true f.params.toList args.toList (s.fn H (ds ++ gs)).args pa)
 (hvars : ∀ sp : Nat → Bool, (∀ p ∈ before, sp p.block = true) → DataW.TrodVars enc P W' sp s.vars (s.fn H (ds ++ gs)).vars pv)
 (hps : before = pa ++ pv) (hk : Kept W W')
 (hok : ∀ (j : Nat) (t : TypeId) (r : Value), f.resultTypes[j]? = some t → (v.resultList f.resultTypes.size)[j]? = some r → Value.okWide P W' .any 0 t r) :
 s.post enc P f apart fresh handsOn again W args v W' := by
 have hlt : ∀ p ∈ before, p.block < W.heap.size := fun p hp => hW.lt p hp
 have hold : ∀ p ∈ before, (fun b => decide (b < W.heap.size)) p.block = true := fun p hp => by simpa using hlt p hp
 refine ⟨ds, gs, before, [], pa, pv, hW, hres _ _ _, hargs _ hold, hvars _ hold, World.keptBut_mono (fun p hp => ⟨hp, ?_⟩) (hk.but _), fun _ => ?_⟩
 · rw [hps, List.mem_append] at hp
   exact Or.inr hp
 · obtain ⟨_, _, _, _, _, hz, hn⟩ := hW
   refine ⟨hok, _, _, ([] ++ pa) ++ pv, ⟨[] ++ pa, pv, trodAll_append (hargs _ (fun _ _ => rfl)) (hres _ _ _), hvars _ (fun _ _ => rfl), rfl, ?_, ?_⟩, ?_⟩
   · intro b off hp
     have hp' : MemPlace.cell b off ∈ before := by rw [hps]; simpa using hp
     rw [hk.frozen b off (hlt _ hp')]
     exact hz b off hp'
   · intro ha
     have := hn ha
     rw [hps] at this
     simpa using this
   · intro p hp _
     rw [hps]
     simpa using hp
end
end Go.Fr
namespace Go.Fr
open Go Go.Den Go.ChangeShapes Go.RowKit Go.As Go.Proofs
set_option maxRecDepth 100000
def all (w : World) : PHeap := fun k => w.heap[k]?
theorem all_sub (w : World) : Sub w (all w) := fun _ _ hk => hk
theorem all_cell {w : World} {b i : Nat} {v : Value} (h : w.cell? ⟨b, i, none⟩ = some v) : (all w).cell b i = some v := by
 have := one_cell h
 unfold PHeap.cell at this ⊢
 have e : all w b = one w b b := by unfold all one; rw [if_pos rfl]
 rw [e]; exact this
def usesL : List Bool := [false, false, false, true, false, false, false, false, false, false, false, false, false, false, false, false, false, false, true, false, true, false, true, true, false, true, false]
def setsL : List Bool := [false, true, true, true, true, true, true, true, true, true, true, true, true, true, true, true, true, true, false, true, false, false, false, false, true, false, false]
def opRow (op : Nat) : DataW Unit := .agg [.lit (.string (wordT op)), .lit (.int .i64 (form op)), .lit (.int .i64 (Go.Proofs.D.lims op).1), .lit (.int .i64 (Go.Proofs.D.lims op).2), .lit (.bool (usesL.getD op false)), .lit (.bool (setsL.getD op false))]
theorem ops_tab : (YteegmpghbhmekaaGreatDoor.Rows.laid_replevin_instr_operations : DataW Unit) = .agg ((List.range 27).map opRow) := by kernel_rfl
section
variable {enc : TypeId × Value → Unit} {w : World} {base : Nat} {sp : Nat → Bool} {held : Bool}
theorem row_six {fuel : Nat} {seg : List Value} {op : Nat} {p : List MemPlace} (h : DataW.trod enc Tryz.prog w base sp held fuel 147 seg = some (opRow op, p)) :
 seg = [vS (wordT op), vI (form op), vI (Go.Proofs.D.lims op).1, vI (Go.Proofs.D.lims op).2, vB (usesL.getD op false), vB (setsL.getD op false)] := by
 cases fuel with
 | zero => simp [DataW.trod] at h
 | succ fuel =>
   have c9 : Tryz.prog.cellsOf 9 = 1 := by kernel_rfl
   have c3 : Tryz.prog.cellsOf 3 = 1 := by kernel_rfl
   have c4 : Tryz.prog.cellsOf 4 = 1 := by kernel_rfl
   have c147 : Tryz.prog.cellsOf 147 = 6 := by kernel_rfl
   simp only [DataW.trod, Tryz.underlying147, c147] at h
   split at h
   · rename_i hl
     obtain ⟨xs, hm, hx⟩ := Option.map_eq_some_iff.1 h
     have hxs := congrArg Prod.fst hx
     simp only [opRow, DataW.agg.injEq] at hxs
     have fld : ∀ (j : Nat) (y : DataW Unit), (xs.map (·.1))[j]? = some y → ∃ b, xs[j]? = some b ∧ b.1 = y := fun j y hy => by
      rw [List.getElem?_map, Option.map_eq_some_iff] at hy
      exact hy
     rw [hxs] at fld
     match seg, hl with
     | [x0, x1, x2, x3, x4, x5], _ =>
       obtain ⟨b0, g0, f0⟩ := Lib.mapM_at hm 0 _ rfl
       obtain ⟨b1, g1, f1⟩ := Lib.mapM_at hm 1 _ rfl
       obtain ⟨b2, g2, f2⟩ := Lib.mapM_at hm 2 _ rfl
       obtain ⟨b3, g3, f3⟩ := Lib.mapM_at hm 3 _ rfl
       obtain ⟨b4, g4, f4⟩ := Lib.mapM_at hm 4 _ rfl
       obtain ⟨b5, g5, f5⟩ := Lib.mapM_at hm 5 _ rfl
       obtain ⟨a0, k0, l0⟩ := fld 0 _ rfl
       obtain ⟨a1, k1, l1⟩ := fld 1 _ rfl
       obtain ⟨a2, k2, l2⟩ := fld 2 _ rfl
       obtain ⟨a3, k3, l3⟩ := fld 3 _ rfl
       obtain ⟨a4, k4, l4⟩ := fld 4 _ rfl
       obtain ⟨a5, k5, l5⟩ := fld 5 _ rfl
       rw [g0] at k0; rw [g1] at k1; rw [g2] at k2; rw [g3] at k3; rw [g4] at k4; rw [g5] at k5
       injection k0 with k0; injection k1 with k1; injection k2 with k2; injection k3 with k3; injection k4 with k4; injection k5 with k5
       subst k0; subst k1; subst k2; subst k3; subst k4; subst k5
       simp only [c9, c3, c4] at f0 f1 f2 f3 f4 f5
       obtain ⟨s, e0, rfl, _⟩ := DataW.trod_string Tryz.underlying9 f0
       obtain ⟨n1, e1, rfl, _⟩ := DataW.trod_int Tryz.underlying3 f1
       obtain ⟨n2, e2, rfl, _⟩ := DataW.trod_int Tryz.underlying3 f2
       obtain ⟨n3, e3, rfl, _⟩ := DataW.trod_int Tryz.underlying3 f3
       obtain ⟨n4, e4, rfl⟩ := DataW.trod_bool Tryz.underlying4 f4
       obtain ⟨n5, e5, rfl⟩ := DataW.trod_bool Tryz.underlying4 f5
       simp only [DataW.lit.injEq, Lit.string.injEq, Lit.int.injEq, Lit.bool.injEq, true_and] at l0 l1 l2 l3 l4 l5
       simp only [List.drop_zero, List.drop_succ_cons, List.take_succ_cons, List.take_zero, List.cons.injEq, and_true] at e0 e1 e2 e3 e4 e5
       subst e0; subst e1; subst e2; subst e3; subst e4; subst e5
       subst l1; subst l2; subst l3; subst l4; subst l5
       have hs : (Value.string s) = vS (wordT op) := by rw [← l0]
       rw [hs]
   · cases h
theorem ops_cells {fuel : Nat} {cs : List Value} {p : List MemPlace} (h : DataW.trod enc Tryz.prog w base sp held fuel 148 cs = some (.agg ((List.range 27).map opRow), p)) : ∀ op, op < 27 → (cs.drop (op * 6)).take 6 = [vS (wordT op), vI (form op), vI (Go.Proofs.D.lims op).1, vI (Go.Proofs.D.lims op).2, vB (usesL.getD op false), vB (setsL.getD op false)] := by
 intro op hop
 cases fuel with
 | zero => simp [DataW.trod] at h
 | succ fuel =>
   have c147 : Tryz.prog.cellsOf 147 = 6 := by kernel_rfl
   simp only [DataW.trod, Tryz.underlying148, c147] at h
   split at h
   · obtain ⟨xs, hm, hx⟩ := Option.map_eq_some_iff.1 h
     have hxs := congrArg Prod.fst hx
     simp only [DataW.agg.injEq] at hxs
     obtain ⟨b, g, f⟩ := Lib.mapM_at hm op op (by simp [hop])
     have hb : (xs.map (·.1))[op]? = some (opRow op) := by rw [hxs]; simp [hop]
     rw [List.getElem?_map, g] at hb
     injection hb with hb
     obtain ⟨d, q⟩ := b
     simp only at hb
     subst hb
     exact row_six f
   · cases h
end
theorem op_all {W : World} {rest : List (String × DataW Unit)} (h : laidMet Tryz.prog (("replevin/instr.operations", YteegmpghbhmekaaGreatDoor.Rows.laid_replevin_instr_operations) :: rest) W) : Go.Proofs.D.OpTab (all W) := by
 rw [ops_tab] at h
 obtain ⟨ps, ⟨g', t', cs, fuel, p, q, hg', ht', hvar, hd, _, _⟩, _⟩ := h
 obtain rfl := Option.some.inj ((show Tryz.prog.globalNamed "replevin/instr.operations" = some 0 by kernel_rfl).symm.trans hg')
 obtain rfl := Option.some.inj ((show (Tryz.prog.globals[0]?).map (·.type) = some 148 by kernel_rfl).symm.trans ht')
 have hc := ops_cells hd
 unfold World.var? at hvar
 rw [hg'] at hvar
 simp only [Option.bind_some] at hvar
 intro op hop
 refine ⟨usesL.getD op false, setsL.getD op false, ?_⟩
 cases hb : W.heap[0]? with
 | none => rw [hb] at hvar; simp at hvar
 | some o =>
   rw [hb] at hvar
   cases o with
   | cells c t z =>
     simp only [Option.some.injEq] at hvar
     have hall : all W 0 = some (.cells ⟨c.toList⟩ t z) := by unfold all; rw [hb]
     refine Go.Proofs.D.row_lit hall fun j v hj => ?_
     have := hc op hop
     rw [← hvar] at this
     have hj6 : j < 6 := by have := (List.getElem?_eq_some_iff.1 hj).1; simpa using this
     have h2 : ((c.toList.drop (op * 6)).take 6)[j]? = some v := by rw [this]; exact hj
     rw [List.getElem?_take, if_pos hj6, List.getElem?_drop] at h2
     exact h2
   | _ => simp at hvar
theorem max_all {W : World} (h : W.ShapedOpen Tryz.prog) : Go.Proofs.D.MaxLen (all W) := by
 obtain ⟨m, hm⟩ := Go.Proofs.cell_of_shapedOpen_int (g := 1) (zero := #[.int .i64 0]) (t := 3) h (of_decide_eq_true (by kernel_rfl)) (by kernel_rfl) rfl (by kernel_rfl) (by kernel_rfl) Tryz.underlying3
 exact ⟨m, all_cell hm⟩
end Go.Fr
