import Derived.Test.YteegmpghbhmekaaGreatDoorPr1
import Derived.Lib.SmallJoins
import Derived.ChangeSlices
import Derived.ReadAgain
import Derived.Deep.Slices
namespace Go.As
def cutN (l : Lb) : Lb := { l with name := l.name.take 60 }
def shortP (p : Pg) : Pg := { p with code := p.code.take 24, data := p.data.take 200, labels := (p.labels.take 12).map cutN }
end Go.As
namespace Go.Proofs.D
open Go Go.Den Go.As
set_option maxRecDepth 100000
attribute [local irreducible] IntKind.wrap Tri
theorem und30 : Tryz.prog.underlying 30 = some (.slice 89) := rfl
theorem elem89 : ElemT 89 3 := ⟨_, _, rfl, rfl, rfl, rfl, by decide⟩
theorem LM.lbs' {e : Nat} {h0 h : PHeap} {a : OA} {n c : Nat} {L : List Lb} (hM : LM e 3 h0 h a n c (L.map lbC)) : LbAt h a L := by
 by_cases hL : L = []
 · exact .inl hL
 have hn : 0 < n := by
  have := hM.len
  cases L with
  | nil => exact absurd rfl hL
  | cons x L => simp at this; omega
 obtain ⟨b, rest, h1, h2, _⟩ := hM.open hn
 refine .inr ⟨b, 0, h1, fun j l hj => ?_⟩
 obtain ⟨b', h3, h4⟩ := hM.rowAt (j := j) (cs := lbC l) (by simp [hj])
 rw [h1] at h3; injection h3 with h3; injection h3 with h3
 subst h3; exact h4
section
variable {h : PHeap}
structure PIn (h : PHeap) (a1 : OA) (k1 : Nat) (a2 : OA) (k2 : Nat) (p : Pg) : Prop where
 ins : InAt h a1 p.code
 lbs : LbAt h a2 p.labels
 ok : okA a1 p.code.length k1
 le : p.code.length ≤ k1
theorem short_t {a1 : OA} {k1 : Nat} {a2 : OA} {k2 : Nat} {p : Pg} (hp : PIn h a1 k1 a2 k2 p) :
 Tri Tryz.prog 19 [PV a1 k1 a2 k2 p] h fun v h' => Ext h h' ∧ ∃ a3 k3 a4 k4, v = PV a3 k3 a4 k4 (shortP p) ∧ InAt h' a3 (shortP p).code ∧ LbAt h' a4 (shortP p).labels := by
 refine T19 ?_
 unfold R19
 refine ⟨if 24 < ((p.code.length : Nat) : Int) then 24 else ((p.code.length : Nat) : Int), pureVal_run _ (by kernel_rfl), ⟨hp.ok, by omega, by split <;> omega, by have := hp.le; split <;> omega⟩, ?_⟩
 intro a3 hs3
 refine ⟨if 200 < (p.data.length : Int) then 200 else (p.data.length : Int), pureVal_run _ (by kernel_rfl), ⟨by omega, by split <;> omega, by split <;> omega⟩, ?_⟩
 have hcode : InAt h a3 (p.code.take 24) := by
  rcases hp.ins with h1 | ⟨b, o, h1, h2⟩
  · exact .inl (by rw [h1]; rfl)
  · obtain ⟨o', g1, g2⟩ := hs3.1 b o h1
    have g2 := g2 (.inr rfl)
    refine .inr ⟨b, o', g1, fun j l hj => ?_⟩
    rw [g2, Nat.zero_mul, Nat.add_zero]
    rw [List.getElem?_take] at hj
    split at hj
    · exact h2 j l hj
    · cases hj
 have hn1 : (if 24 < ((p.code.length : Nat) : Int) then 24 else ((p.code.length : Nat) : Int)).toNat - 0 = (p.code.take 24).length := by
  rw [List.length_take]; split <;> omega
 have hd1 : (p.data.drop 0).take ((if 200 < (p.data.length : Int) then 200 else (p.data.length : Int)).toNat - 0) = p.data.take 200 := by
  rw [List.drop_zero, Nat.sub_zero]
  split
  · rfl
  · rw [Int.toNat_natCast, List.take_length, List.take_of_length_le (by omega)]
 rw [hn1, hd1]
 refine ⟨fun m a n k i h' => ∃ j : Nat, i = (j : Int) ∧ j + m = p.labels.length ∧ j ≤ 12 ∧ n = j ∧ Ext h h' ∧ LM 89 3 h h' a n k (((p.labels.take j).map cutN).map lbC), ⟨p.labels.length, 0, rfl, by omega, by omega, rfl, Ext.refl _, LM.nil⟩, ?_⟩
 rintro m a j k _ h1 ⟨_, rfl, hjm, hj12, rfl, hx, hM⟩
 have fin : p.labels.take j = p.labels.take 12 → Ext h h1 ∧ ∃ a5 k5 a4 k4, vA [vL a3 (p.code.take 24).length (k1 - 0), vS (p.data.take 200), vI p.zero, vI p.entry, vL a j k] = PV a5 k5 a4 k4 (shortP p) ∧ InAt h1 a5 (shortP p).code ∧ LbAt h1 a4 (shortP p).labels := fun ht => by
  refine ⟨hx, a3, k1 - 0, a, k, ?_, hcode.ext hx, ?_⟩
  · have hl := hM.len
    rw [List.length_map, List.length_map, ht] at hl
    unfold PV shortP
    simp only [List.length_map]
    rw [hl]
  · have := hM.lbs'
    rw [ht] at this
    exact this
 refine br_split (fun e => br_split (fun e1 => ?_) fun e1 => fin ?_) fun e => fin ?_
 · have hlt : j < p.labels.length := by have := of_decide_eq_true e; omega
   have hj11 : j < 12 := by have := of_decide_eq_true e1; omega
   have hg : p.labels[j]? = some p.labels[j] := by simp [hlt]
   have htk := List.take_append_getElem hlt
   generalize p.labels[j] = l at *
   obtain ⟨bb, o, ha, hr⟩ := (hp.lbs.ext hx).get hg
   refine ⟨bb, o, ha, ⟨by omega, by omega⟩, _, _, _, (by rw [Int.toNat_natCast]; exact hr), if 60 < (l.name.length : Int) then 60 else (l.name.length : Int), pureVal_run _ (by kernel_rfl), ⟨by omega, by split <;> omega, by split <;> omega⟩, ?_⟩
   have hcut : (l.name.drop 0).take ((if 60 < (l.name.length : Int) then 60 else (l.name.length : Int)).toNat - 0) = l.name.take 60 := by
    rw [List.drop_zero, Nat.sub_zero]
    split
    · rfl
    · rw [Int.toNat_natCast, List.take_length, List.take_of_length_le (by omega)]
   rw [hcut]
   intro b2 hb2 h2 hh2
   refine Raw.mono (LM.push und30 elem89 rfl rfl rfl rfl rfl hx hM hb2 hh2 rfl rfl (by omega)) ?_
   rintro _ h3 ⟨b3, cap, rfl, x3, hM3, _⟩
   refine ⟨_, _, _, rfl, m - 1, by omega, ⟨j + 1, by rw [wrap64 (by omega) (by omega)]; omega, by omega, by omega, rfl, x3, ?_⟩, rfl, rfl, trivial⟩
   rw [← htk, List.map_append, List.map_append]
   exact hM3
 · have : 12 ≤ j := by have := of_decide_eq_false e1; omega
   rw [show j = 12 by omega]
 · have : p.labels.length ≤ j := by have := of_decide_eq_false e; omega
   rw [List.take_of_length_le this, List.take_of_length_le (by omega)]
theorem to_t {a1 : OA} {k1 : Nat} {a2 : OA} {k2 : Nat} {p : Pg} (hI : InAt h a1 p.code) (hL : LbAt h a2 p.labels) (hn : p.code.length ≤ 1000000) (hls : p.labels.length ≤ 1000000) :
 Tri Tryz.prog 20 [PV a1 k1 a2 k2 p] h fun v h' => Ext h h' ∧ ∃ a3 k3 a4 k4, v = PV a3 k3 a4 k4 p ∧ PgAt h' a3 k3 a4 k4 p := by
 refine T20 ?_
 unfold R20
 refine ⟨fun m i a n k l z e a' n' k' h' => ∃ j : Nat, i = (j : Int) ∧ j + m = p.code.length ∧ n = j ∧ l = p.data ∧ z = p.zero ∧ e = p.entry ∧ a' = none ∧ n' = 0 ∧ k' = 0 ∧ Ext h h' ∧ LM 58 4 h h' a n k (inL (p.code.take j)), ⟨p.code.length, 0, rfl, by omega, rfl, rfl, rfl, rfl, rfl, rfl, rfl, Ext.refl _, LM.nil⟩, ?_⟩
 rintro m _ a j k _ _ _ _ _ _ h1 ⟨_, rfl, hjm, rfl, rfl, rfl, rfl, rfl, rfl, rfl, hx, hM⟩
 refine br_split (fun e => ?_) fun e => ?_
 · have hlt : j < p.code.length := by have := of_decide_eq_true e; omega
   have hg : p.code[j]? = some p.code[j] := by simp [hlt]
   have htk := List.take_append_getElem hlt
   generalize p.code[j] = x at *
   obtain ⟨bb, o, ha, hr⟩ := (hI.ext hx).get hg
   refine ⟨bb, o, ha, ⟨by omega, by omega⟩, _, _, _, _, (by rw [Int.toNat_natCast]; exact hr), ?_⟩
   intro b2 hb2 h2 hh2
   refine Raw.mono (LM.push und22 elem58 rfl rfl rfl rfl rfl hx hM hb2 hh2 rfl rfl (by omega)) ?_
   rintro _ h3 ⟨b3, cap, rfl, x3, hM3, _⟩
   refine ⟨_, _, _, rfl, m - 1, by omega, ⟨j + 1, by rw [wrap64 (by omega) (by omega)]; omega, by omega, rfl, rfl, rfl, rfl, rfl, rfl, rfl, x3, ?_⟩, rfl, rfl, trivial⟩
   rw [← htk]
   unfold inL at hM3 ⊢
   rw [List.map_append]
   exact hM3
 · have hj : j = p.code.length := by have := of_decide_eq_false e; omega
   subst hj
   rw [List.take_length] at hM
   refine ⟨fun m i a' n' k' l z e a'' n'' k'' h' => ∃ j : Nat, i = (j : Int) ∧ j + m = p.labels.length ∧ a' = a ∧ n' = p.code.length ∧ k' = k ∧ l = p.data ∧ z = p.zero ∧ e = p.entry ∧ n'' = j ∧ Ext h1 h' ∧ LM 80 3 h1 h' a'' n'' k'' ((p.labels.take j).map lbC), ⟨p.labels.length, 0, rfl, by omega, rfl, rfl, rfl, rfl, rfl, rfl, rfl, Ext.refl _, LM.nil⟩, ?_⟩
   rintro m _ _ _ _ _ _ _ a'' j k'' h2 ⟨_, rfl, hjm, rfl, rfl, rfl, rfl, rfl, rfl, rfl, hx2, hM2⟩
   refine br_split (fun e => ?_) fun e => ?_
   · have hlt : j < p.labels.length := by have := of_decide_eq_true e; omega
     have hg : p.labels[j]? = some p.labels[j] := by simp [hlt]
     have htk := List.take_append_getElem hlt
     generalize p.labels[j] = l at *
     obtain ⟨bb, o, ha, hr⟩ := (hL.ext (hx.trans hx2)).get hg
     refine ⟨bb, o, ha, ⟨by omega, by omega⟩, _, _, _, (by rw [Int.toNat_natCast]; exact hr), ?_⟩
     intro b2 hb2 h3 hh3
     refine Raw.mono (LM.push und23 elem80 rfl rfl rfl rfl rfl hx2 hM2 hb2 hh3 rfl rfl (by omega)) ?_
     rintro _ h4 ⟨b3, cap, rfl, x4, hM4, _⟩
     refine ⟨_, _, _, rfl, m - 1, by omega, ⟨j + 1, by rw [wrap64 (by omega) (by omega)]; omega, by omega, rfl, rfl, rfl, rfl, rfl, rfl, rfl, x4, ?_⟩, rfl, rfl, trivial⟩
     rw [← htk, List.map_append]
     exact hM4
   · have hj : j = p.labels.length := by have := of_decide_eq_false e; omega
     subst hj
     rw [List.take_length] at hM2
     exact ⟨hx.trans hx2, _, _, _, _, rfl, hM.ins.ext hx2, hM2.lbs, hM.okN, hM2.okN⟩
end
end Go.Proofs.D
namespace Go.As
def filM (d : Bool) (off : Nat) (ls : List Lb) : List Lb := ls.filter fun l => l.data == d && l.off == (off : Int)
theorem filM_mem {d : Bool} {off : Nat} {ls : List Lb} {l : Lb} : l ∈ filM d off ls ↔ l ∈ ls ∧ l.data = d ∧ l.off = (off : Int) := by
 unfold filM; simp [List.mem_filter]
theorem filM_app (d : Bool) (off : Nat) (a b : List Lb) : filM d off (a ++ b) = filM d off a ++ filM d off b := by unfold filM; rw [List.filter_append]
theorem filM_nil {d : Bool} {off : Nat} {ls : List Lb} (h : ∀ l ∈ ls, ¬ (l.data = d ∧ l.off = (off : Int))) : filM d off ls = [] := by
 cases e : filM d off ls with
 | nil => rfl
 | cons x t =>
   have : x ∈ filM d off ls := by rw [e]; exact List.mem_cons_self ..
   obtain ⟨g1, g2⟩ := filM_mem.1 this
   exact absurd g2 (h x g1)
theorem fil_take : ∀ {ls : List Lb} {d : Bool} {off : Nat}, ls.Pairwise Wk → (∀ l ∈ ls, l.data = d → (off : Int) ≤ l.off) → (d = true → ∀ l ∈ ls, l.data = true) → filM d off ls = takeM d off ls
 | [], _, _, _, _, _ => rfl
 | x :: t, d, off, hw, hlo, hd => by
   obtain ⟨w1, w2⟩ := List.pairwise_cons.1 hw
   by_cases hx : x.data = d ∧ x.off = (off : Int)
   · have hb : (x.data == d && x.off == (off : Int)) = true := by simp [hx.1, hx.2]
     have ih := fil_take (ls := t) (d := d) (off := off) w2 (fun l hl => hlo l (List.mem_cons_of_mem _ hl)) fun e l hl => hd e l (List.mem_cons_of_mem _ hl)
     unfold filM takeM at ih ⊢
     rw [List.filter_cons_of_pos (p := fun l : Lb => l.data == d && l.off == (off : Int)) hb, List.takeWhile_cons_of_pos (p := fun l : Lb => l.data == d && l.off == (off : Int)) hb, ih]
   · have hb : ¬ (x.data == d && x.off == (off : Int)) = true := by simpa using hx
     rw [show takeM d off (x :: t) = [] by unfold takeM; rw [List.takeWhile_cons_of_neg (p := fun l : Lb => l.data == d && l.off == (off : Int)) hb]]
     refine filM_nil fun l hl => ?_
     rcases List.mem_cons.1 hl with rfl | hl
     · exact hx
     rintro ⟨l1, l2⟩
     obtain ⟨k1, k2⟩ := w1 l hl
     by_cases hxd : x.data = d
     · have := hlo x (List.mem_cons_self ..) hxd
       have := k2 (hxd.trans l1.symm)
       exact hx ⟨hxd, by omega⟩
     · cases d with
       | true => exact hxd (hd rfl x (List.mem_cons_self ..))
       | false =>
         have : x.data = true := by simpa using hxd
         rw [k1 this] at l1; cases l1
theorem fil_drop {ls : List Lb} {d : Bool} {off : Nat} (hw : ls.Pairwise Wk) (hlo : ∀ l ∈ ls, l.data = d → (off : Int) ≤ l.off) (hd : d = true → ∀ l ∈ ls, l.data = true) : ∀ l ∈ dropM d off ls, ¬ (l.data = d ∧ l.off = (off : Int)) := fun l hl hh => by
 have h1 := fil_take hw hlo hd
 rw [← take_drop_M d off ls, filM_app] at h1
 have h2 : filM d off (takeM d off ls) = takeM d off ls := by
  unfold filM
  rw [List.filter_eq_self]
  intro a ha
  obtain ⟨g1, g2⟩ := take_mem a ha
  simp [g1, g2]
 rw [h2] at h1
 have h3 : takeM d off (takeM d off ls ++ dropM d off ls) = takeM d off ls := by rw [take_drop_M]
 rw [h3] at h1
 have h4 : filM d off (dropM d off ls) = [] := by simpa using h1
 have : l ∈ filM d off (dropM d off ls) := filM_mem.2 ⟨hl, hh⟩
 rw [h4] at this; cases this
def marksF (p : Pg) (d : Bool) (off : Nat) : Bytes := joinL (marksT (filM d off p.labels))
def codeR (p : Pg) : Nat → List Ins → Bytes
 | i, [] => marksF p false (4 * i)
 | i, x :: c => marksF p false (4 * i) ++ (9 :: (lineT x ++ 10 :: codeR p (i + 1) c))
theorem code_same {p : Pg} (h4 : ∀ l ∈ p.labels, l.data = false → l.off % 4 = 0 ∧ l.off ≤ 4 * (p.code.length : Int)) : ∀ (c : List Ins) (i : Nat) (lb ls : List Lb), lb ++ ls = p.labels → i + c.length = p.code.length → ls.Pairwise Wk → (∀ l ∈ lb, l.data = false ∧ l.off < ((4 * i : Nat) : Int)) → (∀ l ∈ ls, l.data = false → ((4 * i : Nat) : Int) ≤ l.off) →
 joinL (codeP i c ls).1 = codeR p i c ∧ ∃ lb', lb' ++ (codeP i c ls).2 = p.labels ∧ (∀ l ∈ lb', l.data = false) ∧ ∀ l ∈ (codeP i c ls).2, l.data = true
 | c, i, lb, ls, hl, hi, hw, hlb, hlo => by
   have hsubd : (dropM false (4 * i) ls).Sublist ls := List.dropWhile_sublist _
   have hm : marksF p false (4 * i) = joinL (marksT (takeM false (4 * i) ls)) := by
    unfold marksF
    rw [← hl, filM_app, filM_nil (ls := lb) (fun l hl' hh => by have := (hlb l hl').2; omega), List.nil_append, fil_take hw hlo (fun e => by cases e)]
   have hdr := fil_drop hw hlo (d := false) (off := 4 * i) fun e => by cases e
   have hlb' : ∀ l ∈ lb ++ takeM false (4 * i) ls, l.data = false ∧ l.off < ((4 * (i + 1) : Nat) : Int) := fun l hl' => by
    rcases List.mem_append.1 hl' with h | h
    · have := hlb l h; exact ⟨this.1, by omega⟩
    · obtain ⟨g1, g2⟩ := take_mem l h; exact ⟨g1, by omega⟩
   have hl2 : lb ++ takeM false (4 * i) ls ++ dropM false (4 * i) ls = p.labels := by rw [List.append_assoc, take_drop_M, hl]
   match c with
   | [] =>
     refine ⟨hm.symm, lb ++ takeM false (4 * i) ls, hl2, fun l hl' => (hlb' l hl').1, fun l hl' => ?_⟩
     have hl' : l ∈ dropM false (4 * i) ls := hl'
     cases hdl : l.data with
     | true => rfl
     | false =>
       exfalso
       have h1 := hlo l (hsubd.subset hl') hdl
       have h2 := (h4 l (by rw [← hl]; exact List.mem_append_right _ (hsubd.subset hl')) hdl).2
       refine hdr l hl' ⟨hdl, ?_⟩
       simp at hi
       omega
   | x :: c =>
     have hlo' : ∀ l ∈ dropM false (4 * i) ls, l.data = false → ((4 * (i + 1) : Nat) : Int) ≤ l.off := fun l hl' hdl => by
      have h1 := hlo l (hsubd.subset hl') hdl
      have h2 := (h4 l (by rw [← hl]; exact List.mem_append_right _ (hsubd.subset hl')) hdl).1
      have h3 : l.off ≠ ((4 * i : Nat) : Int) := fun e => hdr l hl' ⟨hdl, e⟩
      omega
     obtain ⟨e1, e2⟩ := code_same h4 c (i + 1) (lb ++ takeM false (4 * i) ls) (dropM false (4 * i) ls) hl2 (by simp at hi; omega) (hw.sublist hsubd) hlb' hlo'
     refine ⟨?_, e2⟩
     rw [codeP, codeR, hm]
     simp only
     rw [joinL_app2, ← e1]
     rfl
where
 joinL_app2 : ∀ {a b : List Bytes}, joinL (a ++ b) = joinL a ++ joinL b := fun {a b} => by
  induction a with
  | nil => rfl
  | cons x a ih => simp [joinL, ih]
theorem joinL_app' (a b : List Bytes) : joinL (a ++ b) = joinL a ++ joinL b := by
 induction a with
 | nil => rfl
 | cons x a ih => simp [joinL, ih]
def endR (p : Pg) (at' : Nat) : Nat → Nat → Nat
 | 0, e => e
 | f + 1, e => if e < p.data.length ∧ e < at' + 32 ∧ filM true e p.labels = [] then endR p at' f (e + 1) else e
def dataR (p : Pg) : Nat → Nat → Bytes
 | 0, _ => []
 | f + 1, at' => if p.data.length ≤ at' then [] else
   marksF p true at' ++ (9 :: (dText ++ 32 :: (quoteA ((p.data.drop at').take (endR p at' 32 (at' + 1) - at')) ++ 10 :: dataR p f (endR p at' 32 (at' + 1)))))
theorem end_run {p : Pg} {at' n : Nat} : ∀ (f e : Nat), (∀ k, e ≤ k → k < n → k < p.data.length ∧ k < at' + 32 ∧ filM true k p.labels = []) → ¬ (n < p.data.length ∧ n < at' + 32 ∧ filM true n p.labels = []) → e ≤ n → n < e + f → endR p at' f e = n
 | 0, e, _, _, h1, h2 => by omega
 | f + 1, e, hk, hn, h1, h2 => by
   rw [endR]
   by_cases hen : e = n
   · subst hen; rw [if_neg hn]
   · rw [if_pos (hk e (Nat.le_refl _) (by omega))]
     exact end_run f (e + 1) (fun k h3 h4 => hk k (by omega) h4) hn (by omega) (by omega)
theorem data_same {p : Pg} : ∀ (f at' : Nat) (lb ls : List Lb), lb ++ ls = p.labels → p.data.length < at' + f → at' ≤ p.data.length → ls.Pairwise Wk → (∀ l ∈ lb, l.data = true → l.off < (at' : Int)) → (∀ l ∈ ls, l.data = true ∧ (at' : Int) ≤ l.off) →
 joinL (dataP f at' (p.data.drop at') ls).1 = dataR p f at' ++ marksF p true p.data.length
 | 0, at', lb, ls, hl, hf, hat, hw, hlb, hlo => by omega
 | f + 1, at', lb, ls, hl, hf, hat, hw, hlb, hlo => by
   have hsubd : (dropM true at' ls).Sublist ls := List.dropWhile_sublist _
   have hlo2 : ∀ l ∈ ls, l.data = true → (at' : Int) ≤ l.off := fun l hl _ => (hlo l hl).2
   have hall : (true = true) → ∀ l ∈ ls, l.data = true := fun _ l hl => (hlo l hl).1
   have hm : marksF p true at' = joinL (marksT (takeM true at' ls)) := by
    unfold marksF
    rw [← hl, filM_app, filM_nil (ls := lb) (fun l hl' hh => by have := hlb l hl' hh.1; omega), List.nil_append, fil_take hw hlo2 hall]
   have hdr := fil_drop hw hlo2 hall
   have hl2 : lb ++ takeM true at' ls ++ dropM true at' ls = p.labels := by rw [List.append_assoc, take_drop_M, hl]
   have hlb' : ∀ l ∈ lb ++ takeM true at' ls, l.data = true → l.off < ((at' + 1 : Nat) : Int) := fun l hl' hd => by
    rcases List.mem_append.1 hl' with h | h
    · have := hlb l h hd; omega
    · obtain ⟨g1, g2⟩ := take_mem l h; omega
   have hlo' : ∀ l ∈ dropM true at' ls, l.data = true ∧ ((at' + 1 : Nat) : Int) ≤ l.off := fun l hl' => by
    have h1 := hlo l (hsubd.subset hl')
    have h3 : l.off ≠ (at' : Int) := fun e => hdr l hl' ⟨h1.1, e⟩
    exact ⟨h1.1, by omega⟩
   rw [dataP, dataR]
   by_cases he : p.data.length ≤ at'
   · obtain rfl : at' = p.data.length := by omega
     rw [if_pos (Nat.le_refl _), if_pos (by simp), hm]
     rfl
   have hem : (p.data.drop at').isEmpty = false := by
    cases e : p.data.drop at' with
    | nil => have := congrArg List.length e; simp at this; omega
    | cons _ _ => rfl
   rw [if_neg he, if_neg (by rw [hem]; decide)]
   have hrl : (p.data.drop at').length = p.data.length - at' := List.length_drop
   have hend : endR p at' 32 (at' + 1) = at' + chunkN at' (p.data.drop at') (dropM true at' ls) := by
    have hnone : ∀ (k : Nat), at' < k → (∀ x t, dropM true at' ls = x :: t → (k : Int) < x.off) → filM true k p.labels = [] := fun k h1 h2 => by
     rw [← hl2, filM_app, filM_nil (ls := lb ++ takeM true at' ls) (fun l hl' hh => by have := hlb' l hl' hh.1; omega), List.nil_append]
     refine filM_nil fun l hl' hh => ?_
     cases e : dropM true at' ls with
     | nil => rw [e] at hl'; cases hl'
     | cons x t =>
       have h3 := h2 x t e
       have hw2 := hw.sublist hsubd
       rw [e] at hw2 hl'
       rcases List.mem_cons.1 hl' with rfl | hl'
       · omega
       · have := ((List.pairwise_cons.1 hw2).1 l hl').2 (by rw [hh.1]; exact (hlo' x (by rw [e]; exact List.mem_cons_self ..)).1)
         omega
    unfold chunkN
    rw [hrl]
    cases e : dropM true at' ls with
    | nil =>
      refine end_run 32 _ (fun k h1 h2 => ⟨?_, ?_, hnone k (by omega) fun x t hx => by rw [e] at hx; cases hx⟩) ?_ ?_ ?_
      · simp only at h2; omega
      · simp only at h2; omega
      · simp only; omega
      · simp only; omega
      · simp only; omega
    | cons x t =>
      have hx := hlo' x (by rw [e]; exact List.mem_cons_self ..)
      refine end_run 32 _ (fun k h1 h2 => ⟨?_, ?_, hnone k (by omega) fun y u hy => ?_⟩) ?_ ?_ ?_
      · simp only at h2; omega
      · simp only at h2; omega
      · rw [e] at hy; injection hy with hy _; subst hy; simp only at h2; omega
      · rintro ⟨g1, g2, g3⟩
        simp only at g1 g2 g3
        have h5 : min (min 32 (p.data.length - at')) (x.off - ↑at').toNat = (x.off - ↑at').toNat := by omega
        rw [h5] at g3
        have : x ∈ filM true (at' + (x.off - ↑at').toNat) p.labels := filM_mem.2 ⟨by rw [← hl2]; exact List.mem_append_right _ (by rw [e]; exact List.mem_cons_self ..), hx.1, by omega⟩
        rw [g3] at this; cases this
      · simp only; omega
      · simp only; omega
   rw [hend]
   have hch : 1 ≤ chunkN at' (p.data.drop at') (dropM true at' ls) ∧ chunkN at' (p.data.drop at') (dropM true at' ls) ≤ p.data.length - at' := by
    unfold chunkN
    rw [hrl]
    cases e : dropM true at' ls with
    | nil => simp only; omega
    | cons x t =>
      have hx := hlo' x (by rw [e]; exact List.mem_cons_self ..)
      simp only; omega
   have hhead : ∀ l ∈ dropM true at' ls, ((at' + chunkN at' (p.data.drop at') (dropM true at' ls) : Nat) : Int) ≤ l.off := fun l hl' => by
    unfold chunkN
    cases e : dropM true at' ls with
    | nil => rw [e] at hl'; cases hl'
    | cons x t =>
      have hx := hlo' x (by rw [e]; exact List.mem_cons_self ..)
      have hw2 := hw.sublist hsubd
      have hl3 := hlo' l hl'
      rw [e] at hw2 hl'
      have : x.off ≤ l.off := by
       rcases List.mem_cons.1 hl' with rfl | hl'
       · omega
       · exact ((List.pairwise_cons.1 hw2).1 l hl').2 (hx.1.trans hl3.1.symm)
      simp only; omega
   generalize hn : chunkN at' (p.data.drop at') (dropM true at' ls) = n at *
   have ih := data_same f (at' + n) (lb ++ takeM true at' ls) (dropM true at' ls) hl2 (by omega) (by omega) (hw.sublist hsubd) (fun l hl' hd => by have := hlb' l hl' hd; omega) (fun l hl' => ⟨(hlo' l hl').1, hhead l hl'⟩)
   simp only
   rw [joinL_app', hm, Nat.add_sub_cancel_left, List.drop_drop]
   simp only [joinL]
   rw [ih]
   simp
def refPrintS (p : Pg) : Except Nat Bytes := if checkP p ≠ 0 then .error (checkP p) else if isBehind p then .error 33 else
 .ok ((dEntry ++ 32 :: (decI p.entry ++ [10])) ++ (if 0 < p.zero then dZero ++ 32 :: (decI p.zero ++ [10]) else []) ++ codeR p 0 p.code ++
  (if p.data ≠ [] ∨ (p.labels.any fun l => l.data) = true then dData ++ 10 :: (dataR p (p.data.length + 1) 0 ++ marksF p true p.data.length) else []))
theorem refPrint_same (p : Pg) : refPrintS p = printS p := by
 unfold refPrintS printS
 by_cases hc : checkP p ≠ 0
 · rw [if_pos hc, if_pos hc]
 rw [if_neg hc, if_neg hc]
 have hok := check_ok (Decidable.not_not.1 hc)
 by_cases hb : isBehind p = true
 · rw [if_pos hb, if_pos hb]
 rw [if_neg hb, if_neg hb]
 congr 1
 have hw : p.labels.Pairwise Wk := hok.sorted.imp fun {a b} hab => follows_wk hab
 obtain ⟨e1, lb', e2, e3, e4⟩ := code_same (p := p) (fun l hl hd => (hok.each l hl).code hd) p.code 0 [] p.labels rfl (by omega) hw (fun l hl => by cases hl) (fun l hl _ => by have := (hok.each l hl).lo; omega)
 unfold printP headP
 rw [joinL_app', joinL_app', e1]
 have hz := hok.zero
 have hhead : joinL ((dEntry ++ 32 :: decI p.entry) :: (if p.zero = 0 then [] else [dZero ++ 32 :: decI p.zero])) = (dEntry ++ 32 :: (decI p.entry ++ [10])) ++ (if 0 < p.zero then dZero ++ 32 :: (decI p.zero ++ [10]) else []) := by
  by_cases h0 : p.zero = 0
  · rw [if_pos h0, if_neg (by omega)]; simp [joinL]
  · rw [if_neg h0, if_pos (by omega)]; simp [joinL]
 rw [hhead, List.append_assoc _ (codeR p 0 p.code)]
 congr 2
 unfold tailP
 have hany : (p.labels.any fun l => l.data) = !(codeP 0 p.code p.labels).2.isEmpty := by
  rw [← e2, List.any_append]
  have h1 : (lb'.any fun l => l.data) = false := by
   rw [List.any_eq_false]; intro l hl; rw [e3 l hl]; decide
  rw [h1, Bool.false_or]
  cases e : (codeP 0 p.code p.labels).2 with
  | nil => rw [e] at e2; rw [show ((codeP 0 p.code (lb' ++ [])).2) = [] by rw [e2]; exact e]; rfl
  | cons x t =>
    have := e4 x (by rw [e]; exact List.mem_cons_self ..)
    rw [show ((codeP 0 p.code (lb' ++ x :: t)).2) = x :: t by rw [← e, e2]]
    simp [this]
 by_cases hm : p.data ≠ [] ∨ (p.labels.any fun l => l.data) = true
 · rw [if_pos hm, if_neg]
   · have hw2 : (codeP 0 p.code p.labels).2.Pairwise Wk := by
      have := hw; rw [← e2] at this; exact (List.pairwise_append.1 this).2.1
     have := data_same (p := p) (p.data.length + 1) 0 lb' (codeP 0 p.code p.labels).2 e2 (by omega) (Nat.zero_le _) hw2 (fun l hl hd => by rw [e3 l hl] at hd; cases hd) (fun l hl => ⟨e4 l hl, by have := (hok.each l (by rw [← e2]; exact List.mem_append_right _ hl)).lo; omega⟩)
     rw [List.drop_zero] at this
     simp only [joinL]
     rw [this]
   · rcases hm with hm | hm
     · cases hd : p.data with
       | nil => exact absurd hd hm
       | cons _ _ => simp
     · rw [hany] at hm
       simp only [Bool.and_eq_true]
       rintro ⟨_, h2⟩
       rw [h2] at hm; cases hm
 · rw [if_neg hm]
   have h1 : p.data = [] := Decidable.not_not.1 fun h => hm (.inl h)
   have h2 : (p.labels.any fun l => l.data) = false := by
    cases h : (p.labels.any fun l => l.data) with
    | true => exact absurd (.inr h) hm
    | false => rfl
   rw [hany] at h2
   rw [if_pos (by rw [h1]; simpa using h2)]
   rfl
end Go.As
namespace Go.Proofs.D
open Go Go.Den
set_option maxRecDepth 100000
set_option maxHeartbeats 4000000
abbrev etk1 : List CK := [.slice, .str, qi, qi, .slice]
abbrev etk2 : List CK := [qi, qi, qi, qi]
noncomputable def d36 : DCode := up ⟨[(11, .l etk1), (12, .c (.one false [qi])), (17, .l [.str]), (21, .l [.slice]), (29, .l [.slice]), (33, .l [.bool]), (36, .l [.slice]), (40, .l [.bool]), (43, .l [.slice]), (47, .l [qi]), (49, .l [.str]), (54, .l [qi]), (55, .c (.one false [.str])), (59, .l [qi]), (64, .l [qi]), (65, .c (.one false [.str])), (70, .l [.slice]), (76, .l etk1), (79, .c (.one false [.str])), (83, .l [.slice]), (86, .l etk2), (87, .c (.one false [.str])), (91, .l etk1), (93, .l [.slice]), (96, .c (.one false [.str])), (105, .l [.str]), (112, .l [.str]), (122, .l etk1), (124, .c (.one false [.str])), (130, .l etk1), (132, .c (.one false [.str])), (136, .l [.str]), (140, .c (.one false [.str])), (145, .l etk1), (147, .l [.str]), (149, .c (.one false [.str]))], [], [(19, 38, [(5, .bool), (6, qi)], []), (68, 24, [(7, .str), (8, qi)], []), (103, 44, [(7, .str), (9, qi)], []), (110, 20, [(10, qi)], [])]⟩ (low Tryz.prog (fun _ => false) (Tryz.f36.body.getD .skip))
theorem low36 : low Tryz.prog (fun _ => false) (Tryz.f36.body.getD .skip) = some (eC d36) := by kernel_rfl
def R36 (a1 : OA) (n1 : Nat) (etk1 : Nat) (l1 : Bs) (i1 : Int) (i2 : Int) (a2 : OA) (n2 : Nat) (etk2 : Nat) (h : PHeap) (Q : Value → PHeap → Prop) : Prop :=
 Tri Tryz.prog 22 [vA [vL a1 n1 etk1, vS l1, vI i1, vI i2, vL a2 n2 etk2]] h fun v_1 h_1 =>
 ∃ (i3 : Int), v_1 = vI i3 ∧
 br (i3 != 0)
 (Q (vT [vS [], vI i3]) h_1)
 (∃ (I_1 : Nat → Bool → Int → PHeap → Prop), (∃ (m2 : Nat), I_1 m2 (!(l1 == [])) (0 : Int) h_1) ∧
 ∀ (m1 : Nat) (c1 : Bool) (i4 : Int) (h_2 : PHeap), I_1 m1 c1 i4 h_2 →
 br (decide (i4 < ((n2 : Nat) : Int)))
 (br c1
 (∃ (b1 o1 : Nat), a2 = some ⟨b1, o1, none⟩ ∧ (0 ≤ i4 ∧ i4 < n2) ∧
 ∃ (c2 : Bool), h_2.cell b1 ((o1 + (i4).toNat * 3) + 1) = some (vB c2) ∧
 br c2
 (∃ (b2 o2 : Nat), a2 = some ⟨b2, o2, none⟩ ∧ (0 ≤ i4 ∧ i4 < n2) ∧
 ∃ (i5 : Int), h_2.cell b2 ((o2 + (i4).toNat * 3) + 2) = some (vI i5) ∧
 br (decide (i5 > (l1.length : Int)))
 (Q (vT [vS [], vI 33]) h_2)
 (∃ (m3 : Nat), m3 < m1 ∧ I_1 m3 true (IntKind.i64.wrap (i4 + 1)) h_2 ∧
 tv [vL a1 n1 etk1, vS l1, vI i1, vI i2, vL a2 n2 etk2] ∧ True))
 (∃ (m4 : Nat), m4 < m1 ∧ I_1 m4 true (IntKind.i64.wrap (i4 + 1)) h_2 ∧
 tv [vL a1 n1 etk1, vS l1, vI i1, vI i2, vL a2 n2 etk2] ∧ True))
 (∃ (b3 o3 : Nat), a2 = some ⟨b3, o3, none⟩ ∧ (0 ≤ i4 ∧ i4 < n2) ∧
 ∃ (c3 : Bool), h_2.cell b3 ((o3 + (i4).toNat * 3) + 1) = some (vB c3) ∧
 ∃ (b4 o4 : Nat), a2 = some ⟨b4, o4, none⟩ ∧ (0 ≤ i4 ∧ i4 < n2) ∧
 ∃ (c4 : Bool), h_2.cell b4 ((o4 + (i4).toNat * 3) + 1) = some (vB c4) ∧
 br c4
 (∃ (b5 o5 : Nat), a2 = some ⟨b5, o5, none⟩ ∧ (0 ≤ i4 ∧ i4 < n2) ∧
 ∃ (i6 : Int), h_2.cell b5 ((o5 + (i4).toNat * 3) + 2) = some (vI i6) ∧
 br (decide (i6 > (l1.length : Int)))
 (Q (vT [vS [], vI 33]) h_2)
 (∃ (m5 : Nat), m5 < m1 ∧ I_1 m5 c3 (IntKind.i64.wrap (i4 + 1)) h_2 ∧
 tv [vL a1 n1 etk1, vS l1, vI i1, vI i2, vL a2 n2 etk2] ∧ True))
 (∃ (m6 : Nat), m6 < m1 ∧ I_1 m6 c3 (IntKind.i64.wrap (i4 + 1)) h_2 ∧
 tv [vL a1 n1 etk1, vS l1, vI i1, vI i2, vL a2 n2 etk2] ∧ True)))
 (Tri Tryz.prog 18 [vI i2] h_2 fun v_2 h_3 =>
 ∃ (l2 : Bs), v_2 = vS l2 ∧
 ([46, 101, 110, 116, 114, 121, 32] : Bs).length + l2.length ≤ 9223372036854775807 ∧
 (([46, 101, 110, 116, 114, 121, 32] : Bs) ++ l2).length + ([10] : Bs).length ≤ 9223372036854775807 ∧
 br (decide (i1 > 0))
 (((([46, 101, 110, 116, 114, 121, 32] : Bs) ++ l2) ++ ([10] : Bs)).length + ([46, 122, 101, 114, 111, 32] : Bs).length ≤ 9223372036854775807 ∧
 Tri Tryz.prog 18 [vI i1] h_3 fun v_3 h_4 =>
 ∃ (l3 : Bs), v_3 = vS l3 ∧
 (((([46, 101, 110, 116, 114, 121, 32] : Bs) ++ l2) ++ ([10] : Bs)) ++ ([46, 122, 101, 114, 111, 32] : Bs)).length + l3.length ≤ 9223372036854775807 ∧
 ((((([46, 101, 110, 116, 114, 121, 32] : Bs) ++ l2) ++ ([10] : Bs)) ++ ([46, 122, 101, 114, 111, 32] : Bs)) ++ l3).length + ([10] : Bs).length ≤ 9223372036854775807 ∧
 ∃ (I_2 : Nat → Bs → Int → PHeap → Prop), (∃ (m8 : Nat), I_2 m8 (((((([46, 101, 110, 116, 114, 121, 32] : Bs) ++ l2) ++ ([10] : Bs)) ++ ([46, 122, 101, 114, 111, 32] : Bs)) ++ l3) ++ ([10] : Bs)) (0 : Int) h_4) ∧
 ∀ (m7 : Nat) (l4 : Bs) (i7 : Int) (h_5 : PHeap), I_2 m7 l4 i7 h_5 →
 br (decide (i7 < ((n1 : Nat) : Int)))
 (∃ (b6 o6 : Nat), a1 = some ⟨b6, o6, none⟩ ∧ (0 ≤ i7 ∧ i7 < n1) ∧
 ∃ (i8 i9 i10 i11 : Int), h_5.row b6 (o6 + (i7).toNat * 4) [vI i8, vI i9, vI i10, vI i11] ∧
 Tri Tryz.prog 75 [vA [vL a1 n1 etk1, vS l1, vI i1, vI i2, vL a2 n2 etk2], vB false, vI (IntKind.i64.wrap (4 * i7))] h_5 fun v_4 h_6 =>
 ∃ (l5 : Bs), v_4 = vS l5 ∧
 (h_6.row b6 (o6 + (i7).toNat * 4) [vI i8, vI i9, vI i10, vI i11]) ∧
 (tv [vL a1 n1 etk1]) ∧
 l4.length + l5.length ≤ 9223372036854775807 ∧
 (l4 ++ l5).length + ([9] : Bs).length ≤ 9223372036854775807 ∧
 Tri Tryz.prog 34 [vA [vI i8, vI i9, vI i10, vI i11]] h_6 fun v_5 h_7 =>
 ∃ (l6 : Bs), v_5 = vS l6 ∧
 (tv [vL a1 n1 etk1]) ∧
 ((l4 ++ l5) ++ ([9] : Bs)).length + l6.length ≤ 9223372036854775807 ∧
 (((l4 ++ l5) ++ ([9] : Bs)) ++ l6).length + ([10] : Bs).length ≤ 9223372036854775807 ∧
 ∃ (m9 : Nat), m9 < m7 ∧ I_2 m9 ((((l4 ++ l5) ++ ([9] : Bs)) ++ l6) ++ ([10] : Bs)) (IntKind.i64.wrap (i7 + 1)) h_7 ∧
 tv [vL a1 n1 etk1, vS l1, vI i1, vI i2, vL a2 n2 etk2] ∧ True)
 (Tri Tryz.prog 75 [vA [vL a1 n1 etk1, vS l1, vI i1, vI i2, vL a2 n2 etk2], vB false, vI (IntKind.i64.wrap (4 * ((n1 : Nat) : Int)))] h_5 fun v_6 h_8 =>
 ∃ (l7 : Bs), v_6 = vS l7 ∧
 l4.length + l7.length ≤ 9223372036854775807 ∧
 br (!c1)
 (Q (vT [vS (l4 ++ l7), vI 0]) h_8)
 ((l4 ++ l7).length + ([46, 100, 97, 116, 97, 10] : Bs).length ≤ 9223372036854775807 ∧
 ∃ (I_3 : Nat → Bs → Int → PHeap → Prop), (∃ (m11 : Nat), I_3 m11 ((l4 ++ l7) ++ ([46, 100, 97, 116, 97, 10] : Bs)) (0 : Int) h_8) ∧
 ∀ (m10 : Nat) (l8 : Bs) (i12 : Int) (h_9 : PHeap), I_3 m10 l8 i12 h_9 →
 br (decide (i12 < (l1.length : Int)))
 (∃ (I_4 : Nat → Int → PHeap → Prop), (∃ (m13 : Nat), I_4 m13 (IntKind.i64.wrap (i12 + 1)) h_9) ∧
 ∀ (m12 : Nat) (i13 : Int) (h_10 : PHeap), I_4 m12 i13 h_10 →
 br (decide (i13 < (l1.length : Int)))
 (br (decide (i13 < (IntKind.i64.wrap (i12 + 32))))
 (Tri Tryz.prog 75 [vA [vL a1 n1 etk1, vS l1, vI i1, vI i2, vL a2 n2 etk2], vB true, vI i13] h_10 fun v_7 h_11 =>
 ∃ (l9 : Bs), v_7 = vS l9 ∧
 br (l9 == [])
 (∃ (m14 : Nat), m14 < m12 ∧ I_4 m14 (IntKind.i64.wrap (i13 + 1)) h_11 ∧
 tv [vL a1 n1 etk1, vS l1, vI i1, vI i2, vL a2 n2 etk2] ∧ True)
 ((0 ≤ i12 ∧ i12 ≤ i13 ∧ i13 ≤ (l1.length : Int)) ∧
 Tri Tryz.prog 75 [vA [vL a1 n1 etk1, vS l1, vI i1, vI i2, vL a2 n2 etk2], vB true, vI i12] h_11 fun v_8 h_12 =>
 ∃ (l10 : Bs), v_8 = vS l10 ∧
 (tv [vS l1]) ∧
 l8.length + l10.length ≤ 9223372036854775807 ∧
 (l8 ++ l10).length + ([9, 46, 116, 101, 120, 116, 32] : Bs).length ≤ 9223372036854775807 ∧
 Tri Tryz.prog 31 [vS ((l1.drop (i12).toNat).take ((i13).toNat - (i12).toNat))] h_12 fun v_9 h_13 =>
 ∃ (l11 : Bs), v_9 = vS l11 ∧
 (tv [vS l1]) ∧
 ((l8 ++ l10) ++ ([9, 46, 116, 101, 120, 116, 32] : Bs)).length + l11.length ≤ 9223372036854775807 ∧
 (((l8 ++ l10) ++ ([9, 46, 116, 101, 120, 116, 32] : Bs)) ++ l11).length + ([10] : Bs).length ≤ 9223372036854775807 ∧
 ∃ (m15 : Nat), m15 < m10 ∧ I_3 m15 ((((l8 ++ l10) ++ ([9, 46, 116, 101, 120, 116, 32] : Bs)) ++ l11) ++ ([10] : Bs)) i13 h_13 ∧
 tv [vL a1 n1 etk1, vS l1, vI i1, vI i2, vL a2 n2 etk2] ∧ True))
 ((0 ≤ i12 ∧ i12 ≤ i13 ∧ i13 ≤ (l1.length : Int)) ∧
 Tri Tryz.prog 75 [vA [vL a1 n1 etk1, vS l1, vI i1, vI i2, vL a2 n2 etk2], vB true, vI i12] h_10 fun v_10 h_14 =>
 ∃ (l12 : Bs), v_10 = vS l12 ∧
 (tv [vS l1]) ∧
 l8.length + l12.length ≤ 9223372036854775807 ∧
 (l8 ++ l12).length + ([9, 46, 116, 101, 120, 116, 32] : Bs).length ≤ 9223372036854775807 ∧
 Tri Tryz.prog 31 [vS ((l1.drop (i12).toNat).take ((i13).toNat - (i12).toNat))] h_14 fun v_11 h_15 =>
 ∃ (l13 : Bs), v_11 = vS l13 ∧
 (tv [vS l1]) ∧
 ((l8 ++ l12) ++ ([9, 46, 116, 101, 120, 116, 32] : Bs)).length + l13.length ≤ 9223372036854775807 ∧
 (((l8 ++ l12) ++ ([9, 46, 116, 101, 120, 116, 32] : Bs)) ++ l13).length + ([10] : Bs).length ≤ 9223372036854775807 ∧
 ∃ (m16 : Nat), m16 < m10 ∧ I_3 m16 ((((l8 ++ l12) ++ ([9, 46, 116, 101, 120, 116, 32] : Bs)) ++ l13) ++ ([10] : Bs)) i13 h_15 ∧
 tv [vL a1 n1 etk1, vS l1, vI i1, vI i2, vL a2 n2 etk2] ∧ True))
 ((0 ≤ i12 ∧ i12 ≤ i13 ∧ i13 ≤ (l1.length : Int)) ∧
 Tri Tryz.prog 75 [vA [vL a1 n1 etk1, vS l1, vI i1, vI i2, vL a2 n2 etk2], vB true, vI i12] h_10 fun v_12 h_16 =>
 ∃ (l14 : Bs), v_12 = vS l14 ∧
 (tv [vS l1]) ∧
 l8.length + l14.length ≤ 9223372036854775807 ∧
 (l8 ++ l14).length + ([9, 46, 116, 101, 120, 116, 32] : Bs).length ≤ 9223372036854775807 ∧
 Tri Tryz.prog 31 [vS ((l1.drop (i12).toNat).take ((i13).toNat - (i12).toNat))] h_16 fun v_13 h_17 =>
 ∃ (l15 : Bs), v_13 = vS l15 ∧
 (tv [vS l1]) ∧
 ((l8 ++ l14) ++ ([9, 46, 116, 101, 120, 116, 32] : Bs)).length + l15.length ≤ 9223372036854775807 ∧
 (((l8 ++ l14) ++ ([9, 46, 116, 101, 120, 116, 32] : Bs)) ++ l15).length + ([10] : Bs).length ≤ 9223372036854775807 ∧
 ∃ (m17 : Nat), m17 < m10 ∧ I_3 m17 ((((l8 ++ l14) ++ ([9, 46, 116, 101, 120, 116, 32] : Bs)) ++ l15) ++ ([10] : Bs)) i13 h_17 ∧
 tv [vL a1 n1 etk1, vS l1, vI i1, vI i2, vL a2 n2 etk2] ∧ True))
 (Tri Tryz.prog 75 [vA [vL a1 n1 etk1, vS l1, vI i1, vI i2, vL a2 n2 etk2], vB true, vI (l1.length : Int)] h_9 fun v_14 h_18 =>
 ∃ (l16 : Bs), v_14 = vS l16 ∧
 l8.length + l16.length ≤ 9223372036854775807 ∧
 Q (vT [vS (l8 ++ l16), vI 0]) h_18))))
 (∃ (I_5 : Nat → Bs → Int → PHeap → Prop), (∃ (m19 : Nat), I_5 m19 ((([46, 101, 110, 116, 114, 121, 32] : Bs) ++ l2) ++ ([10] : Bs)) (0 : Int) h_3) ∧
 ∀ (m18 : Nat) (l17 : Bs) (i14 : Int) (h_19 : PHeap), I_5 m18 l17 i14 h_19 →
 br (decide (i14 < ((n1 : Nat) : Int)))
 (∃ (b7 o7 : Nat), a1 = some ⟨b7, o7, none⟩ ∧ (0 ≤ i14 ∧ i14 < n1) ∧
 ∃ (i15 i16 i17 i18 : Int), h_19.row b7 (o7 + (i14).toNat * 4) [vI i15, vI i16, vI i17, vI i18] ∧
 Tri Tryz.prog 75 [vA [vL a1 n1 etk1, vS l1, vI i1, vI i2, vL a2 n2 etk2], vB false, vI (IntKind.i64.wrap (4 * i14))] h_19 fun v_15 h_20 =>
 ∃ (l18 : Bs), v_15 = vS l18 ∧
 (h_20.row b7 (o7 + (i14).toNat * 4) [vI i15, vI i16, vI i17, vI i18]) ∧
 (tv [vL a1 n1 etk1]) ∧
 l17.length + l18.length ≤ 9223372036854775807 ∧
 (l17 ++ l18).length + ([9] : Bs).length ≤ 9223372036854775807 ∧
 Tri Tryz.prog 34 [vA [vI i15, vI i16, vI i17, vI i18]] h_20 fun v_16 h_21 =>
 ∃ (l19 : Bs), v_16 = vS l19 ∧
 (tv [vL a1 n1 etk1]) ∧
 ((l17 ++ l18) ++ ([9] : Bs)).length + l19.length ≤ 9223372036854775807 ∧
 (((l17 ++ l18) ++ ([9] : Bs)) ++ l19).length + ([10] : Bs).length ≤ 9223372036854775807 ∧
 ∃ (m20 : Nat), m20 < m18 ∧ I_5 m20 ((((l17 ++ l18) ++ ([9] : Bs)) ++ l19) ++ ([10] : Bs)) (IntKind.i64.wrap (i14 + 1)) h_21 ∧
 tv [vL a1 n1 etk1, vS l1, vI i1, vI i2, vL a2 n2 etk2] ∧ True)
 (Tri Tryz.prog 75 [vA [vL a1 n1 etk1, vS l1, vI i1, vI i2, vL a2 n2 etk2], vB false, vI (IntKind.i64.wrap (4 * ((n1 : Nat) : Int)))] h_19 fun v_17 h_22 =>
 ∃ (l20 : Bs), v_17 = vS l20 ∧
 l17.length + l20.length ≤ 9223372036854775807 ∧
 br (!c1)
 (Q (vT [vS (l17 ++ l20), vI 0]) h_22)
 ((l17 ++ l20).length + ([46, 100, 97, 116, 97, 10] : Bs).length ≤ 9223372036854775807 ∧
 ∃ (I_6 : Nat → Bs → Int → PHeap → Prop), (∃ (m22 : Nat), I_6 m22 ((l17 ++ l20) ++ ([46, 100, 97, 116, 97, 10] : Bs)) (0 : Int) h_22) ∧
 ∀ (m21 : Nat) (l21 : Bs) (i19 : Int) (h_23 : PHeap), I_6 m21 l21 i19 h_23 →
 br (decide (i19 < (l1.length : Int)))
 (∃ (I_7 : Nat → Int → PHeap → Prop), (∃ (m24 : Nat), I_7 m24 (IntKind.i64.wrap (i19 + 1)) h_23) ∧
 ∀ (m23 : Nat) (i20 : Int) (h_24 : PHeap), I_7 m23 i20 h_24 →
 br (decide (i20 < (l1.length : Int)))
 (br (decide (i20 < (IntKind.i64.wrap (i19 + 32))))
 (Tri Tryz.prog 75 [vA [vL a1 n1 etk1, vS l1, vI i1, vI i2, vL a2 n2 etk2], vB true, vI i20] h_24 fun v_18 h_25 =>
 ∃ (l22 : Bs), v_18 = vS l22 ∧
 br (l22 == [])
 (∃ (m25 : Nat), m25 < m23 ∧ I_7 m25 (IntKind.i64.wrap (i20 + 1)) h_25 ∧
 tv [vL a1 n1 etk1, vS l1, vI i1, vI i2, vL a2 n2 etk2] ∧ True)
 ((0 ≤ i19 ∧ i19 ≤ i20 ∧ i20 ≤ (l1.length : Int)) ∧
 Tri Tryz.prog 75 [vA [vL a1 n1 etk1, vS l1, vI i1, vI i2, vL a2 n2 etk2], vB true, vI i19] h_25 fun v_19 h_26 =>
 ∃ (l23 : Bs), v_19 = vS l23 ∧
 (tv [vS l1]) ∧
 l21.length + l23.length ≤ 9223372036854775807 ∧
 (l21 ++ l23).length + ([9, 46, 116, 101, 120, 116, 32] : Bs).length ≤ 9223372036854775807 ∧
 Tri Tryz.prog 31 [vS ((l1.drop (i19).toNat).take ((i20).toNat - (i19).toNat))] h_26 fun v_20 h_27 =>
 ∃ (l24 : Bs), v_20 = vS l24 ∧
 (tv [vS l1]) ∧
 ((l21 ++ l23) ++ ([9, 46, 116, 101, 120, 116, 32] : Bs)).length + l24.length ≤ 9223372036854775807 ∧
 (((l21 ++ l23) ++ ([9, 46, 116, 101, 120, 116, 32] : Bs)) ++ l24).length + ([10] : Bs).length ≤ 9223372036854775807 ∧
 ∃ (m26 : Nat), m26 < m21 ∧ I_6 m26 ((((l21 ++ l23) ++ ([9, 46, 116, 101, 120, 116, 32] : Bs)) ++ l24) ++ ([10] : Bs)) i20 h_27 ∧
 tv [vL a1 n1 etk1, vS l1, vI i1, vI i2, vL a2 n2 etk2] ∧ True))
 ((0 ≤ i19 ∧ i19 ≤ i20 ∧ i20 ≤ (l1.length : Int)) ∧
 Tri Tryz.prog 75 [vA [vL a1 n1 etk1, vS l1, vI i1, vI i2, vL a2 n2 etk2], vB true, vI i19] h_24 fun v_21 h_28 =>
 ∃ (l25 : Bs), v_21 = vS l25 ∧
 (tv [vS l1]) ∧
 l21.length + l25.length ≤ 9223372036854775807 ∧
 (l21 ++ l25).length + ([9, 46, 116, 101, 120, 116, 32] : Bs).length ≤ 9223372036854775807 ∧
 Tri Tryz.prog 31 [vS ((l1.drop (i19).toNat).take ((i20).toNat - (i19).toNat))] h_28 fun v_22 h_29 =>
 ∃ (l26 : Bs), v_22 = vS l26 ∧
 (tv [vS l1]) ∧
 ((l21 ++ l25) ++ ([9, 46, 116, 101, 120, 116, 32] : Bs)).length + l26.length ≤ 9223372036854775807 ∧
 (((l21 ++ l25) ++ ([9, 46, 116, 101, 120, 116, 32] : Bs)) ++ l26).length + ([10] : Bs).length ≤ 9223372036854775807 ∧
 ∃ (m27 : Nat), m27 < m21 ∧ I_6 m27 ((((l21 ++ l25) ++ ([9, 46, 116, 101, 120, 116, 32] : Bs)) ++ l26) ++ ([10] : Bs)) i20 h_29 ∧
 tv [vL a1 n1 etk1, vS l1, vI i1, vI i2, vL a2 n2 etk2] ∧ True))
 ((0 ≤ i19 ∧ i19 ≤ i20 ∧ i20 ≤ (l1.length : Int)) ∧
 Tri Tryz.prog 75 [vA [vL a1 n1 etk1, vS l1, vI i1, vI i2, vL a2 n2 etk2], vB true, vI i19] h_24 fun v_23 h_30 =>
 ∃ (l27 : Bs), v_23 = vS l27 ∧
 (tv [vS l1]) ∧
 l21.length + l27.length ≤ 9223372036854775807 ∧
 (l21 ++ l27).length + ([9, 46, 116, 101, 120, 116, 32] : Bs).length ≤ 9223372036854775807 ∧
 Tri Tryz.prog 31 [vS ((l1.drop (i19).toNat).take ((i20).toNat - (i19).toNat))] h_30 fun v_24 h_31 =>
 ∃ (l28 : Bs), v_24 = vS l28 ∧
 (tv [vS l1]) ∧
 ((l21 ++ l27) ++ ([9, 46, 116, 101, 120, 116, 32] : Bs)).length + l28.length ≤ 9223372036854775807 ∧
 (((l21 ++ l27) ++ ([9, 46, 116, 101, 120, 116, 32] : Bs)) ++ l28).length + ([10] : Bs).length ≤ 9223372036854775807 ∧
 ∃ (m28 : Nat), m28 < m21 ∧ I_6 m28 ((((l21 ++ l27) ++ ([9, 46, 116, 101, 120, 116, 32] : Bs)) ++ l28) ++ ([10] : Bs)) i20 h_31 ∧
 tv [vL a1 n1 etk1, vS l1, vI i1, vI i2, vL a2 n2 etk2] ∧ True))
 (Tri Tryz.prog 75 [vA [vL a1 n1 etk1, vS l1, vI i1, vI i2, vL a2 n2 etk2], vB true, vI (l1.length : Int)] h_23 fun v_25 h_32 =>
 ∃ (l29 : Bs), v_25 = vS l29 ∧
 l21.length + l29.length ≤ 9223372036854775807 ∧
 Q (vT [vS (l21 ++ l29), vI 0]) h_32))))))
theorem T36 {a1 : OA} {n1 : Nat} {etk1 : Nat} {l1 : Bs} {i1 : Int} {i2 : Int} {a2 : OA} {n2 : Nat} {etk2 : Nat} {h : PHeap} {Q : Value → PHeap → Prop} (hR : R36 a1 n1 etk1 l1 i1 i2 a2 n2 etk2 h Q) : Tri Tryz.prog 36 [vA [vL a1 n1 etk1, vS l1, vI i1, vI i2, vL a2 n2 etk2]] h Q :=
 tri_of_dn mixed Tryz.func36 rfl (by kernel_rfl) low36 (rs := [.tmp 2, .tmp 3]) (by kernel_rfl) rfl (Eq.mpr (by kernel_rfl : dnF Tryz.prog Tryz.f36.ntmps d36 [.tmp 2, .tmp 3] [vA [vL a1 n1 etk1, vS l1, vI i1, vI i2, vL a2 n2 etk2]] h Q = R36 a1 n1 etk1 l1 i1 i2 a2 n2 etk2 h Q) hR)
noncomputable def d75 : DCode := up ⟨[(11, .l [.slice]), (17, .l [.slice]), (21, .l [.bool]), (26, .l [.slice]), (30, .l [qi]), (36, .l [.slice]), (40, .l [.str])], [], [(9, 36, [(7, .str), (8, qi)], [])]⟩ (low Tryz.prog (fun _ => false) (Tryz.f75.body.getD .skip))
theorem low75 : low Tryz.prog (fun _ => false) (Tryz.f75.body.getD .skip) = some (eC d75) := by kernel_rfl
def R75 (a1 : OA) (n1 : Nat) (etk1 : Nat) (l1 : Bs) (i1 : Int) (i2 : Int) (a2 : OA) (n2 : Nat) (etk2 : Nat) (c1 : Bool) (i3 : Int) (h : PHeap) (Q : Value → PHeap → Prop) : Prop :=
 ∃ (I_1 : Nat → Bs → Int → PHeap → Prop), (∃ (m2 : Nat), I_1 m2 [] (0 : Int) h) ∧
 ∀ (m1 : Nat) (l2 : Bs) (i4 : Int) (h_1 : PHeap), I_1 m1 l2 i4 h_1 →
 br (decide (i4 < ((n2 : Nat) : Int)))
 (∃ (b1 o1 : Nat), a2 = some ⟨b1, o1, none⟩ ∧ (0 ≤ i4 ∧ i4 < n2) ∧
 ∃ (c2 : Bool), h_1.cell b1 ((o1 + (i4).toNat * 3) + 1) = some (vB c2) ∧
 br (c2 == c1)
 (∃ (b2 o2 : Nat), a2 = some ⟨b2, o2, none⟩ ∧ (0 ≤ i4 ∧ i4 < n2) ∧
 ∃ (i5 : Int), h_1.cell b2 ((o2 + (i4).toNat * 3) + 2) = some (vI i5) ∧
 br (i5 == i3)
 (∃ (b3 o3 : Nat), a2 = some ⟨b3, o3, none⟩ ∧ (0 ≤ i4 ∧ i4 < n2) ∧
 ∃ (l3 : Bs), h_1.cell b3 (o3 + (i4).toNat * 3) = some (vS l3) ∧
 l2.length + l3.length ≤ 9223372036854775807 ∧
 (l2 ++ l3).length + ([58, 10] : Bs).length ≤ 9223372036854775807 ∧
 ∃ (m3 : Nat), m3 < m1 ∧ I_1 m3 ((l2 ++ l3) ++ ([58, 10] : Bs)) (IntKind.i64.wrap (i4 + 1)) h_1 ∧
 tv [vL a1 n1 etk1, vS l1, vI i1, vI i2, vL a2 n2 etk2] ∧ True)
 (∃ (m4 : Nat), m4 < m1 ∧ I_1 m4 l2 (IntKind.i64.wrap (i4 + 1)) h_1 ∧
 tv [vL a1 n1 etk1, vS l1, vI i1, vI i2, vL a2 n2 etk2] ∧ True))
 (∃ (m5 : Nat), m5 < m1 ∧ I_1 m5 l2 (IntKind.i64.wrap (i4 + 1)) h_1 ∧
 tv [vL a1 n1 etk1, vS l1, vI i1, vI i2, vL a2 n2 etk2] ∧ True))
 (Q (vS l2) h_1)
theorem T75 {a1 : OA} {n1 : Nat} {etk1 : Nat} {l1 : Bs} {i1 : Int} {i2 : Int} {a2 : OA} {n2 : Nat} {etk2 : Nat} {c1 : Bool} {i3 : Int} {h : PHeap} {Q : Value → PHeap → Prop} (hR : R75 a1 n1 etk1 l1 i1 i2 a2 n2 etk2 c1 i3 h Q) : Tri Tryz.prog 75 [vA [vL a1 n1 etk1, vS l1, vI i1, vI i2, vL a2 n2 etk2], vB c1, vI i3] h Q :=
 tri_of_dn mixed Tryz.func75 rfl (by kernel_rfl) low75 (rs := [.tmp 6]) (by kernel_rfl) rfl (Eq.mpr (by kernel_rfl : dnF Tryz.prog Tryz.f75.ntmps d75 [.tmp 6] [vA [vL a1 n1 etk1, vS l1, vI i1, vI i2, vL a2 n2 etk2], vB c1, vI i3] h Q = R75 a1 n1 etk1 l1 i1 i2 a2 n2 etk2 c1 i3 h Q) hR)
end Go.Proofs.D
namespace Go.Proofs.D
open Go Go.Den Go.As
set_option maxRecDepth 100000
attribute [local irreducible] IntKind.wrap Tri
def chunk36 (a1 : OA) (n1 : Nat) (d36k1 : Nat) (l1 : Bs) (i1 : Int) (i2 : Int) (a2 : OA) (n2 : Nat) (d36k2 : Nat) (i19 i20 : Int) (l21 : Bs) (m21 : Nat) (I_6 : Nat → Bs → Int → PHeap → Prop) (h_24 : PHeap) : Prop :=
 (0 ≤ i19 ∧ i19 ≤ i20 ∧ i20 ≤ (l1.length : Int)) ∧
 Tri Tryz.prog 75 [vA [vL a1 n1 d36k1, vS l1, vI i1, vI i2, vL a2 n2 d36k2], vB true, vI i19] h_24 fun v_23 h_30 =>
 ∃ (l27 : Bs), v_23 = vS l27 ∧
 (tv [vS l1]) ∧
 l21.length + l27.length ≤ 9223372036854775807 ∧
 (l21 ++ l27).length + ([9, 46, 116, 101, 120, 116, 32] : Bs).length ≤ 9223372036854775807 ∧
 Tri Tryz.prog 31 [vS ((l1.drop (i19).toNat).take ((i20).toNat - (i19).toNat))] h_30 fun v_24 h_31 =>
 ∃ (l28 : Bs), v_24 = vS l28 ∧
 (tv [vS l1]) ∧
 ((l21 ++ l27) ++ ([9, 46, 116, 101, 120, 116, 32] : Bs)).length + l28.length ≤ 9223372036854775807 ∧
 (((l21 ++ l27) ++ ([9, 46, 116, 101, 120, 116, 32] : Bs)) ++ l28).length + ([10] : Bs).length ≤ 9223372036854775807 ∧
 ∃ (m28 : Nat), m28 < m21 ∧ I_6 m28 ((((l21 ++ l27) ++ ([9, 46, 116, 101, 120, 116, 32] : Bs)) ++ l28) ++ ([10] : Bs)) i20 h_31 ∧
 tv [vL a1 n1 d36k1, vS l1, vI i1, vI i2, vL a2 n2 d36k2] ∧ True
def data36 (a1 : OA) (n1 : Nat) (d36k1 : Nat) (l1 : Bs) (i1 : Int) (i2 : Int) (a2 : OA) (n2 : Nat) (d36k2 : Nat) (l0 : Bs) (h0 : PHeap) (Q : Value → PHeap → Prop) : Prop :=
 ∃ (I_6 : Nat → Bs → Int → PHeap → Prop), (∃ (m22 : Nat), I_6 m22 l0 (0 : Int) h0) ∧
 ∀ (m21 : Nat) (l21 : Bs) (i19 : Int) (h_23 : PHeap), I_6 m21 l21 i19 h_23 →
 br (decide (i19 < (l1.length : Int)))
 (∃ (I_7 : Nat → Int → PHeap → Prop), (∃ (m24 : Nat), I_7 m24 (IntKind.i64.wrap (i19 + 1)) h_23) ∧
 ∀ (m23 : Nat) (i20 : Int) (h_24 : PHeap), I_7 m23 i20 h_24 →
 br (decide (i20 < (l1.length : Int)))
 (br (decide (i20 < (IntKind.i64.wrap (i19 + 32))))
 (Tri Tryz.prog 75 [vA [vL a1 n1 d36k1, vS l1, vI i1, vI i2, vL a2 n2 d36k2], vB true, vI i20] h_24 fun v_18 h_25 =>
 ∃ (l22 : Bs), v_18 = vS l22 ∧
 br (l22 == [])
 (∃ (m25 : Nat), m25 < m23 ∧ I_7 m25 (IntKind.i64.wrap (i20 + 1)) h_25 ∧
 tv [vL a1 n1 d36k1, vS l1, vI i1, vI i2, vL a2 n2 d36k2] ∧ True)
 ((0 ≤ i19 ∧ i19 ≤ i20 ∧ i20 ≤ (l1.length : Int)) ∧
 Tri Tryz.prog 75 [vA [vL a1 n1 d36k1, vS l1, vI i1, vI i2, vL a2 n2 d36k2], vB true, vI i19] h_25 fun v_19 h_26 =>
 ∃ (l23 : Bs), v_19 = vS l23 ∧
 (tv [vS l1]) ∧
 l21.length + l23.length ≤ 9223372036854775807 ∧
 (l21 ++ l23).length + ([9, 46, 116, 101, 120, 116, 32] : Bs).length ≤ 9223372036854775807 ∧
 Tri Tryz.prog 31 [vS ((l1.drop (i19).toNat).take ((i20).toNat - (i19).toNat))] h_26 fun v_20 h_27 =>
 ∃ (l24 : Bs), v_20 = vS l24 ∧
 (tv [vS l1]) ∧
 ((l21 ++ l23) ++ ([9, 46, 116, 101, 120, 116, 32] : Bs)).length + l24.length ≤ 9223372036854775807 ∧
 (((l21 ++ l23) ++ ([9, 46, 116, 101, 120, 116, 32] : Bs)) ++ l24).length + ([10] : Bs).length ≤ 9223372036854775807 ∧
 ∃ (m26 : Nat), m26 < m21 ∧ I_6 m26 ((((l21 ++ l23) ++ ([9, 46, 116, 101, 120, 116, 32] : Bs)) ++ l24) ++ ([10] : Bs)) i20 h_27 ∧
 tv [vL a1 n1 d36k1, vS l1, vI i1, vI i2, vL a2 n2 d36k2] ∧ True))
 ((0 ≤ i19 ∧ i19 ≤ i20 ∧ i20 ≤ (l1.length : Int)) ∧
 Tri Tryz.prog 75 [vA [vL a1 n1 d36k1, vS l1, vI i1, vI i2, vL a2 n2 d36k2], vB true, vI i19] h_24 fun v_21 h_28 =>
 ∃ (l25 : Bs), v_21 = vS l25 ∧
 (tv [vS l1]) ∧
 l21.length + l25.length ≤ 9223372036854775807 ∧
 (l21 ++ l25).length + ([9, 46, 116, 101, 120, 116, 32] : Bs).length ≤ 9223372036854775807 ∧
 Tri Tryz.prog 31 [vS ((l1.drop (i19).toNat).take ((i20).toNat - (i19).toNat))] h_28 fun v_22 h_29 =>
 ∃ (l26 : Bs), v_22 = vS l26 ∧
 (tv [vS l1]) ∧
 ((l21 ++ l25) ++ ([9, 46, 116, 101, 120, 116, 32] : Bs)).length + l26.length ≤ 9223372036854775807 ∧
 (((l21 ++ l25) ++ ([9, 46, 116, 101, 120, 116, 32] : Bs)) ++ l26).length + ([10] : Bs).length ≤ 9223372036854775807 ∧
 ∃ (m27 : Nat), m27 < m21 ∧ I_6 m27 ((((l21 ++ l25) ++ ([9, 46, 116, 101, 120, 116, 32] : Bs)) ++ l26) ++ ([10] : Bs)) i20 h_29 ∧
 tv [vL a1 n1 d36k1, vS l1, vI i1, vI i2, vL a2 n2 d36k2] ∧ True))
 ((0 ≤ i19 ∧ i19 ≤ i20 ∧ i20 ≤ (l1.length : Int)) ∧
 Tri Tryz.prog 75 [vA [vL a1 n1 d36k1, vS l1, vI i1, vI i2, vL a2 n2 d36k2], vB true, vI i19] h_24 fun v_23 h_30 =>
 ∃ (l27 : Bs), v_23 = vS l27 ∧
 (tv [vS l1]) ∧
 l21.length + l27.length ≤ 9223372036854775807 ∧
 (l21 ++ l27).length + ([9, 46, 116, 101, 120, 116, 32] : Bs).length ≤ 9223372036854775807 ∧
 Tri Tryz.prog 31 [vS ((l1.drop (i19).toNat).take ((i20).toNat - (i19).toNat))] h_30 fun v_24 h_31 =>
 ∃ (l28 : Bs), v_24 = vS l28 ∧
 (tv [vS l1]) ∧
 ((l21 ++ l27) ++ ([9, 46, 116, 101, 120, 116, 32] : Bs)).length + l28.length ≤ 9223372036854775807 ∧
 (((l21 ++ l27) ++ ([9, 46, 116, 101, 120, 116, 32] : Bs)) ++ l28).length + ([10] : Bs).length ≤ 9223372036854775807 ∧
 ∃ (m28 : Nat), m28 < m21 ∧ I_6 m28 ((((l21 ++ l27) ++ ([9, 46, 116, 101, 120, 116, 32] : Bs)) ++ l28) ++ ([10] : Bs)) i20 h_31 ∧
 tv [vL a1 n1 d36k1, vS l1, vI i1, vI i2, vL a2 n2 d36k2] ∧ True))
 (Tri Tryz.prog 75 [vA [vL a1 n1 d36k1, vS l1, vI i1, vI i2, vL a2 n2 d36k2], vB true, vI (l1.length : Int)] h_23 fun v_25 h_32 =>
 ∃ (l29 : Bs), v_25 = vS l29 ∧
 l21.length + l29.length ≤ 9223372036854775807 ∧
 Q (vT [vS (l21 ++ l29), vI 0]) h_32)
def code36 (a1 : OA) (n1 : Nat) (d36k1 : Nat) (l1 : Bs) (i1 : Int) (i2 : Int) (a2 : OA) (n2 : Nat) (d36k2 : Nat) (c1 : Bool) (l0 : Bs) (h0 : PHeap) (Q : Value → PHeap → Prop) : Prop :=
 ∃ (I_5 : Nat → Bs → Int → PHeap → Prop), (∃ (m19 : Nat), I_5 m19 l0 (0 : Int) h0) ∧
 ∀ (m18 : Nat) (l17 : Bs) (i14 : Int) (h_19 : PHeap), I_5 m18 l17 i14 h_19 →
 br (decide (i14 < ((n1 : Nat) : Int)))
 (∃ (b7 o7 : Nat), a1 = some ⟨b7, o7, none⟩ ∧ (0 ≤ i14 ∧ i14 < n1) ∧
 ∃ (i15 i16 i17 i18 : Int), h_19.row b7 (o7 + (i14).toNat * 4) [vI i15, vI i16, vI i17, vI i18] ∧
 Tri Tryz.prog 75 [vA [vL a1 n1 d36k1, vS l1, vI i1, vI i2, vL a2 n2 d36k2], vB false, vI (IntKind.i64.wrap (4 * i14))] h_19 fun v_15 h_20 =>
 ∃ (l18 : Bs), v_15 = vS l18 ∧
 (h_20.row b7 (o7 + (i14).toNat * 4) [vI i15, vI i16, vI i17, vI i18]) ∧
 (tv [vL a1 n1 d36k1]) ∧
 l17.length + l18.length ≤ 9223372036854775807 ∧
 (l17 ++ l18).length + ([9] : Bs).length ≤ 9223372036854775807 ∧
 Tri Tryz.prog 34 [vA [vI i15, vI i16, vI i17, vI i18]] h_20 fun v_16 h_21 =>
 ∃ (l19 : Bs), v_16 = vS l19 ∧
 (tv [vL a1 n1 d36k1]) ∧
 ((l17 ++ l18) ++ ([9] : Bs)).length + l19.length ≤ 9223372036854775807 ∧
 (((l17 ++ l18) ++ ([9] : Bs)) ++ l19).length + ([10] : Bs).length ≤ 9223372036854775807 ∧
 ∃ (m20 : Nat), m20 < m18 ∧ I_5 m20 ((((l17 ++ l18) ++ ([9] : Bs)) ++ l19) ++ ([10] : Bs)) (IntKind.i64.wrap (i14 + 1)) h_21 ∧
 tv [vL a1 n1 d36k1, vS l1, vI i1, vI i2, vL a2 n2 d36k2] ∧ True)
 (Tri Tryz.prog 75 [vA [vL a1 n1 d36k1, vS l1, vI i1, vI i2, vL a2 n2 d36k2], vB false, vI (IntKind.i64.wrap (4 * ((n1 : Nat) : Int)))] h_19 fun v_17 h_22 =>
 ∃ (l20 : Bs), v_17 = vS l20 ∧
 l17.length + l20.length ≤ 9223372036854775807 ∧
 br (!c1)
 (Q (vT [vS (l17 ++ l20), vI 0]) h_22)
 ((l17 ++ l20).length + ([46, 100, 97, 116, 97, 10] : Bs).length ≤ 9223372036854775807 ∧
 ∃ (I_6 : Nat → Bs → Int → PHeap → Prop), (∃ (m22 : Nat), I_6 m22 ((l17 ++ l20) ++ ([46, 100, 97, 116, 97, 10] : Bs)) (0 : Int) h_22) ∧
 ∀ (m21 : Nat) (l21 : Bs) (i19 : Int) (h_23 : PHeap), I_6 m21 l21 i19 h_23 →
 br (decide (i19 < (l1.length : Int)))
 (∃ (I_7 : Nat → Int → PHeap → Prop), (∃ (m24 : Nat), I_7 m24 (IntKind.i64.wrap (i19 + 1)) h_23) ∧
 ∀ (m23 : Nat) (i20 : Int) (h_24 : PHeap), I_7 m23 i20 h_24 →
 br (decide (i20 < (l1.length : Int)))
 (br (decide (i20 < (IntKind.i64.wrap (i19 + 32))))
 (Tri Tryz.prog 75 [vA [vL a1 n1 d36k1, vS l1, vI i1, vI i2, vL a2 n2 d36k2], vB true, vI i20] h_24 fun v_18 h_25 =>
 ∃ (l22 : Bs), v_18 = vS l22 ∧
 br (l22 == [])
 (∃ (m25 : Nat), m25 < m23 ∧ I_7 m25 (IntKind.i64.wrap (i20 + 1)) h_25 ∧
 tv [vL a1 n1 d36k1, vS l1, vI i1, vI i2, vL a2 n2 d36k2] ∧ True)
 ((0 ≤ i19 ∧ i19 ≤ i20 ∧ i20 ≤ (l1.length : Int)) ∧
 Tri Tryz.prog 75 [vA [vL a1 n1 d36k1, vS l1, vI i1, vI i2, vL a2 n2 d36k2], vB true, vI i19] h_25 fun v_19 h_26 =>
 ∃ (l23 : Bs), v_19 = vS l23 ∧
 (tv [vS l1]) ∧
 l21.length + l23.length ≤ 9223372036854775807 ∧
 (l21 ++ l23).length + ([9, 46, 116, 101, 120, 116, 32] : Bs).length ≤ 9223372036854775807 ∧
 Tri Tryz.prog 31 [vS ((l1.drop (i19).toNat).take ((i20).toNat - (i19).toNat))] h_26 fun v_20 h_27 =>
 ∃ (l24 : Bs), v_20 = vS l24 ∧
 (tv [vS l1]) ∧
 ((l21 ++ l23) ++ ([9, 46, 116, 101, 120, 116, 32] : Bs)).length + l24.length ≤ 9223372036854775807 ∧
 (((l21 ++ l23) ++ ([9, 46, 116, 101, 120, 116, 32] : Bs)) ++ l24).length + ([10] : Bs).length ≤ 9223372036854775807 ∧
 ∃ (m26 : Nat), m26 < m21 ∧ I_6 m26 ((((l21 ++ l23) ++ ([9, 46, 116, 101, 120, 116, 32] : Bs)) ++ l24) ++ ([10] : Bs)) i20 h_27 ∧
 tv [vL a1 n1 d36k1, vS l1, vI i1, vI i2, vL a2 n2 d36k2] ∧ True))
 ((0 ≤ i19 ∧ i19 ≤ i20 ∧ i20 ≤ (l1.length : Int)) ∧
 Tri Tryz.prog 75 [vA [vL a1 n1 d36k1, vS l1, vI i1, vI i2, vL a2 n2 d36k2], vB true, vI i19] h_24 fun v_21 h_28 =>
 ∃ (l25 : Bs), v_21 = vS l25 ∧
 (tv [vS l1]) ∧
 l21.length + l25.length ≤ 9223372036854775807 ∧
 (l21 ++ l25).length + ([9, 46, 116, 101, 120, 116, 32] : Bs).length ≤ 9223372036854775807 ∧
 Tri Tryz.prog 31 [vS ((l1.drop (i19).toNat).take ((i20).toNat - (i19).toNat))] h_28 fun v_22 h_29 =>
 ∃ (l26 : Bs), v_22 = vS l26 ∧
 (tv [vS l1]) ∧
 ((l21 ++ l25) ++ ([9, 46, 116, 101, 120, 116, 32] : Bs)).length + l26.length ≤ 9223372036854775807 ∧
 (((l21 ++ l25) ++ ([9, 46, 116, 101, 120, 116, 32] : Bs)) ++ l26).length + ([10] : Bs).length ≤ 9223372036854775807 ∧
 ∃ (m27 : Nat), m27 < m21 ∧ I_6 m27 ((((l21 ++ l25) ++ ([9, 46, 116, 101, 120, 116, 32] : Bs)) ++ l26) ++ ([10] : Bs)) i20 h_29 ∧
 tv [vL a1 n1 d36k1, vS l1, vI i1, vI i2, vL a2 n2 d36k2] ∧ True))
 ((0 ≤ i19 ∧ i19 ≤ i20 ∧ i20 ≤ (l1.length : Int)) ∧
 Tri Tryz.prog 75 [vA [vL a1 n1 d36k1, vS l1, vI i1, vI i2, vL a2 n2 d36k2], vB true, vI i19] h_24 fun v_23 h_30 =>
 ∃ (l27 : Bs), v_23 = vS l27 ∧
 (tv [vS l1]) ∧
 l21.length + l27.length ≤ 9223372036854775807 ∧
 (l21 ++ l27).length + ([9, 46, 116, 101, 120, 116, 32] : Bs).length ≤ 9223372036854775807 ∧
 Tri Tryz.prog 31 [vS ((l1.drop (i19).toNat).take ((i20).toNat - (i19).toNat))] h_30 fun v_24 h_31 =>
 ∃ (l28 : Bs), v_24 = vS l28 ∧
 (tv [vS l1]) ∧
 ((l21 ++ l27) ++ ([9, 46, 116, 101, 120, 116, 32] : Bs)).length + l28.length ≤ 9223372036854775807 ∧
 (((l21 ++ l27) ++ ([9, 46, 116, 101, 120, 116, 32] : Bs)) ++ l28).length + ([10] : Bs).length ≤ 9223372036854775807 ∧
 ∃ (m28 : Nat), m28 < m21 ∧ I_6 m28 ((((l21 ++ l27) ++ ([9, 46, 116, 101, 120, 116, 32] : Bs)) ++ l28) ++ ([10] : Bs)) i20 h_31 ∧
 tv [vL a1 n1 d36k1, vS l1, vI i1, vI i2, vL a2 n2 d36k2] ∧ True))
 (Tri Tryz.prog 75 [vA [vL a1 n1 d36k1, vS l1, vI i1, vI i2, vL a2 n2 d36k2], vB true, vI (l1.length : Int)] h_23 fun v_25 h_32 =>
 ∃ (l29 : Bs), v_25 = vS l29 ∧
 l21.length + l29.length ≤ 9223372036854775807 ∧
 Q (vT [vS (l21 ++ l29), vI 0]) h_32)))
section
variable {h : PHeap}
theorem marks_len_le {p : Pg} (hN : ∀ l ∈ p.labels, l.name.length ≤ 40) : ∀ (ls : List Lb), (∀ l ∈ ls, l ∈ p.labels) → (joinL (marksT ls)).length ≤ 42 * ls.length
 | [], _ => by simp [marksT, joinL]
 | l :: ls, hs => by
   have h1 := marks_len_le hN ls fun x hx => hs x (List.mem_cons_of_mem _ hx)
   have h2 := hN l (hs l (List.mem_cons_self ..))
   have : joinL (marksT (l :: ls)) = (l.name ++ [58]) ++ 10 :: joinL (marksT ls) := rfl
   rw [this]
   simp only [List.length_append, List.length_cons, List.length_nil]
   omega
theorem filM_snoc (d : Bool) (off : Nat) (ls : List Lb) (l : Lb) : joinL (marksT (filM d off (ls ++ [l]))) = joinL (marksT (filM d off ls)) ++ (if l.data = d ∧ l.off = (off : Int) then l.name ++ [58, 10] else []) := by
 rw [filM_app]
 have e : marksT (filM d off ls ++ filM d off [l]) = marksT (filM d off ls) ++ marksT (filM d off [l]) := by unfold marksT; rw [List.map_append]
 rw [e, joinL_app']
 congr 1
 by_cases hc : l.data = d ∧ l.off = (off : Int)
 · rw [if_pos hc]
   have : filM d off [l] = [l] := by
    unfold filM
    rw [List.filter_cons_of_pos (by simp [hc.1, hc.2])]; rfl
   rw [this]
   simp [marksT, joinL]
 · rw [if_neg hc, filM_nil fun x hx => by rw [List.mem_singleton] at hx; subst hx; exact hc]; rfl
theorem marks_t {a1 : OA} {k1 : Nat} {a2 : OA} {k2 : Nat} {p : Pg} (hL : LbAt h a2 p.labels) (hls : p.labels.length ≤ 100000) (hN : ∀ l ∈ p.labels, l.name.length ≤ 40) (d : Bool) {i : Int} {off : Nat} (hi : i = (off : Int)) :
 Tri Tryz.prog 75 [vA [vL a1 p.code.length k1, vS p.data, vI p.zero, vI p.entry, vL a2 p.labels.length k2], vB d, vI i] h fun v h' => v = vS (marksF p d off) ∧ h' = h := by
 subst hi
 refine T75 ?_
 unfold R75
 refine ⟨fun m l i h' => ∃ j : Nat, i = (j : Int) ∧ j + m = p.labels.length ∧ h' = h ∧ l = joinL (marksT (filM d off (p.labels.take j))), ⟨p.labels.length, 0, rfl, by omega, rfl, rfl⟩, ?_⟩
 rintro m _ _ h1 ⟨j, rfl, hjm, rfl, rfl⟩
 refine br_split (fun e => ?_) fun e => ?_
 · have hlt : j < p.labels.length := by have := of_decide_eq_true e; omega
   have hg : p.labels[j]? = some p.labels[j] := by simp [hlt]
   have htk := List.take_append_getElem hlt
   have hmem := List.getElem_mem hlt
   have hlen := marks_len_le hN (filM d off (p.labels.take j)) fun l hl => List.mem_of_mem_take (filM_mem.1 hl).1
   have hfl : (filM d off (p.labels.take j)).length ≤ j := by
    refine Nat.le_trans (List.length_filter_le _ _) ?_
    rw [List.length_take]; omega
   have hnl := hN _ hmem
   generalize p.labels[j] = l at *
   obtain ⟨b, o, ha, hr⟩ := hL.get hg
   have hs := filM_snoc d off (p.labels.take j) l
   rw [htk] at hs
   have next : ∀ t, t = joinL (marksT (filM d off (p.labels.take (j + 1)))) → ∃ m3, m3 < m ∧ (∃ j' : Nat, IntKind.i64.wrap ((j : Int) + 1) = (j' : Int) ∧ j' + m3 = p.labels.length ∧ h1 = h1 ∧ t = joinL (marksT (filM d off (p.labels.take j')))) ∧
    tv [vL a1 p.code.length k1, vS p.data, vI p.zero, vI p.entry, vL a2 p.labels.length k2] ∧ True := fun t ht =>
    ⟨m - 1, by omega, ⟨j + 1, by rw [wrap64 (by omega) (by omega)]; omega, by omega, rfl, ht⟩, rfl, trivial⟩
   refine ⟨b, o, ha, ⟨by omega, by omega⟩, l.data, by rw [Int.toNat_natCast]; exact hr.2.1, br_split (fun e1 => ?_) fun e1 => ?_⟩
   · have e1 : l.data = d := by simpa using e1
     refine ⟨b, o, ha, ⟨by omega, by omega⟩, l.off, by rw [Int.toNat_natCast]; exact hr.2.2, br_split (fun e2 => ?_) fun e2 => ?_⟩
     · have e2 : l.off = (off : Int) := by simpa using e2
       rw [if_pos ⟨e1, e2⟩] at hs
       refine ⟨b, o, ha, ⟨by omega, by omega⟩, l.name, by rw [Int.toNat_natCast]; exact hr.1, by omega, ?_, next _ ?_⟩
       · simp only [List.length_append, List.length_cons, List.length_nil]; omega
       · rw [hs, List.append_assoc]
     · have e2 : l.off ≠ (off : Int) := by simpa using e2
       rw [if_neg fun hh => e2 hh.2, List.append_nil] at hs
       exact next _ hs.symm
   · have e1 : l.data ≠ d := by simpa using e1
     rw [if_neg fun hh => e1 hh.1, List.append_nil] at hs
     exact next _ hs.symm
 · have hj : j = p.labels.length := by have := of_decide_eq_false e; omega
   subst hj
   rw [List.take_length]
   exact ⟨rfl, rfl⟩
def rprintV (p : Pg) : Value := match refPrintS p with
 | .error e => vT [vS [], vI (e : Int)]
 | .ok s => vT [vS s, vI 0]
theorem marksF_nil {p : Pg} {d : Bool} {off : Nat} : marksF p d off = [] ↔ filM d off p.labels = [] := by
 unfold marksF
 cases filM d off p.labels with
 | nil => simp [marksT, joinL]
 | cons x t => simp [marksT, joinL]
theorem rdata_t {a1 : OA} {k1 : Nat} {a2 : OA} {k2 : Nat} {p : Pg} {W l0 : Bs} {h0 : PHeap} {Q : Value → PHeap → Prop} (hQ : ∀ h', Ext h h' → Q (vT [vS W, vI 0]) h') (x0 : Ext h h0) (hL : LbAt h a2 p.labels) (hls : p.labels.length ≤ 100000) (hN : ∀ l ∈ p.labels, l.name.length ≤ 40)
 (hd : p.data.length ≤ 100000) (hW : W = l0 ++ (dataR p (p.data.length + 1) 0 ++ marksF p true p.data.length)) (hWl : W.length ≤ 1000000) :
 data36 a1 p.code.length k1 p.data p.zero p.entry a2 p.labels.length k2 l0 h0 Q := by
 unfold data36
 refine ⟨fun m l i h' => ∃ at' f : Nat, i = (at' : Int) ∧ at' + m = p.data.length ∧ p.data.length < at' + f ∧ Ext h h' ∧ W = l ++ (dataR p f at' ++ marksF p true p.data.length), ⟨p.data.length, 0, p.data.length + 1, rfl, by omega, by omega, x0, hW⟩, ?_⟩
 rintro m l _ h1 ⟨at', f, rfl, hatm, hf, x1, hW1⟩
 refine br_split (fun e => ?_) fun e => ?_
 · have hlt : at' < p.data.length := by have := of_decide_eq_true e; omega
   obtain ⟨f, rfl⟩ : ∃ g, f = g + 1 := ⟨f - 1, by omega⟩
   rw [dataR, if_neg (by omega)] at hW1
   have part : ∀ (en : Nat) (h2 : PHeap), endR p at' 32 (at' + 1) = en → at' < en → en ≤ p.data.length → en ≤ at' + 32 → Ext h h2 →
    chunk36 a1 p.code.length k1 p.data p.zero p.entry a2 p.labels.length k2 (at' : Int) (en : Int) l m (fun m l i h' => ∃ at' f : Nat, i = (at' : Int) ∧ at' + m = p.data.length ∧ p.data.length < at' + f ∧ Ext h h' ∧ W = l ++ (dataR p f at' ++ marksF p true p.data.length)) h2 := fun en h2 hen h3 h4 h5 x2 => by
    rw [hen] at hW1
    unfold chunk36
    have hl := congrArg List.length hW1
    simp only [List.length_append, List.length_cons] at hl
    refine ⟨⟨by omega, by omega, by omega⟩, ?_⟩
    refine Tri.mono (marks_t (k1 := k1) (a1 := a1) (k2 := k2) (hL.ext x2) hls hN true rfl) ?_
    rintro _ h3' ⟨rfl, rfl⟩
    refine ⟨_, rfl, rfl, by omega, by simp only [List.length_append, List.length_cons, List.length_nil]; omega, ?_⟩
    rw [Int.toNat_natCast, Int.toNat_natCast]
    refine Tri.mono (rquote_t _ (by rw [List.length_take, List.length_drop]; omega)) ?_
    rintro _ h4' ⟨rfl, x4⟩
    have hdt : dText.length = 5 := rfl
    refine ⟨_, rfl, rfl, by simp only [List.length_append, List.length_cons, List.length_nil]; omega, by simp only [List.length_append, List.length_cons, List.length_nil]; omega, m - (en - at'), by omega, ⟨en, f, rfl, by omega, by omega, x2.trans x4, ?_⟩, rfl, trivial⟩
    rw [hW1]
    simp [dText]
   refine ⟨fun m' i h' => ∃ en f' : Nat, i = (en : Int) ∧ en + m' = p.data.length ∧ en + f' = at' + 33 ∧ at' < en ∧ en ≤ p.data.length ∧ en ≤ at' + 32 ∧ Ext h h' ∧ endR p at' 32 (at' + 1) = endR p at' f' en, ⟨p.data.length - (at' + 1), at' + 1, 32, by rw [wrap64 (by omega) (by omega)]; omega, by omega, by omega, by omega, by omega, by omega, x1, rfl⟩, ?_⟩
   rintro m' _ h2 ⟨en, f', rfl, hem, hef, h3, h4, h5, x2, he⟩
   obtain ⟨f', rfl⟩ : ∃ g, f' = g + 1 := ⟨f' - 1, by omega⟩
   rw [show endR p at' (f' + 1) en = if en < p.data.length ∧ en < at' + 32 ∧ filM true en p.labels = [] then endR p at' f' (en + 1) else en from rfl] at he
   refine br_split (fun e1 => ?_) fun e1 => ?_
   · have e1 := of_decide_eq_true e1
     rw [wrap64 (n := (at' : Int) + 32) (by omega) (by omega)]
     refine br_split (fun e2 => ?_) fun e2 => ?_
     · have e2 := of_decide_eq_true e2
       refine Tri.mono (marks_t (k1 := k1) (a1 := a1) (k2 := k2) (hL.ext x2) hls hN true rfl) ?_
       rintro _ h3' ⟨rfl, rfl⟩
       refine ⟨_, rfl, br_split (fun e3 => ?_) fun e3 => ?_⟩
       · have e3 : marksF p true en = [] := by simpa using e3
         rw [if_pos ⟨by omega, by omega, marksF_nil.1 e3⟩] at he
         exact ⟨m' - 1, by omega, ⟨en + 1, f', by rw [wrap64 (by omega) (by omega)]; omega, by omega, by omega, by omega, by omega, by omega, x2, he⟩, rfl, trivial⟩
       · have e3 : marksF p true en ≠ [] := by simpa using e3
         rw [if_neg fun hh => e3 (marksF_nil.2 hh.2.2)] at he
         exact part en h3' he h3 h4 h5 x2
     · have e2 := of_decide_eq_false e2
       rw [if_neg fun hh => by omega] at he
       exact part en h2 he h3 h4 h5 x2
   · have e1 := of_decide_eq_false e1
     rw [if_neg fun hh => by omega] at he
     exact part en h2 he h3 h4 h5 x2
 · have hat : at' = p.data.length := by have := of_decide_eq_false e; omega
   subst hat
   obtain ⟨f, rfl⟩ : ∃ g, f = g + 1 := ⟨f - 1, by omega⟩
   rw [dataR, if_pos (Nat.le_refl _), List.nil_append] at hW1
   have hl := congrArg List.length hW1
   rw [List.length_append] at hl
   refine Tri.mono (marks_t (k1 := k1) (a1 := a1) (k2 := k2) (hL.ext x1) hls hN true rfl) ?_
   rintro _ h3' ⟨rfl, rfl⟩
   refine ⟨_, rfl, by omega, ?_⟩
   rw [← hW1]
   exact hQ _ x1
theorem rcode_t {a1 : OA} {k1 : Nat} {a2 : OA} {k2 : Nat} {p : Pg} {W l0 : Bs} {c1 : Bool} {h0 : PHeap} {Q : Value → PHeap → Prop} (hQ : ∀ h', Ext h h' → Q (vT [vS W, vI 0]) h') (x0 : Ext h h0) (hI : InAt h a1 p.code) (hL : LbAt h a2 p.labels) (hn : p.code.length ≤ 100000) (hls : p.labels.length ≤ 100000) (hN : ∀ l ∈ p.labels, l.name.length ≤ 40)
 (hck : ∀ x ∈ p.code, checkI x = 0) (hd : p.data.length ≤ 100000) (hW : W = l0 ++ (codeR p 0 p.code ++ (if c1 = true then dData ++ 10 :: (dataR p (p.data.length + 1) 0 ++ marksF p true p.data.length) else []))) (hWl : W.length ≤ 1000000) :
 code36 a1 p.code.length k1 p.data p.zero p.entry a2 p.labels.length k2 c1 l0 h0 Q := by
 unfold code36
 generalize hT : (if c1 = true then dData ++ 10 :: (dataR p (p.data.length + 1) 0 ++ marksF p true p.data.length) else []) = T at hW
 refine ⟨fun m l i h' => ∃ j : Nat, i = (j : Int) ∧ j + m = p.code.length ∧ Ext h h' ∧ W = l ++ (codeR p j (p.code.drop j) ++ T), ⟨p.code.length, 0, rfl, by omega, x0, hW⟩, ?_⟩
 rintro m l _ h1 ⟨j, rfl, hjm, x1, hW1⟩
 refine br_split (fun e => ?_) fun e => ?_
 · have hlt : j < p.code.length := by have := of_decide_eq_true e; omega
   have hg : p.code[j]? = some p.code[j] := by simp [hlt]
   have hdr := List.drop_eq_getElem_cons hlt
   have hcx := hck _ (List.getElem_mem hlt)
   rw [hdr, codeR] at hW1
   generalize p.code[j] = x at *
   obtain ⟨b, o, ha, hr⟩ := (hI.ext x1).get hg
   have hl := congrArg List.length hW1
   simp only [List.length_append, List.length_cons] at hl
   refine ⟨b, o, ha, ⟨by omega, by omega⟩, _, _, _, _, (by rw [Int.toNat_natCast]; exact hr), ?_⟩
   refine Tri.mono (marks_t (off := 4 * j) (k1 := k1) (a1 := a1) (k2 := k2) (hL.ext x1) hls hN false (by rw [wrap64 (by omega) (by omega)]; omega)) ?_
   rintro _ h2 ⟨rfl, rfl⟩
   refine ⟨_, rfl, (by rw [Int.toNat_natCast]; exact hr), rfl, by omega, by simp only [List.length_append, List.length_cons, List.length_nil]; omega, ?_⟩
   refine Tri.mono (rline_t (x := x) hcx) ?_
   rintro _ h3 ⟨rfl, x3⟩
   refine ⟨_, rfl, rfl, by simp only [List.length_append, List.length_cons, List.length_nil]; omega, by simp only [List.length_append, List.length_cons, List.length_nil]; omega, m - 1, by omega, ⟨j + 1, by rw [wrap64 (by omega) (by omega)]; omega, by omega, x1.trans x3, ?_⟩, rfl, trivial⟩
   rw [hW1]
   simp
 · have hj : j = p.code.length := by have := of_decide_eq_false e; omega
   subst hj
   rw [List.drop_length, codeR] at hW1
   have hl := congrArg List.length hW1
   simp only [List.length_append] at hl
   refine Tri.mono (marks_t (off := 4 * p.code.length) (k1 := k1) (a1 := a1) (k2 := k2) (hL.ext x1) hls hN false (by rw [wrap64 (by omega) (by omega)]; omega)) ?_
   rintro _ h2 ⟨rfl, rfl⟩
   refine ⟨_, rfl, by omega, br_split (fun e1 => ?_) fun e1 => ?_⟩
   · have e1 : c1 = false := by simpa using e1
     subst e1
     rw [if_neg (by decide)] at hT
     subst hT
     rw [List.append_nil] at hW1
     rw [← hW1]
     exact hQ _ x1
   · have e1 : c1 = true := by simpa using e1
     subst e1
     rw [if_pos rfl] at hT
     subst hT
     have hdd : dData.length = 5 := rfl
     simp only [List.length_append, List.length_cons] at hl
     refine ⟨by simp only [List.length_append, List.length_cons, List.length_nil]; omega, ?_⟩
     exact rdata_t hQ x1 hL hls hN hd (by rw [hW1]; simp [dData]) hWl
theorem rprint_t {a1 : OA} {k1 : Nat} {a2 : OA} {k2 : Nat} {p : Pg} (hI : InAt h a1 p.code) (hL : LbAt h a2 p.labels) (hn : p.code.length ≤ 100000) (hd : p.data.length ≤ 100000) (hls : p.labels.length ≤ 100000) :
 Tri Tryz.prog 36 [vA [vL a1 p.code.length k1, vS p.data, vI p.zero, vI p.entry, vL a2 p.labels.length k2]] h fun v h' => v = printV p ∧ Ext h h' := by
 refine T36 ?_
 unfold R36
 refine Tri.mono (rcheckP_t (k1 := k1) (k2 := k2) hI hL (by omega) (by omega) (by omega)) ?_
 rintro _ h1 ⟨rfl, rfl⟩
 refine ⟨_, rfl, br_split (fun e => ?_) fun e => ?_⟩
 · have e : checkP p ≠ 0 := by simpa using e
   refine ⟨?_, Ext.refl _⟩
   unfold printV printS; rw [if_pos e]
 have e : checkP p = 0 := by simpa using e
 have hok := check_ok e
 have hcl := hok.codeLen
 have hcn := hok.count
 have hen := hok.entry
 have hze := hok.zero
 have hN : ∀ l ∈ p.labels, l.name.length ≤ 40 := fun l hl => by
  have := (hok.each l hl).name
  unfold isLabel at this
  split at this
  · cases this
  · simp only [Bool.and_eq_true, decide_eq_true_eq] at this
    have := this.1.1.1
    omega
 refine ⟨fun m c i h' => ∃ j : Nat, i = (j : Int) ∧ j + m = p.labels.length ∧ h' = h1 ∧ c = (!(p.data == []) || (p.labels.take j).any fun l => l.data) ∧ ∀ l ∈ p.labels.take j, ¬ (l.data = true ∧ (p.data.length : Int) < l.off), ⟨p.labels.length, 0, rfl, by omega, rfl, by simp, fun l hl => by simp at hl⟩, ?_⟩
 rintro m c _ h2 ⟨j, rfl, hjm, rfl, hc, hbh⟩
 refine br_split (fun e1 => ?_) fun e1 => ?_
 · have hlt : j < p.labels.length := by have := of_decide_eq_true e1; omega
   have hg : p.labels[j]? = some p.labels[j] := by simp [hlt]
   have htk := List.take_append_getElem hlt
   have hmem := List.getElem_mem hlt
   generalize p.labels[j] = l at *
   obtain ⟨b, o, ha, hr⟩ := hL.get hg
   have bad : l.data = true → l.off > (p.data.length : Int) → vT [vS [], vI 33] = printV p := fun g1 g2 => by
    unfold printV printS
    rw [if_neg (by simp [e]), if_pos]
    · rfl
    · unfold isBehind
      rw [List.any_eq_true]
      exact ⟨l, hmem, by simp [g1]; omega⟩
   have next : ∀ c', c' = (c || l.data) → ¬ (l.data = true ∧ l.off > (p.data.length : Int)) → ∃ m3, m3 < m ∧ (∃ j' : Nat, IntKind.i64.wrap ((j : Int) + 1) = (j' : Int) ∧ j' + m3 = p.labels.length ∧ h2 = h2 ∧ c' = (!(p.data == []) || (p.labels.take j').any fun l => l.data) ∧ ∀ l ∈ p.labels.take j', ¬ (l.data = true ∧ (p.data.length : Int) < l.off)) ∧
    tv [vL a1 p.code.length k1, vS p.data, vI p.zero, vI p.entry, vL a2 p.labels.length k2] ∧ True := fun c' hc' hb' =>
    ⟨m - 1, by omega, ⟨j + 1, by rw [wrap64 (by omega) (by omega)]; omega, by omega, rfl, by
     rw [← htk, List.any_append, hc', hc, Bool.or_assoc]
     simp, fun x hx => by
     rw [← htk] at hx
     rcases List.mem_append.1 hx with hx | hx
     · exact hbh x hx
     · rw [List.mem_singleton] at hx; subst hx; exact hb'⟩, rfl, trivial⟩
   refine br_split (fun e2 => ?_) fun e2 => ?_
   · subst e2
     refine ⟨b, o, ha, ⟨by omega, by omega⟩, l.data, by rw [Int.toNat_natCast]; exact hr.2.1, br_split (fun e3 => ?_) fun e3 => ?_⟩
     · refine ⟨b, o, ha, ⟨by omega, by omega⟩, l.off, by rw [Int.toNat_natCast]; exact hr.2.2, br_split (fun e4 => ?_) fun e4 => ?_⟩
       · exact ⟨bad e3 (of_decide_eq_true e4), Ext.refl _⟩
       · exact next true rfl fun hh => by have := of_decide_eq_false e4; omega
     · exact next true rfl fun hh => by rw [e3] at hh; cases hh.1
   · subst e2
     refine ⟨b, o, ha, ⟨by omega, by omega⟩, l.data, by rw [Int.toNat_natCast]; exact hr.2.1, b, o, ha, ⟨by omega, by omega⟩, l.data, by rw [Int.toNat_natCast]; exact hr.2.1, br_split (fun e3 => ?_) fun e3 => ?_⟩
     · refine ⟨b, o, ha, ⟨by omega, by omega⟩, l.off, by rw [Int.toNat_natCast]; exact hr.2.2, br_split (fun e4 => ?_) fun e4 => ?_⟩
       · exact ⟨bad e3 (of_decide_eq_true e4), Ext.refl _⟩
       · exact next l.data (by simp) fun hh => by have := of_decide_eq_false e4; omega
     · exact next l.data (by simp) fun hh => by rw [e3] at hh; cases hh.1
 have hj : j = p.labels.length := by have := of_decide_eq_false e1; omega
 subst hj
 rw [List.take_length] at hc hbh
 have hib : isBehind p = false := by
  unfold isBehind
  rw [List.any_eq_false]
  intro l hl
  have := hbh l hl
  simpa using this
 obtain ⟨W, hrp⟩ : ∃ W, refPrintS p = .ok W := by
  unfold refPrintS; rw [if_neg (by simp [e]), if_neg (by rw [hib]; decide)]; exact ⟨_, rfl⟩
 have hps : printS p = .ok W := by rw [← refPrint_same]; exact hrp
 have hpv : printV p = vT [vS W, vI 0] := by unfold printV; rw [hps]
 have hWl : W.length ≤ 1000000 := by
  have h3 : W = joinL (printP p) := by
   unfold printS at hps
   rw [if_neg (by simp [e]), if_neg (by rw [hib]; decide)] at hps
   injection hps with hps; exact hps.symm
  have h4 := print_len hok
  have h5 : sumN p.labels ≤ 42 * p.labels.length := by rw [← marks_len]; exact marks_len_le hN _ fun l hl => hl
  rw [h3]; omega
 have hcc : (p.data ≠ [] ∨ (p.labels.any fun l => l.data) = true) ↔ c = true := by
  rw [hc]; simp
 unfold refPrintS at hrp
 rw [if_neg (by simp [e]), if_neg (by rw [hib]; decide)] at hrp
 injection hrp with hrp
 rw [hpv]
 have le : (decI p.entry).length ≤ 11 := decI_len (by omega) (by omega)
 have lz : (decI p.zero).length ≤ 11 := decI_len (by omega) (by omega)
 have hif : ∀ (X : Bs), (if p.data ≠ [] ∨ (p.labels.any fun l => l.data) = true then X else []) = (if c = true then X else []) := fun X => by
  by_cases hq : c = true
  · rw [if_pos hq, if_pos (hcc.2 hq)]
  · rw [if_neg hq, if_neg fun hh => hq (hcc.1 hh)]
 rw [hif] at hrp
 refine Tri.mono (decI_t p.entry (by omega) (by omega)) ?_
 rintro _ h3 ⟨rfl, rfl⟩
 refine ⟨_, rfl, by simp only [List.length_cons, List.length_nil]; omega, by simp only [List.length_append, List.length_cons, List.length_nil]; omega, br_split (fun e2 => ?_) fun e2 => ?_⟩
 · have e2 : 0 < p.zero := of_decide_eq_true e2
   rw [if_pos e2] at hrp
   refine ⟨by simp only [List.length_append, List.length_cons, List.length_nil]; omega, ?_⟩
   refine Tri.mono (decI_t p.zero (by omega) (by omega)) ?_
   rintro _ h4 ⟨rfl, rfl⟩
   refine ⟨_, rfl, by simp only [List.length_append, List.length_cons, List.length_nil]; omega, by simp only [List.length_append, List.length_cons, List.length_nil]; omega, ?_⟩
   exact rcode_t (h := h4) (Q := fun v h' => v = vT [vS W, vI 0] ∧ Ext h4 h') (fun h' x => ⟨rfl, x⟩) (Ext.refl _) hI hL hn hls hN hok.ins hd (by rw [← hrp]; simp [dEntry, dZero]) hWl
 · have e2 : ¬ 0 < p.zero := of_decide_eq_false e2
   rw [if_neg e2] at hrp
   exact rcode_t (h := h3) (Q := fun v h' => v = vT [vS W, vI 0] ∧ Ext h3 h') (fun h' x => ⟨rfl, x⟩) (Ext.refl _) hI hL hn hls hN hok.ins hd (by rw [← hrp]; simp [dEntry]) hWl
end
end Go.Proofs.D
namespace Go.Proofs.D
open Go Go.Den
set_option maxRecDepth 100000
set_option maxHeartbeats 4000000
abbrev ejk1 : List CK := [.slice, .str, qi, qi, .slice]
noncomputable def d21 : DCode := up ⟨[(8, .l ejk1), (9, .c (.one false [qi])), (12, .l [.slice]), (17, .l [.str, .bool, qi]), (19, .l [.str]), (22, .l ejk1), (23, .l [.str, .bool, qi]), (24, .c (.one false [qi]))], [], [(15, 15, [(14, qi)], [])]⟩ (low Tryz.prog (fun _ => false) (Tryz.f21.body.getD .skip))
theorem low21 : low Tryz.prog (fun _ => false) (Tryz.f21.body.getD .skip) = some (eC d21) := by kernel_rfl
def R21 (a1 : OA) (n1 : Nat) (ejk1 : Nat) (l1 : Bs) (i1 : Int) (i2 : Int) (a2 : OA) (n2 : Nat) (k2 : Nat) (l2 : Bs) (h : PHeap) (Q : Value → PHeap → Prop) : Prop :=
 Tri Tryz.prog 24 [vA [vL a1 n1 ejk1, vS l1, vI i1, vI i2, vL a2 n2 k2]] h fun v_1 h_1 =>
 ∃ (i3 : Int), v_1 = vI i3 ∧
 br (i3 != 0)
 (Q (vT [vI 0, vB false]) h_1)
 (∃ (I_1 : Nat → Int → PHeap → Prop), (∃ (m2 : Nat), I_1 m2 (0 : Int) h_1) ∧
 ∀ (m1 : Nat) (i4 : Int) (h_2 : PHeap), I_1 m1 i4 h_2 →
 br (decide (i4 < ((n2 : Nat) : Int)))
 (∃ (b1 o1 : Nat), a2 = some ⟨b1, o1, none⟩ ∧ (0 ≤ i4 ∧ i4 < n2) ∧
 ∃ (l3 : Bs) (c1 : Bool) (i5 : Int), h_2.row b1 (o1 + (i4).toNat * 3) [vS l3, vB c1, vI i5] ∧
 br (l3 == l2)
 (Tri Tryz.prog 44 [vA [vL a1 n1 ejk1, vS l1, vI i1, vI i2, vL a2 n2 k2], vA [vS l3, vB c1, vI i5]] h_2 fun v_2 h_3 =>
 ∃ (i6 : Int), v_2 = vI i6 ∧
 Q (vT [vI i6, vB true]) h_3)
 (∃ (m3 : Nat), m3 < m1 ∧ I_1 m3 (IntKind.i64.wrap (i4 + 1)) h_2 ∧
 tv [vL a1 n1 ejk1, vS l1, vI i1, vI i2, vL a2 n2 k2] ∧ True))
 (Q (vT [vI 0, vB false]) h_2))
theorem T21 {a1 : OA} {n1 : Nat} {ejk1 : Nat} {l1 : Bs} {i1 : Int} {i2 : Int} {a2 : OA} {n2 : Nat} {k2 : Nat} {l2 : Bs} {h : PHeap} {Q : Value → PHeap → Prop} (hR : R21 a1 n1 ejk1 l1 i1 i2 a2 n2 k2 l2 h Q) : Tri Tryz.prog 21 [vA [vL a1 n1 ejk1, vS l1, vI i1, vI i2, vL a2 n2 k2], vS l2] h Q :=
 tri_of_dn mixed Tryz.func21 rfl (by kernel_rfl) low21 (rs := [.tmp 4, .tmp 5]) (by kernel_rfl) rfl (Eq.mpr (by kernel_rfl : dnF Tryz.prog Tryz.f21.ntmps d21 [.tmp 4, .tmp 5] [vA [vL a1 n1 ejk1, vS l1, vI i1, vI i2, vL a2 n2 k2], vS l2] h Q = R21 a1 n1 ejk1 l1 i1 i2 a2 n2 k2 l2 h Q) hR)
abbrev o6_0 : Op := .call { callee := (.builtin .min), args := #[(.tmp 12), (.const (vI 60))], argTypes := #[3, 3] }
noncomputable def d6 : DCode := up ⟨[(13, .c (.one false [qi])), (15, .c (.one false [.bool])), (19, .c (.one false [.bool])), (21, .c (.one false [.bool])), (68, .c (.one false [.bool])), (73, .c (.tup [(true, ejk1), (false, [qi]), (false, [qi])])), (82, .c (.one false [.bool])), (87, .l ejk1), (89, .c (.tup [(false, [qi]), (false, [.bool])]))], [], [(24, 49, [(3, qi)], [])]⟩ (low Tryz.prog (fun _ => false) (Tryz.f6.body.getD .skip))
theorem low6 : low Tryz.prog (fun _ => false) (Tryz.f6.body.getD .skip) = some (eC d6) := by kernel_rfl
def R6 (l1 : Bs) (h : PHeap) (Q : Value → PHeap → Prop) : Prop :=
 ∃ (i1 : Int), PureRun Tryz.prog (execOp (rho [(12, vI (l1.length : Int))]) (mkO o6_0 3)) (vI i1) ∧
 (0 ≤ (0 : Int) ∧ (0 : Int) ≤ i1 ∧ i1 ≤ (l1.length : Int)) ∧
 Tri Tryz.prog 15 [] h fun v_1 h_1 =>
 ∃ (c1 : Bool), v_1 = vB c1 ∧
 br (!c1)
 (Q (vB false) h_1)
 (Tri Tryz.prog 27 [vS ((l1.drop 0).take ((i1).toNat - 0))] h_1 fun v_2 h_2 =>
 ∃ (c2 : Bool), v_2 = vB c2 ∧
 Tri Tryz.prog 28 [vS ((l1.drop 0).take ((i1).toNat - 0))] h_2 fun v_3 h_3 =>
 ∃ (c3 : Bool), v_3 = vB c3 ∧
 br (!(c2 == c3))
 (Q (vB false) h_3)
 (∃ (I_1 : Nat → Int → PHeap → Prop), (∃ (m2 : Nat), I_1 m2 (0 : Int) h_3) ∧
 ∀ (m1 : Nat) (i2 : Int) (h_4 : PHeap), I_1 m1 i2 h_4 →
 br (decide (i2 < ((((l1.drop 0).take ((i1).toNat - 0))).length : Int)))
 (0 ≤ i2 ∧ ∃ (c4 : UInt8), (((l1.drop 0).take ((i1).toNat - 0)))[(i2).toNat]? = some c4 ∧
 br (decide ((c4.toNat : Int) < 97))
 (br (decide ((c4.toNat : Int) < 65))
 (br (decide ((c4.toNat : Int) < 48))
 (br ((c4.toNat : Int) != 95)
 (br ((c4.toNat : Int) != 46)
 (br ((c4.toNat : Int) != 45)
 (Tri Tryz.prog 27 [vS ((l1.drop 0).take ((i1).toNat - 0))] h_4 fun v_4 h_5 =>
 ∃ (c5 : Bool), v_4 = vB c5 ∧
 Q (vB (!c5)) h_5)
 (∃ (m3 : Nat), m3 < m1 ∧ I_1 m3 (IntKind.i64.wrap (i2 + 1)) h_4 ∧
 True))
 (∃ (m4 : Nat), m4 < m1 ∧ I_1 m4 (IntKind.i64.wrap (i2 + 1)) h_4 ∧
 True))
 (∃ (m5 : Nat), m5 < m1 ∧ I_1 m5 (IntKind.i64.wrap (i2 + 1)) h_4 ∧
 True))
 (br (decide ((c4.toNat : Int) > 57))
 (br ((c4.toNat : Int) != 95)
 (br ((c4.toNat : Int) != 46)
 (br ((c4.toNat : Int) != 45)
 (Tri Tryz.prog 27 [vS ((l1.drop 0).take ((i1).toNat - 0))] h_4 fun v_5 h_6 =>
 ∃ (c6 : Bool), v_5 = vB c6 ∧
 Q (vB (!c6)) h_6)
 (∃ (m6 : Nat), m6 < m1 ∧ I_1 m6 (IntKind.i64.wrap (i2 + 1)) h_4 ∧
 True))
 (∃ (m7 : Nat), m7 < m1 ∧ I_1 m7 (IntKind.i64.wrap (i2 + 1)) h_4 ∧
 True))
 (∃ (m8 : Nat), m8 < m1 ∧ I_1 m8 (IntKind.i64.wrap (i2 + 1)) h_4 ∧
 True))
 (∃ (m9 : Nat), m9 < m1 ∧ I_1 m9 (IntKind.i64.wrap (i2 + 1)) h_4 ∧
 True)))
 (br (decide ((c4.toNat : Int) > 90))
 (br (decide ((c4.toNat : Int) < 48))
 (br ((c4.toNat : Int) != 95)
 (br ((c4.toNat : Int) != 46)
 (br ((c4.toNat : Int) != 45)
 (Tri Tryz.prog 27 [vS ((l1.drop 0).take ((i1).toNat - 0))] h_4 fun v_6 h_7 =>
 ∃ (c7 : Bool), v_6 = vB c7 ∧
 Q (vB (!c7)) h_7)
 (∃ (m10 : Nat), m10 < m1 ∧ I_1 m10 (IntKind.i64.wrap (i2 + 1)) h_4 ∧
 True))
 (∃ (m11 : Nat), m11 < m1 ∧ I_1 m11 (IntKind.i64.wrap (i2 + 1)) h_4 ∧
 True))
 (∃ (m12 : Nat), m12 < m1 ∧ I_1 m12 (IntKind.i64.wrap (i2 + 1)) h_4 ∧
 True))
 (br (decide ((c4.toNat : Int) > 57))
 (br ((c4.toNat : Int) != 95)
 (br ((c4.toNat : Int) != 46)
 (br ((c4.toNat : Int) != 45)
 (Tri Tryz.prog 27 [vS ((l1.drop 0).take ((i1).toNat - 0))] h_4 fun v_7 h_8 =>
 ∃ (c8 : Bool), v_7 = vB c8 ∧
 Q (vB (!c8)) h_8)
 (∃ (m13 : Nat), m13 < m1 ∧ I_1 m13 (IntKind.i64.wrap (i2 + 1)) h_4 ∧
 True))
 (∃ (m14 : Nat), m14 < m1 ∧ I_1 m14 (IntKind.i64.wrap (i2 + 1)) h_4 ∧
 True))
 (∃ (m15 : Nat), m15 < m1 ∧ I_1 m15 (IntKind.i64.wrap (i2 + 1)) h_4 ∧
 True))
 (∃ (m16 : Nat), m16 < m1 ∧ I_1 m16 (IntKind.i64.wrap (i2 + 1)) h_4 ∧
 True)))
 (∃ (m17 : Nat), m17 < m1 ∧ I_1 m17 (IntKind.i64.wrap (i2 + 1)) h_4 ∧
 True)))
 (br (decide ((c4.toNat : Int) > 122))
 (br (decide ((c4.toNat : Int) < 65))
 (br (decide ((c4.toNat : Int) < 48))
 (br ((c4.toNat : Int) != 95)
 (br ((c4.toNat : Int) != 46)
 (br ((c4.toNat : Int) != 45)
 (Tri Tryz.prog 27 [vS ((l1.drop 0).take ((i1).toNat - 0))] h_4 fun v_8 h_9 =>
 ∃ (c9 : Bool), v_8 = vB c9 ∧
 Q (vB (!c9)) h_9)
 (∃ (m18 : Nat), m18 < m1 ∧ I_1 m18 (IntKind.i64.wrap (i2 + 1)) h_4 ∧
 True))
 (∃ (m19 : Nat), m19 < m1 ∧ I_1 m19 (IntKind.i64.wrap (i2 + 1)) h_4 ∧
 True))
 (∃ (m20 : Nat), m20 < m1 ∧ I_1 m20 (IntKind.i64.wrap (i2 + 1)) h_4 ∧
 True))
 (br (decide ((c4.toNat : Int) > 57))
 (br ((c4.toNat : Int) != 95)
 (br ((c4.toNat : Int) != 46)
 (br ((c4.toNat : Int) != 45)
 (Tri Tryz.prog 27 [vS ((l1.drop 0).take ((i1).toNat - 0))] h_4 fun v_9 h_10 =>
 ∃ (c10 : Bool), v_9 = vB c10 ∧
 Q (vB (!c10)) h_10)
 (∃ (m21 : Nat), m21 < m1 ∧ I_1 m21 (IntKind.i64.wrap (i2 + 1)) h_4 ∧
 True))
 (∃ (m22 : Nat), m22 < m1 ∧ I_1 m22 (IntKind.i64.wrap (i2 + 1)) h_4 ∧
 True))
 (∃ (m23 : Nat), m23 < m1 ∧ I_1 m23 (IntKind.i64.wrap (i2 + 1)) h_4 ∧
 True))
 (∃ (m24 : Nat), m24 < m1 ∧ I_1 m24 (IntKind.i64.wrap (i2 + 1)) h_4 ∧
 True)))
 (br (decide ((c4.toNat : Int) > 90))
 (br (decide ((c4.toNat : Int) < 48))
 (br ((c4.toNat : Int) != 95)
 (br ((c4.toNat : Int) != 46)
 (br ((c4.toNat : Int) != 45)
 (Tri Tryz.prog 27 [vS ((l1.drop 0).take ((i1).toNat - 0))] h_4 fun v_10 h_11 =>
 ∃ (c11 : Bool), v_10 = vB c11 ∧
 Q (vB (!c11)) h_11)
 (∃ (m25 : Nat), m25 < m1 ∧ I_1 m25 (IntKind.i64.wrap (i2 + 1)) h_4 ∧
 True))
 (∃ (m26 : Nat), m26 < m1 ∧ I_1 m26 (IntKind.i64.wrap (i2 + 1)) h_4 ∧
 True))
 (∃ (m27 : Nat), m27 < m1 ∧ I_1 m27 (IntKind.i64.wrap (i2 + 1)) h_4 ∧
 True))
 (br (decide ((c4.toNat : Int) > 57))
 (br ((c4.toNat : Int) != 95)
 (br ((c4.toNat : Int) != 46)
 (br ((c4.toNat : Int) != 45)
 (Tri Tryz.prog 27 [vS ((l1.drop 0).take ((i1).toNat - 0))] h_4 fun v_11 h_12 =>
 ∃ (c12 : Bool), v_11 = vB c12 ∧
 Q (vB (!c12)) h_12)
 (∃ (m28 : Nat), m28 < m1 ∧ I_1 m28 (IntKind.i64.wrap (i2 + 1)) h_4 ∧
 True))
 (∃ (m29 : Nat), m29 < m1 ∧ I_1 m29 (IntKind.i64.wrap (i2 + 1)) h_4 ∧
 True))
 (∃ (m30 : Nat), m30 < m1 ∧ I_1 m30 (IntKind.i64.wrap (i2 + 1)) h_4 ∧
 True))
 (∃ (m31 : Nat), m31 < m1 ∧ I_1 m31 (IntKind.i64.wrap (i2 + 1)) h_4 ∧
 True)))
 (∃ (m32 : Nat), m32 < m1 ∧ I_1 m32 (IntKind.i64.wrap (i2 + 1)) h_4 ∧
 True)))
 (∃ (m33 : Nat), m33 < m1 ∧ I_1 m33 (IntKind.i64.wrap (i2 + 1)) h_4 ∧
 True)))
 (((l1.drop 0).take ((i1).toNat - 0)).length + ([58, 104, 97, 108, 116] : Bs).length ≤ 9223372036854775807 ∧
 Tri Tryz.prog 13 [vS (((l1.drop 0).take ((i1).toNat - 0)) ++ ([58, 104, 97, 108, 116] : Bs))] h_4 fun v_12 h_13 =>
 ∃ (a1 : OA) (n1 ejk1 : Nat) (l2 : Bs) (i3 i4 : Int) (a2 : OA) (n2 k2 : Nat) (i5 i6 : Int), v_12 = vT [vA [vL a1 n1 ejk1, vS l2, vI i3, vI i4, vL a2 n2 k2], vI i5, vI i6] ∧
 br (((l1.drop 0).take ((i1).toNat - 0)) == [])
 (Q (vB (i6 == 30)) h_13)
 (Tri Tryz.prog 27 [vS ((l1.drop 0).take ((i1).toNat - 0))] h_13 fun v_13 h_14 =>
 ∃ (c13 : Bool), v_13 = vB c13 ∧
 br (!c13)
 (Q (vB (i6 == 12)) h_14)
 (Tri Tryz.prog 21 [vA [vL a1 n1 ejk1, vS l2, vI i3, vI i4, vL a2 n2 k2], vS ((l1.drop 0).take ((i1).toNat - 0))] h_14 fun v_14 h_15 =>
 ∃ (i7 : Int) (c14 : Bool), v_14 = vT [vI i7, vB c14] ∧
 br (i6 == 0)
 (br c14
 (Q (vB (i7 == 0)) h_15)
 (Q (vB false) h_15))
 (Q (vB false) h_15))))))
theorem T6 {l1 : Bs} {h : PHeap} {Q : Value → PHeap → Prop} (hR : R6 l1 h Q) : Tri Tryz.prog 6 [vS l1] h Q :=
 tri_of_dn mixed Tryz.func6 rfl (by kernel_rfl) low6 (rs := [.tmp 2]) (by kernel_rfl) rfl (Eq.mpr (by kernel_rfl : dnF Tryz.prog Tryz.f6.ntmps d6 [.tmp 2] [vS l1] h Q = R6 l1 h Q) hR)
end Go.Proofs.D
namespace Go.As
theorem word_tab : ∀ n : Fin 256, wordB (UInt8.ofNat n.val) = decide ((97 ≤ n.val ∧ n.val ≤ 122) ∨ (65 ≤ n.val ∧ n.val ≤ 90) ∨ (48 ≤ n.val ∧ n.val ≤ 57) ∨ n.val = 95 ∨ n.val = 46 ∨ n.val = 45) := by decide +kernel
theorem word_iff (c : UInt8) : wordB c = decide ((97 ≤ c.toNat ∧ c.toNat ≤ 122) ∨ (65 ≤ c.toNat ∧ c.toNat ≤ 90) ∨ (48 ≤ c.toNat ∧ c.toNat ≤ 57) ∨ c.toNat = 95 ∨ c.toNat = 46 ∨ c.toNat = 45) := by
 have := word_tab ⟨c.toNat, c.toNat_lt⟩
 simpa using this
def hlt : Bytes := [58, 104, 97, 108, 116]
theorem word10 {c : UInt8} (h : wordB c = true) : c ≠ 10 := by rintro rfl; exact absurd h (by decide)
theorem split_none : ∀ (s : Bytes), (∀ c ∈ s, c ≠ 10) → splitAt10 s = [s]
 | [], _ => rfl
 | c :: r, h => by
   rw [splitAt10, if_neg (h c (List.mem_cons_self ..)), split_none r fun x hx => h x (List.mem_cons_of_mem _ hx)]
theorem hlt_stop : Stop hlt := stop_cons (by decide) _
theorem name_split {s : Bytes} (hs : s.all wordB = true) : splitAt10 (s ++ hlt) = [s ++ hlt] := by
 refine split_none _ fun c hc => ?_
 rcases List.mem_append.1 hc with h | h
 · exact word10 (List.all_eq_true.1 hs c h)
 · revert c
   intro c _ h
   have : ∀ c ∈ hlt, c ≠ 10 := by decide
   exact this c h
theorem name_tok {s : Bytes} (hs : s.all wordB = true) (hn : s ≠ []) : tokensL (s ++ hlt) = some [⟨1, s⟩, ⟨4, [58]⟩, ⟨1, [104, 97, 108, 116]⟩] := by
 rw [tokL_word hs hn hlt_stop]
 rw [show tokensL hlt = some [⟨4, [58]⟩, ⟨1, [104, 97, 108, 116]⟩] by kernel_rfl]; rfl
theorem name_line {s : Bytes} (hs : s.all wordB = true) (hn : s ≠ []) : lineS st0 (s ++ hlt) = (defineS st0 [s] >>= fun a => stmtS a [104, 97, 108, 116] []) := by
 unfold lineS
 rw [name_tok hs hn]
 rfl
def nameP (s : Bytes) : Pg := ⟨[⟨0, 0, 0, 0⟩], [], 0, 0, [⟨s, false, 0⟩]⟩
theorem name_bad {s : Bytes} (hs : s.all wordB = true) (hn : s ≠ []) (hb : s.length ≤ 60) (hl : isLabel s = false) : assembleS (s ++ hlt) = .error (1, 12) := by
 unfold assembleS
 rw [if_neg (by rw [List.length_append]; show ¬ 65536 < s.length + 5; omega), name_split hs]
 rw [linesS, name_line hs hn, defineS, if_pos hl]; rfl
theorem name_check {s : Bytes} (hl : isLabel s = true) : checkP (nameP s) = 0 := by
 have h1 : labelsErr (nameP s) none [⟨s, false, 0⟩] = 0 := by
  rw [labelsErr, if_neg (by rw [hl]; decide), if_neg (by simp [nameP]), if_neg (by simp)]; rfl
 unfold checkP
 rw [show ((nameP s).code.map checkI).find? (· ≠ 0) = none from by kernel_rfl]
 simp only
 rw [if_neg (by simp [nameP, dataAt]), if_neg (by simp [nameP])]
 rw [show (nameP s).labels = [⟨s, false, 0⟩] from rfl, h1]
 simp [twice]
theorem name_good {s : Bytes} (hs : s.all wordB = true) (hn : s ≠ []) (hb : s.length ≤ 60) (hl : isLabel s = true) : assembleS (s ++ hlt) = .ok (nameP s) := by
 unfold assembleS
 rw [if_neg (by rw [List.length_append]; show ¬ 65536 < s.length + 5; omega), name_split hs]
 rw [linesS, name_line hs hn, defineS, if_neg (by rw [hl]; decide), if_neg (by simp [st0]), if_neg (by simp [st0])]
 have h2 : (defineS { st0 with p := { st0.p with labels := st0.p.labels ++ [⟨s, st0.inData, if st0.inData then (st0.p.data.length : Int) else (4 * st0.p.code.length : Nat)⟩] } } [] >>= fun a => stmtS a [104, 97, 108, 116] []) = .ok { st0 with p := nameP s } := by kernel_rfl
 rw [h2]
 have h3 : linesS { ({ st0 with p := nameP s } : St) with line := st0.line + 1 } [] = .ok { ({ st0 with p := nameP s } : St) with line := 2 } := rfl
 simp only [h3]
 have h4 : resolveS (nameP s) st0.uses = .ok (nameP s) := rfl
 simp only [h4]
 have h5 : sortL (nameP s).labels = (nameP s).labels := rfl
 rw [h5]
 have h6 : ({ nameP s with labels := (nameP s).labels } : Pg) = nameP s := rfl
 rw [h6, name_check hl]; rfl
end Go.As
namespace Go.Proofs.D
open Go Go.Den Go.As
set_option maxRecDepth 100000
attribute [local irreducible] IntKind.wrap Tri
section
variable {h : PHeap}
def adrV (p : Pg) (n : Bytes) : Value := if checkP p ≠ 0 then vT [vI 0, vB false] else match address p n with
 | none => vT [vI 0, vB false]
 | some i => vT [vI i, vB true]
theorem address21_t (hO : OpTab h) {a1 : OA} {k1 : Nat} {a2 : OA} {k2 : Nat} {p : Pg} {n : Bytes} (hI : InAt h a1 p.code) (hL : LbAt h a2 p.labels) (hn : p.code.length ≤ 1000000) (hd : p.data.length ≤ 1000000) (hls : p.labels.length ≤ 1000000) (ho : ∀ l ∈ p.labels, -9223372036854775808 ≤ l.off ∧ l.off ≤ 9223372036854775807) (he : -9223372036854775808 ≤ p.entry ∧ p.entry ≤ 9223372036854775807) :
 Tri Tryz.prog 21 [vA [vL a1 p.code.length k1, vS p.data, vI p.zero, vI p.entry, vL a2 p.labels.length k2], vS n] h fun v h' => v = adrV p n ∧ Ext h h' := by
 refine T21 ?_
 unfold R21
 refine Tri.mono (check_t hO hI hL hn hd hls ho he) ?_
 rintro _ h1 ⟨rfl, x1⟩
 refine ⟨_, rfl, br_split (fun e => ?_) fun e => ?_⟩
 · have e : checkP p ≠ 0 := by simpa using e
   unfold adrV; rw [if_pos e]
   exact ⟨rfl, x1⟩
 have e : checkP p = 0 := by simpa using e
 have hok := check_ok e
 have hadr : adrV p n = match address p n with
  | none => vT [vI 0, vB false]
  | some i => vT [vI i, vB true] := by unfold adrV; rw [if_neg (by simp [e])]
 refine ⟨fun m i h' => ∃ j : Nat, i = (j : Int) ∧ j + m = p.labels.length ∧ h' = h1 ∧ (p.labels.find? fun l => l.name == n) = ((p.labels.drop j).find? fun l => l.name == n), ⟨p.labels.length, 0, rfl, by omega, rfl, rfl⟩, ?_⟩
 rintro m _ h2 ⟨j, rfl, hjm, rfl, hf⟩
 refine br_split (fun e1 => ?_) fun e1 => ?_
 · have hlt : j < p.labels.length := by have := of_decide_eq_true e1; omega
   have hg : p.labels[j]? = some p.labels[j] := by simp [hlt]
   have hdr := List.drop_eq_getElem_cons hlt
   have hmem := List.getElem_mem hlt
   rw [hdr, List.find?_cons] at hf
   generalize p.labels[j] = l at *
   obtain ⟨b, o, ha, hr⟩ := (hL.ext x1).get hg
   refine ⟨b, o, ha, ⟨by omega, by omega⟩, _, _, _, (by rw [Int.toNat_natCast]; exact hr), br_split (fun e2 => ?_) fun e2 => ?_⟩
   · rw [e2] at hf
     have hlo := hok.each l hmem
     have hb : -1000000000 ≤ l.off ∧ l.off ≤ 1000000000 := by
      have h1 := hlo.lo
      have h2 := hok.zero
      have h3 := hok.codeLen
      cases hd : l.data with
      | true => have := hlo.dat hd; omega
      | false => have := hlo.code hd; omega
     refine Tri.mono (address_t (p := p) hn hb) ?_
     rintro _ h2 ⟨rfl, rfl⟩
     refine ⟨_, rfl, ?_, x1⟩
     rw [hadr]
     unfold address
     rw [hf]; rfl
   · rw [e2] at hf
     refine ⟨m - 1, by omega, ⟨j + 1, ?_, by omega, rfl, hf⟩, rfl, trivial⟩
     rw [wrap64 (by omega) (by omega)]; omega
 · have hj : j = p.labels.length := by have := of_decide_eq_false e1; omega
   subst hj
   rw [List.drop_length] at hf
   refine ⟨?_, x1⟩
   rw [hadr]
   unfold address
   rw [hf]; rfl
def N6 (c : UInt8) (A B : Prop) : Prop := br ((c.toNat : Int) != 95) (br ((c.toNat : Int) != 46) (br ((c.toNat : Int) != 45) A B) B) B
def D6 (c : UInt8) (A B : Prop) : Prop := br (decide ((c.toNat : Int) < 48)) (N6 c A B) (br (decide ((c.toNat : Int) > 57)) (N6 c A B) B)
def U6 (c : UInt8) (A B : Prop) : Prop := br (decide ((c.toNat : Int) < 65)) (D6 c A B) (br (decide ((c.toNat : Int) > 90)) (D6 c A B) B)
def T6r (c : UInt8) (A B : Prop) : Prop := br (decide ((c.toNat : Int) < 97)) (U6 c A B) (br (decide ((c.toNat : Int) > 122)) (U6 c A B) B)
theorem tree_6 {c : UInt8} {A B : Prop} (hA : wordB c = false → A) (hB : wordB c = true → B) : T6r c A B := by
 have key := word_iff c
 have bb : (97 ≤ c.toNat ∧ c.toNat ≤ 122) ∨ (65 ≤ c.toNat ∧ c.toNat ≤ 90) ∨ (48 ≤ c.toNat ∧ c.toNat ≤ 57) ∨ c.toNat = 95 ∨ c.toNat = 46 ∨ c.toNat = 45 → B := fun h => hB (by rw [key]; exact decide_eq_true h)
 have aa : ¬ ((97 ≤ c.toNat ∧ c.toNat ≤ 122) ∨ (65 ≤ c.toNat ∧ c.toNat ≤ 90) ∨ (48 ≤ c.toNat ∧ c.toNat ≤ 57) ∨ c.toNat = 95 ∨ c.toNat = 46 ∨ c.toNat = 45) → A := fun h => hA (by rw [key]; exact decide_eq_false h)
 have n6 : ¬ ((97 ≤ c.toNat ∧ c.toNat ≤ 122) ∨ (65 ≤ c.toNat ∧ c.toNat ≤ 90) ∨ (48 ≤ c.toNat ∧ c.toNat ≤ 57)) → N6 c A B := fun h => by
  refine br_split (fun e => br_split (fun e1 => br_split (fun e2 => aa ?_) fun e2 => bb ?_) fun e1 => bb ?_) fun e => bb ?_
  all_goals simp at *; omega
 have d6 : ¬ ((97 ≤ c.toNat ∧ c.toNat ≤ 122) ∨ (65 ≤ c.toNat ∧ c.toNat ≤ 90)) → D6 c A B := fun h => by
  refine br_split (fun e => n6 ?_) fun e => br_split (fun e1 => n6 ?_) fun e1 => bb ?_
  all_goals simp at *; omega
 have u6 : ¬ (97 ≤ c.toNat ∧ c.toNat ≤ 122) → U6 c A B := fun h => by
  refine br_split (fun e => d6 ?_) fun e => br_split (fun e1 => d6 ?_) fun e1 => bb ?_
  all_goals simp at *; omega
 refine br_split (fun e => u6 ?_) fun e => br_split (fun e1 => u6 ?_) fun e1 => bb ?_
 all_goals simp at *; omega
end
theorem names_tri {h : PHeap} (hO : OpTab h) (hM : MaxLen h) (l1 : Bs) : Tri Tryz.prog 6 [vS l1] h fun v h' => v = vB true ∧ ∀ k o, h k = some o → h' k = some o := by
 refine T6 ?_
 unfold R6
 refine ⟨if 60 < (l1.length : Int) then 60 else (l1.length : Int), pureVal_run _ (by kernel_rfl), by split <;> omega, ?_⟩
 have hcut : (l1.drop 0).take ((if 60 < (l1.length : Int) then 60 else (l1.length : Int)).toNat - 0) = l1.take 60 := by
  rw [List.drop_zero, Nat.sub_zero]
  split
  · rfl
  · rw [Int.toNat_natCast, List.take_length, List.take_of_length_le (by omega)]
 rw [hcut]
 have hb : (l1.take 60).length ≤ 60 := by rw [List.length_take]; omega
 generalize l1.take 60 = s at *
 refine Tri.mono (known_t hO hM) ?_
 rintro _ h1 ⟨rfl, x1⟩
 refine ⟨_, rfl, br_neg rfl ?_⟩
 refine Tri.mono (label_t h1 s) ?_
 rintro _ h1 ⟨rfl, rfl⟩
 refine ⟨_, rfl, ?_⟩
 refine Tri.mono (rlabel_t h1 s) ?_
 rintro _ h1 ⟨rfl, rfl⟩
 refine ⟨_, rfl, br_neg (by simp) ?_⟩
 refine ⟨fun m i h' => ∃ j : Nat, i = (j : Int) ∧ j + m = s.length ∧ h' = h1 ∧ (s.take j).all wordB = true, ⟨s.length, 0, rfl, by omega, rfl, by simp⟩, ?_⟩
 rintro m _ h2 ⟨j, rfl, hjm, rfl, hall⟩
 refine br_split (fun e => ?_) fun e => ?_
 · have hlt : j < s.length := by have := of_decide_eq_true e; omega
   have hg : s[j]? = some s[j] := by simp [hlt]
   have htk := List.take_append_getElem hlt
   have hmem := List.getElem_mem hlt
   generalize s[j] = c at *
   refine ⟨by omega, c, (by rw [Int.toNat_natCast]; exact hg), ?_⟩
   refine tree_6 (fun hw => ?_) fun hw => ?_
   · refine Tri.mono (label_t h2 s) ?_
     rintro _ h3 ⟨rfl, rfl⟩
     have : isLabel s = false := by
      cases hl : isLabel s with
      | false => rfl
      | true =>
        have := List.all_eq_true.1 (As.label_word hl).1 c hmem
        rw [hw] at this; cases this
     exact ⟨_, rfl, by rw [this]; rfl, x1⟩
   · refine ⟨m - 1, by omega, ⟨j + 1, ?_, by omega, rfl, ?_⟩, trivial⟩
     · rw [wrap64 (by omega) (by omega)]; omega
     · rw [← htk, List.all_append, hall]; simp [hw]
 · have hj : j = s.length := by have := of_decide_eq_false e; omega
   subst hj
   rw [List.take_length] at hall
   refine ⟨by show s.length + 5 ≤ _; omega, ?_⟩
   refine Tri.mono (asm_t (s ++ hlt) (hO.ext x1) (hM.ext x1)) ?_
   rintro v h3 ⟨x3, hr⟩
   have x13 := x1.trans x3
   by_cases hn : s = []
   · subst hn
     rw [show assembleS ([] ++ hlt) = .error (1, 30) by kernel_rfl] at hr
     obtain ⟨_, rfl⟩ := hr
     exact ⟨_, _, _, _, _, _, _, _, _, _, _, rfl, br_pos rfl ⟨rfl, x13⟩⟩
   · have hne : (s == []) = false := by simpa using hn
     cases hl : isLabel s with
     | false =>
       rw [name_bad hall hn hb hl] at hr
       obtain ⟨_, rfl⟩ := hr
       refine ⟨_, _, _, _, _, _, _, _, _, _, _, rfl, br_neg hne (Tri.mono (label_t h3 s) ?_)⟩
       rintro _ h4 ⟨rfl, rfl⟩
       exact ⟨_, rfl, br_pos (by rw [hl]; rfl) ⟨rfl, x13⟩⟩
     | true =>
       rw [name_good hall hn hb hl] at hr
       obtain ⟨a1, k1, a2, k2, rfl, hI, hL, _, _⟩ := hr
       refine ⟨_, _, _, _, _, _, _, _, _, _, _, rfl, br_neg hne (Tri.mono (label_t h3 s) ?_)⟩
       rintro _ h4 ⟨rfl, rfl⟩
       refine ⟨_, rfl, br_neg (by rw [hl]; rfl) ?_⟩
       refine Tri.mono (address21_t (p := nameP s) (hO.ext x13) hI hL (by show 1 ≤ 1000000; decide) (by show 0 ≤ 1000000; decide) (by show 1 ≤ 1000000; decide) (fun l hm => by rw [List.mem_singleton.1 hm]; show _ ≤ (0 : Int) ∧ (0 : Int) ≤ _; decide) (by show _ ≤ (0 : Int) ∧ (0 : Int) ≤ _; decide)) ?_
       rintro _ h5 ⟨rfl, x5⟩
       have hv : adrV (nameP s) s = vT [vI 0, vB true] := by
        unfold adrV
        rw [if_neg (by rw [name_check hl]; decide)]
        have : address (nameP s) s = some 0 := by
         unfold address nameP
         simp [placeOf]
        rw [this]
       exact ⟨_, _, hv, br_pos rfl (br_pos rfl ⟨rfl, x13.trans x5⟩)⟩
end Go.Proofs.D
namespace Go.Proofs.D
open Go Go.Den Go.As
set_option maxRecDepth 100000
attribute [local irreducible] IntKind.wrap Tri
structure PRange (p : Pg) : Prop where
 ent : -9223372036854775808 ≤ p.entry ∧ p.entry ≤ 9223372036854775807
 off : ∀ l ∈ p.labels, -9223372036854775808 ≤ l.off ∧ l.off ≤ 9223372036854775807
theorem PRange.short {p : Pg} (h : PRange p) : PRange (shortP p) := by
 refine ⟨h.ent, fun l hl => ?_⟩
 obtain ⟨x, hx, rfl⟩ := List.mem_map.1 hl
 exact h.off x (List.mem_of_mem_take hx)
theorem short_len (p : Pg) : (shortP p).code.length ≤ 24 ∧ (shortP p).data.length ≤ 200 ∧ (shortP p).labels.length ≤ 12 := by
 unfold shortP
 simp only [List.length_take, List.length_map]
 omega
theorem checks_tri {h : PHeap} (hO : OpTab h) (hM : MaxLen h) {a1 a2 : OA} {k1 k2 : Nat} {p : Pg} (hp : PIn h a1 k1 a2 k2 p) (hr : PRange p) (l2 : Bs) : Tri Tryz.prog 5 [PV a1 k1 a2 k2 p, vS l2] h fun v h' => v = vB true ∧ ∀ k o, h k = some o → h' k = some o := by
 refine T5 ?_
 unfold R5
 refine Tri.mono (short_t hp) ?_
 rintro v h1 ⟨x1, a3, k3, a4, k4, rfl, hI, hL⟩
 obtain ⟨s1, s2, s3⟩ := short_len p
 have hr := hr.short
 generalize shortP p = q at *
 refine ⟨_, _, _, _, _, _, _, _, _, rfl, if 60 < (l2.length : Int) then 60 else (l2.length : Int), pureVal_run _ (by kernel_rfl), ⟨by omega, by split <;> omega, by split <;> omega⟩, ?_⟩
 generalize (l2.drop 0).take ((if 60 < (l2.length : Int) then 60 else (l2.length : Int)).toNat - 0) = n
 refine Tri.mono (to_t hI hL (by omega) (by omega)) ?_
 rintro v h2 ⟨x2, a5, k5, a6, k6, rfl, hG⟩
 have x12 := x1.trans x2
 refine ⟨_, _, _, _, _, _, _, _, _, rfl, ?_⟩
 refine Tri.mono (address21_t (n := n) (hO.ext x12) hG.ins hG.lbs (by omega) (by omega) (by omega) hr.off hr.ent) ?_
 rintro v h3 ⟨hv, x3⟩
 have x13 := x12.trans x3
 have hI3 := hI.ext (x2.trans x3)
 have hL3 := hL.ext (x2.trans x3)
 have rest : ∀ (i8 : Int) (c1 : Bool) (i10 : Int) (h5 : PHeap), Ext h3 h5 → c1 = decide (i10 ≥ 0) → i8 = (if i10 < 0 then 0 else i10) →
  Tri Tryz.prog 15 [] h5 fun v_6 h_6 =>
  ∃ (c2 : Bool), v_6 = vB c2 ∧
  br c2
  (Tri Tryz.prog 24 [PV a5 k5 a6 k6 q] h_6 fun v_7 h_7 =>
  ∃ (i11 : Int), v_7 = vI i11 ∧
  (tv [vL a3 q.code.length k3, vS q.data, vI q.zero, vI q.entry, vL a4 q.labels.length k4]) ∧
  Tri Tryz.prog 22 [PV a3 k3 a4 k4 q] h_7 fun v_8 h_8 =>
  ∃ (i12 : Int), v_8 = vI i12 ∧
  br (i11 == i12)
  (Tri Tryz.prog 25 [PV a5 k5 a6 k6 q] h_8 fun v_9 h_9 =>
  ∃ (i13 : Int), v_9 = vI i13 ∧
  (tv [vL a3 q.code.length k3, vS q.data, vI q.zero, vI q.entry, vL a4 q.labels.length k4]) ∧
  Tri Tryz.prog 26 [PV a3 k3 a4 k4 q] h_9 fun v_10 h_10 =>
  ∃ (i14 : Int), v_10 = vI i14 ∧
  br (i13 == i14)
  (br (c1 == (decide (i10 ≥ 0)))
  (∃ (i15 : Int), PureRun Tryz.prog (execOp (rho [(53, vI i10)]) (mkO o5_8 3)) (vI i15) ∧
  (vB (i8 == i15) = vB true ∧ ∀ k o, h k = some o → h_10 k = some o))
  (vB false = vB true ∧ ∀ k o, h k = some o → h_10 k = some o))
  (vB false = vB true ∧ ∀ k o, h k = some o → h_10 k = some o))
  (vB false = vB true ∧ ∀ k o, h k = some o → h_8 k = some o))
  (vB false = vB true ∧ ∀ k o, h k = some o → h_6 k = some o) := fun i8 c1 i10 h5 x5 hc1 hi8 => by
  have x15 := x13.trans x5
  refine Tri.mono (known_t (hO.ext x15) (hM.ext x15)) ?_
  rintro _ h6 ⟨rfl, x6⟩
  have x36 := x5.trans x6
  refine ⟨_, rfl, br_pos rfl ?_⟩
  refine Tri.mono (check_t (hO.ext (x15.trans x6)) (hG.ins.ext (x3.trans x36)) (hG.lbs.ext (x3.trans x36)) (by omega) (by omega) (by omega) hr.off hr.ent) ?_
  rintro _ h7 ⟨rfl, x7⟩
  refine ⟨_, rfl, rfl, ?_⟩
  refine Tri.mono (rcheckP_t (hI3.ext (x36.trans x7)) (hL3.ext (x36.trans x7)) (by omega) (by omega) (by omega)) ?_
  rintro _ h8 ⟨rfl, rfl⟩
  refine ⟨_, rfl, br_pos (by simp) ?_⟩
  refine Tri.mono (dataAt_t (p := q) (by omega)) ?_
  rintro _ h8 ⟨rfl, rfl⟩
  refine ⟨_, rfl, rfl, ?_⟩
  refine Tri.mono (rdataAt_t (p := q) (by omega)) ?_
  rintro _ h8 ⟨rfl, rfl⟩
  exact ⟨_, rfl, br_pos (by simp) (br_pos (by rw [hc1]; simp) ⟨if i10 < 0 then 0 else i10, pureVal_run _ (by kernel_rfl), by rw [hi8]; simp, (x15.trans x6).trans x7⟩)⟩
 have hck := rcheckP_t (h := h3) (k1 := k3) (k2 := k4) hI3 hL3 (by omega) (by omega) (by omega)
 by_cases e : checkP q = 0
 · have hok := check_ok e
   have hoff : ∀ l ∈ q.labels, 0 ≤ l.off ∧ l.off ≤ 1000000000 := fun l hl => by
    have hlo := hok.each l hl
    have h1 := hlo.lo
    have h2 := hok.zero
    cases hd : l.data with
    | true => have := hlo.dat hd; omega
    | false => have := hlo.code hd; omega
   have hadr : ∃ (i8 : Int) (c1 : Bool), v = vT [vI i8, vB c1] ∧ c1 = decide ((address q n).getD (-1) ≥ 0) ∧ i8 = (if (address q n).getD (-1) < 0 then 0 else (address q n).getD (-1)) := by
    rw [hv]
    unfold adrV
    rw [if_neg (by simp [e])]
    cases had : address q n with
    | none => exact ⟨0, false, rfl, rfl, rfl⟩
    | some i =>
      have hi : 0 ≤ i := by
       unfold address at had
       simp only [Option.map_eq_some_iff] at had
       obtain ⟨l, g1, rfl⟩ := had
       have := hoff l (List.mem_of_find?_eq_some g1)
       unfold placeOf dataAt
       split <;> omega
      refine ⟨i, true, rfl, ?_, ?_⟩
      · simp [hi]
      · simp only [Option.getD_some]; rw [if_neg (by omega)]
   obtain ⟨i8, c1, rfl, hc1, hi8⟩ := hadr
   refine ⟨i8, c1, rfl, ?_⟩
   refine Tri.mono hck ?_
   rintro _ h4 ⟨rfl, rfl⟩
   refine ⟨_, rfl, br_pos (by simp [e]) ?_⟩
   refine Tri.mono (raddr_t (n := n) hL3 (by omega) (by omega) hoff) ?_
   rintro _ h4 ⟨rfl, rfl⟩
   exact ⟨_, rfl, rest i8 c1 _ _ (Ext.refl _) hc1 hi8⟩
 · have hvv : v = vT [vI 0, vB false] := by rw [hv]; unfold adrV; rw [if_pos e]
   subst hvv
   refine ⟨0, false, rfl, ?_⟩
   refine Tri.mono hck ?_
   rintro _ h4 ⟨rfl, rfl⟩
   refine ⟨_, rfl, br_neg (by simp; omega) ?_⟩
   exact rest 0 false (-1) _ (Ext.refl _) rfl rfl
end Go.Proofs.D
namespace Go.Proofs.D
open Go Go.Den
set_option maxRecDepth 100000
set_option maxHeartbeats 4000000
abbrev esk1 : List CK := [qi, qi, qi, qi]
abbrev esk2 : List CK := [.slice, .str, qi, qi, .slice]
abbrev o16_5 : Op := .binOp .neq 57 (.tmp 55) (.tmp 60) 57
abbrev o16_8 : Op := .binOp .neq 89 (.tmp 73) (.tmp 78) 89
noncomputable def d16 : DCode := up ⟨[(8, .l [.str]), (10, .l [.str]), (14, .l [qi]), (16, .l [qi]), (21, .l [qi]), (23, .l [qi]), (28, .l [.slice]), (31, .l [.slice]), (37, .l [.slice]), (40, .l [.slice]), (46, .l [.slice]), (52, .l [.slice]), (55, .l esk1), (57, .l [.slice]), (60, .l esk1), (61, .c (.one false [.bool])), (64, .l [.slice]), (70, .l [.slice]), (73, .l [.str, .bool, qi]), (75, .l [.slice]), (78, .l [.str, .bool, qi]), (79, .c (.one false [.bool]))], [], [(44, 20, [(5, qi)], []), (62, 20, [(6, qi)], [])]⟩ (low Tryz.prog (fun _ => false) (Tryz.f16.body.getD .skip))
theorem low16 : low Tryz.prog (fun _ => false) (Tryz.f16.body.getD .skip) = some (eC d16) := by kernel_rfl
def R16 (a1 : OA) (n1 : Nat) (esk1 : Nat) (l1 : Bs) (i1 : Int) (i2 : Int) (a2 : OA) (n2 : Nat) (esk2 : Nat) (a3 : OA) (n3 : Nat) (k3 : Nat) (l2 : Bs) (i3 : Int) (i4 : Int) (a4 : OA) (n4 : Nat) (k4 : Nat) (h : PHeap) (Q : Value → PHeap → Prop) : Prop :=
 br (!(l1 == l2))
 (Q (vB false) h)
 (br (i1 != i3)
 (Q (vB false) h)
 (br (i2 != i4)
 (Q (vB false) h)
 (br (((n1 : Nat) : Int) != ((n3 : Nat) : Int))
 (Q (vB false) h)
 (br (((n2 : Nat) : Int) != ((n4 : Nat) : Int))
 (Q (vB false) h)
 (∃ (I_1 : Nat → Int → PHeap → Prop), (∃ (m2 : Nat), I_1 m2 (0 : Int) h) ∧
 ∀ (m1 : Nat) (i5 : Int) (h_1 : PHeap), I_1 m1 i5 h_1 →
 br (decide (i5 < ((n1 : Nat) : Int)))
 (∃ (b1 o1 : Nat), a1 = some ⟨b1, o1, none⟩ ∧ (0 ≤ i5 ∧ i5 < n1) ∧
 ∃ (i6 i7 i8 i9 : Int), h_1.row b1 (o1 + (i5).toNat * 4) [vI i6, vI i7, vI i8, vI i9] ∧
 ∃ (b2 o2 : Nat), a3 = some ⟨b2, o2, none⟩ ∧ (0 ≤ i5 ∧ i5 < n3) ∧
 ∃ (i10 i11 i12 i13 : Int), h_1.row b2 (o2 + (i5).toNat * 4) [vI i10, vI i11, vI i12, vI i13] ∧
 ∃ (c1 : Bool), PureRun Tryz.prog (execOp (rho [(55, vA [vI i6, vI i7, vI i8, vI i9]), (60, vA [vI i10, vI i11, vI i12, vI i13])]) (mkO o16_5 4)) (vB c1) ∧
 br c1
 (Q (vB false) h_1)
 (∃ (m3 : Nat), m3 < m1 ∧ I_1 m3 (IntKind.i64.wrap (i5 + 1)) h_1 ∧
 tv [vL a3 n3 k3, vS l2, vI i3, vI i4, vL a4 n4 k4] ∧ tv [vL a1 n1 esk1, vS l1, vI i1, vI i2, vL a2 n2 esk2] ∧ True))
 (∃ (I_2 : Nat → Int → PHeap → Prop), (∃ (m5 : Nat), I_2 m5 (0 : Int) h_1) ∧
 ∀ (m4 : Nat) (i14 : Int) (h_2 : PHeap), I_2 m4 i14 h_2 →
 br (decide (i14 < ((n2 : Nat) : Int)))
 (∃ (b3 o3 : Nat), a2 = some ⟨b3, o3, none⟩ ∧ (0 ≤ i14 ∧ i14 < n2) ∧
 ∃ (l3 : Bs) (c2 : Bool) (i15 : Int), h_2.row b3 (o3 + (i14).toNat * 3) [vS l3, vB c2, vI i15] ∧
 ∃ (b4 o4 : Nat), a4 = some ⟨b4, o4, none⟩ ∧ (0 ≤ i14 ∧ i14 < n4) ∧
 ∃ (l4 : Bs) (c3 : Bool) (i16 : Int), h_2.row b4 (o4 + (i14).toNat * 3) [vS l4, vB c3, vI i16] ∧
 ∃ (c4 : Bool), PureRun Tryz.prog (execOp (rho [(73, vA [vS l3, vB c2, vI i15]), (78, vA [vS l4, vB c3, vI i16])]) (mkO o16_8 4)) (vB c4) ∧
 br c4
 (Q (vB false) h_2)
 (∃ (m6 : Nat), m6 < m4 ∧ I_2 m6 (IntKind.i64.wrap (i14 + 1)) h_2 ∧
 tv [vL a3 n3 k3, vS l2, vI i3, vI i4, vL a4 n4 k4] ∧ tv [vL a1 n1 esk1, vS l1, vI i1, vI i2, vL a2 n2 esk2] ∧ True))
 (Q (vB true) h_2)))))))
theorem T16 {a1 : OA} {n1 : Nat} {esk1 : Nat} {l1 : Bs} {i1 : Int} {i2 : Int} {a2 : OA} {n2 : Nat} {esk2 : Nat} {a3 : OA} {n3 : Nat} {k3 : Nat} {l2 : Bs} {i3 : Int} {i4 : Int} {a4 : OA} {n4 : Nat} {k4 : Nat} {h : PHeap} {Q : Value → PHeap → Prop} (hR : R16 a1 n1 esk1 l1 i1 i2 a2 n2 esk2 a3 n3 k3 l2 i3 i4 a4 n4 k4 h Q) : Tri Tryz.prog 16 [vA [vL a1 n1 esk1, vS l1, vI i1, vI i2, vL a2 n2 esk2], vA [vL a3 n3 k3, vS l2, vI i3, vI i4, vL a4 n4 k4]] h Q :=
 tri_of_dn mixed Tryz.func16 rfl (by kernel_rfl) low16 (rs := [.tmp 4]) (by kernel_rfl) rfl (Eq.mpr (by kernel_rfl : dnF Tryz.prog Tryz.f16.ntmps d16 [.tmp 4] [vA [vL a1 n1 esk1, vS l1, vI i1, vI i2, vL a2 n2 esk2], vA [vL a3 n3 k3, vS l2, vI i3, vI i4, vL a4 n4 k4]] h Q = R16 a1 n1 esk1 l1 i1 i2 a2 n2 esk2 a3 n3 k3 l2 i3 i4 a4 n4 k4 h Q) hR)
noncomputable def d8 : DCode := up ⟨[(5, .l esk2), (6, .c (.one true esk2)), (7, .l esk2), (8, .c (.one true esk2)), (9, .c (.one false [.bool])), (11, .l esk2), (12, .c (.one true esk2)), (13, .l esk2), (14, .c (.one true esk2)), (15, .c (.one false [.bool])), (16, .l esk2), (17, .l esk2), (18, .c (.one false [.bool])), (22, .l esk2), (23, .c (.one true esk2)), (24, .l esk2), (25, .c (.one true esk2)), (26, .c (.one false [.bool]))], [], []⟩ (low Tryz.prog (fun _ => false) (Tryz.f8.body.getD .skip))
theorem low8 : low Tryz.prog (fun _ => false) (Tryz.f8.body.getD .skip) = some (eC d8) := by kernel_rfl
def R8 (a1 : OA) (n1 : Nat) (esk1 : Nat) (l1 : Bs) (i1 : Int) (i2 : Int) (a2 : OA) (n2 : Nat) (esk2 : Nat) (a3 : OA) (n3 : Nat) (k3 : Nat) (l2 : Bs) (i3 : Int) (i4 : Int) (a4 : OA) (n4 : Nat) (k4 : Nat) (h : PHeap) (Q : Value → PHeap → Prop) : Prop :=
 Tri Tryz.prog 19 [vA [vL a1 n1 esk1, vS l1, vI i1, vI i2, vL a2 n2 esk2]] h fun v_1 h_1 =>
 ∃ (a5 : OA) (n5 k5 : Nat) (l3 : Bs) (i5 i6 : Int) (a6 : OA) (n6 k6 : Nat), v_1 = vA [vL a5 n5 k5, vS l3, vI i5, vI i6, vL a6 n6 k6] ∧
 (tv [vL a3 n3 k3, vS l2, vI i3, vI i4, vL a4 n4 k4]) ∧
 Tri Tryz.prog 19 [vA [vL a3 n3 k3, vS l2, vI i3, vI i4, vL a4 n4 k4]] h_1 fun v_2 h_2 =>
 ∃ (a7 : OA) (n7 k7 : Nat) (l4 : Bs) (i7 i8 : Int) (a8 : OA) (n8 k8 : Nat), v_2 = vA [vL a7 n7 k7, vS l4, vI i7, vI i8, vL a8 n8 k8] ∧
 Tri Tryz.prog 15 [] h_2 fun v_3 h_3 =>
 ∃ (c1 : Bool), v_3 = vB c1 ∧
 br c1
 (Tri Tryz.prog 20 [vA [vL a5 n5 k5, vS l3, vI i5, vI i6, vL a6 n6 k6]] h_3 fun v_4 h_4 =>
 ∃ (a9 : OA) (n9 k9 : Nat) (l5 : Bs) (i9 i10 : Int) (a10 : OA) (n10 k10 : Nat), v_4 = vA [vL a9 n9 k9, vS l5, vI i9, vI i10, vL a10 n10 k10] ∧
 (tv [vL a7 n7 k7, vS l4, vI i7, vI i8, vL a8 n8 k8]) ∧
 (tv [vL a5 n5 k5, vS l3, vI i5, vI i6, vL a6 n6 k6]) ∧
 (tv [vL a7 n7 k7, vS l4, vI i7, vI i8, vL a8 n8 k8]) ∧
 Tri Tryz.prog 20 [vA [vL a7 n7 k7, vS l4, vI i7, vI i8, vL a8 n8 k8]] h_4 fun v_5 h_5 =>
 ∃ (a11 : OA) (n11 k11 : Nat) (l6 : Bs) (i11 i12 : Int) (a12 : OA) (n12 k12 : Nat), v_5 = vA [vL a11 n11 k11, vS l6, vI i11, vI i12, vL a12 n12 k12] ∧
 (tv [vL a7 n7 k7, vS l4, vI i7, vI i8, vL a8 n8 k8]) ∧
 (tv [vL a5 n5 k5, vS l3, vI i5, vI i6, vL a6 n6 k6]) ∧
 Tri Tryz.prog 29 [vA [vL a9 n9 k9, vS l5, vI i9, vI i10, vL a10 n10 k10], vA [vL a11 n11 k11, vS l6, vI i11, vI i12, vL a12 n12 k12]] h_5 fun v_6 h_6 =>
 ∃ (c2 : Bool), v_6 = vB c2 ∧
 (tv [vL a7 n7 k7, vS l4, vI i7, vI i8, vL a8 n8 k8]) ∧
 (tv [vL a5 n5 k5, vS l3, vI i5, vI i6, vL a6 n6 k6]) ∧
 Tri Tryz.prog 16 [vA [vL a5 n5 k5, vS l3, vI i5, vI i6, vL a6 n6 k6], vA [vL a7 n7 k7, vS l4, vI i7, vI i8, vL a8 n8 k8]] h_6 fun v_7 h_7 =>
 ∃ (c3 : Bool), v_7 = vB c3 ∧
 br (c2 == c3)
 (Tri Tryz.prog 20 [vA [vL a5 n5 k5, vS l3, vI i5, vI i6, vL a6 n6 k6]] h_7 fun v_8 h_8 =>
 ∃ (a13 : OA) (n13 k13 : Nat) (l7 : Bs) (i13 i14 : Int) (a14 : OA) (n14 k14 : Nat), v_8 = vA [vL a13 n13 k13, vS l7, vI i13, vI i14, vL a14 n14 k14] ∧
 (tv [vL a5 n5 k5, vS l3, vI i5, vI i6, vL a6 n6 k6]) ∧
 Tri Tryz.prog 20 [vA [vL a5 n5 k5, vS l3, vI i5, vI i6, vL a6 n6 k6]] h_8 fun v_9 h_9 =>
 ∃ (a15 : OA) (n15 k15 : Nat) (l8 : Bs) (i15 i16 : Int) (a16 : OA) (n16 k16 : Nat), v_9 = vA [vL a15 n15 k15, vS l8, vI i15, vI i16, vL a16 n16 k16] ∧
 Tri Tryz.prog 29 [vA [vL a13 n13 k13, vS l7, vI i13, vI i14, vL a14 n14 k14], vA [vL a15 n15 k15, vS l8, vI i15, vI i16, vL a16 n16 k16]] h_9 fun v_10 h_10 =>
 ∃ (c4 : Bool), v_10 = vB c4 ∧
 Q (vB c4) h_10)
 (Q (vB false) h_7))
 (Q (vB false) h_3)
theorem T8 {a1 : OA} {n1 : Nat} {esk1 : Nat} {l1 : Bs} {i1 : Int} {i2 : Int} {a2 : OA} {n2 : Nat} {esk2 : Nat} {a3 : OA} {n3 : Nat} {k3 : Nat} {l2 : Bs} {i3 : Int} {i4 : Int} {a4 : OA} {n4 : Nat} {k4 : Nat} {h : PHeap} {Q : Value → PHeap → Prop} (hR : R8 a1 n1 esk1 l1 i1 i2 a2 n2 esk2 a3 n3 k3 l2 i3 i4 a4 n4 k4 h Q) : Tri Tryz.prog 8 [vA [vL a1 n1 esk1, vS l1, vI i1, vI i2, vL a2 n2 esk2], vA [vL a3 n3 k3, vS l2, vI i3, vI i4, vL a4 n4 k4]] h Q :=
 tri_of_dn mixed Tryz.func8 rfl (by kernel_rfl) low8 (rs := [.tmp 4]) (by kernel_rfl) rfl (Eq.mpr (by kernel_rfl : dnF Tryz.prog Tryz.f8.ntmps d8 [.tmp 4] [vA [vL a1 n1 esk1, vS l1, vI i1, vI i2, vL a2 n2 esk2], vA [vL a3 n3 k3, vS l2, vI i3, vI i4, vL a4 n4 k4]] h Q = R8 a1 n1 esk1 l1 i1 i2 a2 n2 esk2 a3 n3 k3 l2 i3 i4 a4 n4 k4 h Q) hR)
end Go.Proofs.D
namespace Go.Proofs.D
open Go Go.Den Go.As
set_option maxRecDepth 100000
theorem eq_ins57 (x y : Ins) (w : World) : (Op.equalIn 10000 57 (vA (insC x)) (vA (insC y))).run Tryz.prog w = .ok (decide (x = y)) w := by
 have h1 : Tryz.prog.underlying 57 = some (.struct (Tryz.prog.fieldsOf 57)) := by unfold Program.fieldsOf; rw [Tryz.underlying57]
 have h2 : Tryz.prog.stoodInHeld 57 = false := by kernel_rfl
 have := run_equalIn_struct w (P := Tryz.prog) 9999 57 ⟨insC x⟩ ⟨insC y⟩ h1 h2
 rw [show (Op.equalIn 10000 57 (vA (insC x)) (vA (insC y))) = Op.equalIn (9999 + 1) 57 (.agg ⟨insC x⟩) (.agg ⟨insC y⟩) from rfl, this]
 have p : ∀ (x : Ins) (k : Nat) (v : Value), (insC x)[k]? = some v → (part 3 ⟨insC x⟩ k).run Tryz.prog w = .ok v w := fun x k v h => run_part1 w (Tryz.isAgg3 w) h
 simp only [Program.fieldsOf, Tryz.underlying57, Op.eqFields, ne_eq, Sem.run_bind, Sem.run_ite, p _ 0 _ rfl, p _ 1 _ rfl, p _ 2 _ rfl, p _ 3 _ rfl, Result.andThen_ok, run_int3, Sem.run_pure]
 obtain ⟨x1, x2, x3, x4⟩ := x
 obtain ⟨y1, y2, y3, y4⟩ := y
 by_cases e1 : x1 = y1 <;> by_cases e2 : x2 = y2 <;> by_cases e3 : x3 = y3 <;> by_cases e4 : x4 = y4 <;> simp [e1, e2, e3, e4]
theorem eq_lb89 (x y : Lb) (w : World) : (Op.equalIn 10000 89 (vA (lbC x)) (vA (lbC y))).run Tryz.prog w = .ok (decide (x = y)) w := by
 have h1 : Tryz.prog.underlying 89 = some (.struct (Tryz.prog.fieldsOf 89)) := by unfold Program.fieldsOf; rw [Tryz.underlying89]
 have h2 : Tryz.prog.stoodInHeld 89 = false := by kernel_rfl
 have := run_equalIn_struct w (P := Tryz.prog) 9999 89 ⟨lbC x⟩ ⟨lbC y⟩ h1 h2
 rw [show (Op.equalIn 10000 89 (vA (lbC x)) (vA (lbC y))) = Op.equalIn (9999 + 1) 89 (.agg ⟨lbC x⟩) (.agg ⟨lbC y⟩) from rfl, this]
 have p0 : ∀ (x : Lb), (part 9 ⟨lbC x⟩ 0).run Tryz.prog w = .ok (vS x.name) w := fun x => run_part1 w (Tryz.isAgg9 w) rfl
 have p1 : ∀ (x : Lb), (part 4 ⟨lbC x⟩ 1).run Tryz.prog w = .ok (vB x.data) w := fun x => run_part1 w (Tryz.isAgg4 w) rfl
 have p2 : ∀ (x : Lb), (part 3 ⟨lbC x⟩ 2).run Tryz.prog w = .ok (vI x.off) w := fun x => run_part1 w (Tryz.isAgg3 w) rfl
 simp only [Program.fieldsOf, Tryz.underlying89, Op.eqFields, ne_eq, Sem.run_bind, Sem.run_ite, p0, p1, p2, Result.andThen_ok, run_int3, run_str9, run_bool4, Sem.run_pure]
 obtain ⟨x1, x2, x3⟩ := x
 obtain ⟨y1, y2, y3⟩ := y
 by_cases e1 : x1 = y1 <;> by_cases e2 : x2 = y2 <;> by_cases e3 : x3 = y3 <;> simp [e1, e2, e3]
attribute [local irreducible] IntKind.wrap Tri
theorem rsame_t {h : PHeap} {a1 a2 a3 a4 : OA} {k1 k2 k3 k4 : Nat} {p q : Pg} (i1 : InAt h a1 p.code) (l1 : LbAt h a2 p.labels) (i2 : InAt h a3 q.code) (l2 : LbAt h a4 q.labels) (hn : p.code.length ≤ 1000000) (hm : p.labels.length ≤ 1000000) :
 Tri Tryz.prog 16 [PV a1 k1 a2 k2 p, PV a3 k3 a4 k4 q] h fun v h' => v = vB (decide (p = q)) ∧ h' = h := by
 refine T16 ?_
 unfold R16
 refine br_split (fun e => ?_) fun g1 => br_split (fun e => ?_) fun g2 => br_split (fun e => ?_) fun g3 => br_split (fun e => ?_) fun g4 => br_split (fun e => ?_) fun g5 => ?_
 · exact ⟨by congr 1; symm; apply decide_eq_false; rintro rfl; simp at e, rfl⟩
 · exact ⟨by congr 1; symm; apply decide_eq_false; rintro rfl; simp at e, rfl⟩
 · exact ⟨by congr 1; symm; apply decide_eq_false; rintro rfl; simp at e, rfl⟩
 · exact ⟨by congr 1; symm; apply decide_eq_false; rintro rfl; simp at e, rfl⟩
 · exact ⟨by congr 1; symm; apply decide_eq_false; rintro rfl; simp at e, rfl⟩
 have g1 : p.data = q.data := by simpa using g1
 have g2 : p.zero = q.zero := by simpa using g2
 have g3 : p.entry = q.entry := by simpa using g3
 have g4 : p.code.length = q.code.length := by
  have : (p.code.length : Int) = (q.code.length : Int) := by simpa using g4
  omega
 have g5 : p.labels.length = q.labels.length := by
  have : (p.labels.length : Int) = (q.labels.length : Int) := by simpa using g5
  omega
 refine ⟨fun n i h' => ∃ j : Nat, i = (j : Int) ∧ j + n = p.code.length ∧ h' = h ∧ p.code.take j = q.code.take j, ⟨p.code.length, 0, rfl, by omega, rfl, rfl⟩, ?_⟩
 rintro n _ h3 ⟨j, rfl, hjn, rfl, ht⟩
 refine br_split (fun e => ?_) fun e => ?_
 · have hlt : j < p.code.length := by have := of_decide_eq_true e; omega
   have e1 : p.code[j]? = some p.code[j] := by simp [hlt]
   have hlt2 : j < q.code.length := by omega
   have e2 : q.code[j]? = some q.code[j] := by simp [hlt2]
   have hiff := take_eq_iff e1 e2
   generalize p.code[j] = x at *
   generalize q.code[j] = y at *
   obtain ⟨b1, o1, ha1, r1⟩ := i1.get e1
   obtain ⟨b2, o2, ha2, r2⟩ := i2.get e2
   refine ⟨b1, o1, ha1, ⟨by omega, by omega⟩, _, _, _, _, (by rw [Int.toNat_natCast]; exact r1), b2, o2, ha2, ⟨by omega, by omega⟩, _, _, _, _, (by rw [Int.toNat_natCast]; exact r2), !decide (x = y), pure_neq (xs := insC x) (ys := insC y) rfl rfl (by kernel_rfl) (eq_ins57 x y), br_split (fun c => ?_) fun c => ?_⟩
   · have hxy : x ≠ y := by simpa using c
     exact ⟨by congr 1; symm; apply decide_eq_false; rintro rfl; rw [e1] at e2; injection e2 with e2; exact hxy e2, rfl⟩
   · have hxy : x = y := by simpa using c
     exact ⟨n - 1, by omega, ⟨j + 1, by rw [wrap64 (by omega) (by omega)]; omega, by omega, rfl, hiff.2 ⟨ht, hxy⟩⟩, rfl, rfl, trivial⟩
 have hj : j = p.code.length := by have := of_decide_eq_false e; omega
 subst hj
 rw [List.take_length, g4, List.take_length] at ht
 refine ⟨fun n i h' => ∃ j : Nat, i = (j : Int) ∧ j + n = p.labels.length ∧ h' = h3 ∧ p.labels.take j = q.labels.take j, ⟨p.labels.length, 0, rfl, by omega, rfl, rfl⟩, ?_⟩
 rintro n _ h3 ⟨j, rfl, hjn, rfl, ht2⟩
 refine br_split (fun e => ?_) fun e => ?_
 · have hlt : j < p.labels.length := by have := of_decide_eq_true e; omega
   have e1 : p.labels[j]? = some p.labels[j] := by simp [hlt]
   have hlt2 : j < q.labels.length := by omega
   have e2 : q.labels[j]? = some q.labels[j] := by simp [hlt2]
   have hiff := take_eq_iff e1 e2
   generalize p.labels[j] = x at *
   generalize q.labels[j] = y at *
   obtain ⟨b1, o1, ha1, r1⟩ := l1.get e1
   obtain ⟨b2, o2, ha2, r2⟩ := l2.get e2
   refine ⟨b1, o1, ha1, ⟨by omega, by omega⟩, _, _, _, (by rw [Int.toNat_natCast]; exact r1), b2, o2, ha2, ⟨by omega, by omega⟩, _, _, _, (by rw [Int.toNat_natCast]; exact r2), !decide (x = y), pure_neq (xs := lbC x) (ys := lbC y) rfl rfl (by kernel_rfl) (eq_lb89 x y), br_split (fun c => ?_) fun c => ?_⟩
   · have hxy : x ≠ y := by simpa using c
     exact ⟨by congr 1; symm; apply decide_eq_false; rintro rfl; rw [e1] at e2; injection e2 with e2; exact hxy e2, rfl⟩
   · have hxy : x = y := by simpa using c
     exact ⟨n - 1, by omega, ⟨j + 1, by rw [wrap64 (by omega) (by omega)]; omega, by omega, rfl, hiff.2 ⟨ht2, hxy⟩⟩, rfl, rfl, trivial⟩
 · have hj : j = p.labels.length := by have := of_decide_eq_false e; omega
   subst hj
   rw [List.take_length, g5, List.take_length] at ht2
   refine ⟨?_, rfl⟩
   congr 1; symm; apply decide_eq_true
   obtain ⟨c1, d1, z1, t1, m1⟩ := p
   obtain ⟨c2, d2, z2, t2, m2⟩ := q
   rw [Pg.mk.injEq]
   exact ⟨ht, g1, g2, g3, ht2⟩
theorem PIn.ext {h h' : PHeap} {a1 : OA} {k1 : Nat} {a2 : OA} {k2 : Nat} {p : Pg} (x : Ext h h') (hp : PIn h a1 k1 a2 k2 p) : PIn h' a1 k1 a2 k2 p := ⟨hp.ins.ext x, hp.lbs.ext x, hp.ok, hp.le⟩
theorem equals_tri {h : PHeap} (hO : OpTab h) (hM : MaxLen h) {a1 a2 b1 b2 : OA} {k1 k2 j1 j2 : Nat} {p q : Pg} (hp : PIn h a1 k1 a2 k2 p) (hq : PIn h b1 j1 b2 j2 q) : Tri Tryz.prog 8 [PV a1 k1 a2 k2 p, PV b1 j1 b2 j2 q] h fun v h' => v = vB true ∧ ∀ k o, h k = some o → h' k = some o := by
 refine T8 ?_
 unfold R8
 refine Tri.mono (short_t hp) ?_
 rintro v h1 ⟨x1, a3, k3, a4, k4, rfl, hI, hL⟩
 obtain ⟨s1, s2, s3⟩ := short_len p
 refine ⟨_, _, _, _, _, _, _, _, _, rfl, rfl, ?_⟩
 refine Tri.mono (short_t (hq.ext x1)) ?_
 rintro v h2 ⟨x2, b3, j3, b4, j4, rfl, hI2, hL2⟩
 obtain ⟨r1, r2, r3⟩ := short_len q
 have x12 := x1.trans x2
 refine ⟨_, _, _, _, _, _, _, _, _, rfl, ?_⟩
 generalize shortP p = u at *
 generalize shortP q = w at *
 refine Tri.mono (known_t (hO.ext x12) (hM.ext x12)) ?_
 rintro _ h3 ⟨rfl, x3⟩
 refine ⟨_, rfl, br_pos rfl ?_⟩
 have hI := hI.ext (x2.trans x3)
 have hL := hL.ext (x2.trans x3)
 have hI2 := hI2.ext x3
 have hL2 := hL2.ext x3
 refine Tri.mono (to_t hI hL (by omega) (by omega)) ?_
 rintro v h4 ⟨x4, a5, k5, a6, k6, rfl, hG⟩
 refine ⟨_, _, _, _, _, _, _, _, _, rfl, rfl, rfl, rfl, ?_⟩
 refine Tri.mono (to_t (hI2.ext x4) (hL2.ext x4) (by omega) (by omega)) ?_
 rintro v h5 ⟨x5, b5, j5, b6, j6, rfl, hG2⟩
 refine ⟨_, _, _, _, _, _, _, _, _, rfl, rfl, rfl, ?_⟩
 refine Tri.mono (equal_t (hG.ext x5) hG2 (by omega) (by omega)) ?_
 rintro _ h6 ⟨rfl, rfl⟩
 refine ⟨_, rfl, rfl, rfl, ?_⟩
 have x45 := x4.trans x5
 refine Tri.mono (rsame_t (hI.ext x45) (hL.ext x45) (hI2.ext x45) (hL2.ext x45) (by omega) (by omega)) ?_
 rintro _ h6 ⟨rfl, rfl⟩
 refine ⟨_, rfl, br_pos (by simp) ?_⟩
 refine Tri.mono (to_t (hI.ext x45) (hL.ext x45) (by omega) (by omega)) ?_
 rintro v h7 ⟨x7, a7, k7, a8, k8, rfl, hG3⟩
 refine ⟨_, _, _, _, _, _, _, _, _, rfl, rfl, ?_⟩
 refine Tri.mono (to_t (hI.ext (x45.trans x7)) (hL.ext (x45.trans x7)) (by omega) (by omega)) ?_
 rintro v h8 ⟨x8, a9, k9, a10, k10, rfl, hG4⟩
 refine ⟨_, _, _, _, _, _, _, _, _, rfl, ?_⟩
 refine Tri.mono (equal_t (hG3.ext x8) hG4 (by omega) (by omega)) ?_
 rintro _ h9 ⟨rfl, rfl⟩
 exact ⟨_, rfl, by simp, ((x12.trans x3).trans x45).trans (x7.trans x8)⟩
end Go.Proofs.D
namespace Go.Proofs.D
open Go Go.Den
set_option maxRecDepth 100000
set_option maxHeartbeats 4000000
abbrev ew17k1 : List CK := [.slice, .str, qi, qi, .slice]
abbrev ew17k2 : List CK := [qi, qi, qi, qi]
noncomputable def d11 : DCode := up ⟨[(10, .l ew17k1), (11, .c (.one true ew17k1)), (13, .l ew17k1), (14, .c (.one true ew17k1)), (15, .c (.tup [(false, [.str]), (false, [qi])])), (19, .l ew17k1), (20, .c (.tup [(false, [.str]), (false, [qi])])), (23, .c (.one false [.bool])), (39, .c (.tup [(true, ew17k1), (false, [qi]), (false, [qi])])), (50, .l ew17k1), (51, .c (.one true ew17k1)), (52, .l ew17k1), (53, .c (.one false [.bool]))], [], []⟩ (low Tryz.prog (fun _ => false) (Tryz.f11.body.getD .skip))
theorem low11 : low Tryz.prog (fun _ => false) (Tryz.f11.body.getD .skip) = some (eC d11) := by kernel_rfl
def R11 (a1 : OA) (n1 : Nat) (ew17k1 : Nat) (l1 : Bs) (i1 : Int) (i2 : Int) (a2 : OA) (n2 : Nat) (ew17k2 : Nat) (h : PHeap) (Q : Value → PHeap → Prop) : Prop :=
 Tri Tryz.prog 19 [vA [vL a1 n1 ew17k1, vS l1, vI i1, vI i2, vL a2 n2 ew17k2]] h fun v_1 h_1 =>
 ∃ (a3 : OA) (n3 k3 : Nat) (l2 : Bs) (i3 i4 : Int) (a4 : OA) (n4 k4 : Nat), v_1 = vA [vL a3 n3 k3, vS l2, vI i3, vI i4, vL a4 n4 k4] ∧
 Tri Tryz.prog 20 [vA [vL a3 n3 k3, vS l2, vI i3, vI i4, vL a4 n4 k4]] h_1 fun v_2 h_2 =>
 ∃ (a5 : OA) (n5 k5 : Nat) (l3 : Bs) (i5 i6 : Int) (a6 : OA) (n6 k6 : Nat), v_2 = vA [vL a5 n5 k5, vS l3, vI i5, vI i6, vL a6 n6 k6] ∧
 Tri Tryz.prog 35 [vA [vL a5 n5 k5, vS l3, vI i5, vI i6, vL a6 n6 k6]] h_2 fun v_3 h_3 =>
 ∃ (l4 : Bs) (i7 : Int), v_3 = vT [vS l4, vI i7] ∧
 Tri Tryz.prog 36 [vA [vL a3 n3 k3, vS l2, vI i3, vI i4, vL a4 n4 k4]] h_3 fun v_4 h_4 =>
 ∃ (l5 : Bs) (i8 : Int), v_4 = vT [vS l5, vI i8] ∧
 Tri Tryz.prog 15 [] h_4 fun v_5 h_5 =>
 ∃ (c1 : Bool), v_5 = vB c1 ∧
 br (!c1)
 (Q (vB false) h_5)
 (br (i7 != i8)
 (Q (vB false) h_5)
 (br (!(l4 == l5))
 (Q (vB false) h_5)
 (br (i7 != 0)
 (Q (vB true) h_5)
 (Tri Tryz.prog 13 [vS l4] h_5 fun v_6 h_6 =>
 ∃ (a7 : OA) (n7 k7 : Nat) (l6 : Bs) (i9 i10 : Int) (a8 : OA) (n8 k8 : Nat) (i11 i12 : Int), v_6 = vT [vA [vL a7 n7 k7, vS l6, vI i9, vI i10, vL a8 n8 k8], vI i11, vI i12] ∧
 br (i12 == 0)
 (br (i11 == 0)
 (Tri Tryz.prog 17 [vA [vL a7 n7 k7, vS l6, vI i9, vI i10, vL a8 n8 k8]] h_6 fun v_7 h_7 =>
 ∃ (a9 : OA) (n9 k9 : Nat) (l7 : Bs) (i13 i14 : Int) (a10 : OA) (n10 k10 : Nat), v_7 = vA [vL a9 n9 k9, vS l7, vI i13, vI i14, vL a10 n10 k10] ∧
 (tv [vL a3 n3 k3, vS l2, vI i3, vI i4, vL a4 n4 k4]) ∧
 Tri Tryz.prog 16 [vA [vL a9 n9 k9, vS l7, vI i13, vI i14, vL a10 n10 k10], vA [vL a3 n3 k3, vS l2, vI i3, vI i4, vL a4 n4 k4]] h_7 fun v_8 h_8 =>
 ∃ (c2 : Bool), v_8 = vB c2 ∧
 Q (vB c2) h_8)
 (Q (vB false) h_6))
 (Q (vB false) h_6)))))
theorem T11 {a1 : OA} {n1 : Nat} {ew17k1 : Nat} {l1 : Bs} {i1 : Int} {i2 : Int} {a2 : OA} {n2 : Nat} {ew17k2 : Nat} {h : PHeap} {Q : Value → PHeap → Prop} (hR : R11 a1 n1 ew17k1 l1 i1 i2 a2 n2 ew17k2 h Q) : Tri Tryz.prog 11 [vA [vL a1 n1 ew17k1, vS l1, vI i1, vI i2, vL a2 n2 ew17k2]] h Q :=
 tri_of_dn mixed Tryz.func11 rfl (by kernel_rfl) low11 (rs := [.tmp 2]) (by kernel_rfl) rfl (Eq.mpr (by kernel_rfl : dnF Tryz.prog Tryz.f11.ntmps d11 [.tmp 2] [vA [vL a1 n1 ew17k1, vS l1, vI i1, vI i2, vL a2 n2 ew17k2]] h Q = R11 a1 n1 ew17k1 l1 i1 i2 a2 n2 ew17k2 h Q) hR)
abbrev o17_1 : Op := .call { callee := (.builtin .append), args := #[(.tmp 28), (.tmp 38)], argTypes := #[29, 29] }
abbrev o17_4 : Op := .call { callee := (.builtin .append), args := #[(.tmp 54), (.tmp 62)], argTypes := #[30, 30] }
noncomputable def d17 : DCode := up ⟨[(9, .l [.str]), (11, .l [qi]), (13, .l [qi]), (17, .l [.slice]), (23, .l [.slice]), (26, .l ew17k2), (28, .l [.slice]), (30, .l [qi]), (32, .l [qi]), (34, .l [qi]), (36, .l [qi]), (39, .c (.one false [.slice])), (43, .l [.slice]), (49, .l [.slice]), (52, .l [.str, .bool, qi]), (54, .l [.slice]), (56, .l [.str]), (58, .l [.bool]), (60, .l [qi]), (63, .c (.one false [.slice])), (65, .l ew17k1)], [], [(15, 28, [(4, qi)], [(3, ew17k1)]), (41, 26, [(6, qi)], [(3, ew17k1)])]⟩ (low Tryz.prog (fun _ => false) (Tryz.f17.body.getD .skip))
theorem low17 : low Tryz.prog (fun _ => false) (Tryz.f17.body.getD .skip) = some (eC d17) := by kernel_rfl
def R17 (a1 : OA) (n1 : Nat) (ew17k1 : Nat) (l1 : Bs) (i1 : Int) (i2 : Int) (a2 : OA) (n2 : Nat) (ew17k2 : Nat) (h : PHeap) (Q : Value → PHeap → Prop) : Prop :=
 ∃ (I_1 : Nat → Int → OA → Nat → Nat → Bs → Int → Int → OA → Nat → Nat → PHeap → Prop), (∃ (m2 : Nat), I_1 m2 (0 : Int) none 0 0 l1 i1 i2 none 0 0 h) ∧
 ∀ (m1 : Nat) (i3 : Int) (a3 : OA) (n3 : Nat) (k3 : Nat) (l2 : Bs) (i4 : Int) (i5 : Int) (a4 : OA) (n4 : Nat) (k4 : Nat) (h_1 : PHeap), I_1 m1 i3 a3 n3 k3 l2 i4 i5 a4 n4 k4 h_1 →
 br (decide (i3 < ((n1 : Nat) : Int)))
 (∃ (b1 o1 : Nat), a1 = some ⟨b1, o1, none⟩ ∧ (0 ≤ i3 ∧ i3 < n1) ∧
 ∃ (i6 i7 i8 i9 : Int), h_1.row b1 (o1 + (i3).toNat * 4) [vI i6, vI i7, vI i8, vI i9] ∧
 ∀ (b2 : Nat), h_1 b2 = none → ∀ (h_2 : PHeap), h_2 = h_1.put b2 (.cells ⟨[vI i6, vI i7, vI i8, vI i9]⟩ 57) →
 Raw Tryz.prog (execOp (rho [(28, vL a3 n3 k3), (38, vL (ad b2 0) 1 1)]) (mkO o17_1 29)) h_2 fun v_1 h_3 =>
 ∃ (a5 : OA) (n5 k5 : Nat), v_1 = vL a5 n5 k5 ∧
 ∃ (m3 : Nat), m3 < m1 ∧ I_1 m3 (IntKind.i64.wrap (i3 + 1)) a5 n5 k5 l2 i4 i5 a4 n4 k4 h_3 ∧
 tv [vL none 0 0, vS [], vI 0, vI 0, vL none 0 0] ∧ tv [vL a1 n1 ew17k1, vS l1, vI i1, vI i2, vL a2 n2 ew17k2] ∧ True)
 (∃ (I_2 : Nat → Int → OA → Nat → Nat → Bs → Int → Int → OA → Nat → Nat → PHeap → Prop), (∃ (m5 : Nat), I_2 m5 (0 : Int) a3 n3 k3 l2 i4 i5 a4 n4 k4 h_1) ∧
 ∀ (m4 : Nat) (i10 : Int) (a6 : OA) (n6 : Nat) (k6 : Nat) (l3 : Bs) (i11 : Int) (i12 : Int) (a7 : OA) (n7 : Nat) (k7 : Nat) (h_4 : PHeap), I_2 m4 i10 a6 n6 k6 l3 i11 i12 a7 n7 k7 h_4 →
 br (decide (i10 < ((n2 : Nat) : Int)))
 (∃ (b3 o2 : Nat), a2 = some ⟨b3, o2, none⟩ ∧ (0 ≤ i10 ∧ i10 < n2) ∧
 ∃ (l4 : Bs) (c1 : Bool) (i13 : Int), h_4.row b3 (o2 + (i10).toNat * 3) [vS l4, vB c1, vI i13] ∧
 ∀ (b4 : Nat), h_4 b4 = none → ∀ (h_5 : PHeap), h_5 = h_4.put b4 (.cells ⟨[vS l4, vB c1, vI i13]⟩ 89) →
 Raw Tryz.prog (execOp (rho [(54, vL a7 n7 k7), (62, vL (ad b4 0) 1 1)]) (mkO o17_4 30)) h_5 fun v_2 h_6 =>
 ∃ (a8 : OA) (n8 k8 : Nat), v_2 = vL a8 n8 k8 ∧
 ∃ (m6 : Nat), m6 < m4 ∧ I_2 m6 (IntKind.i64.wrap (i10 + 1)) a6 n6 k6 l3 i11 i12 a8 n8 k8 h_6 ∧
 tv [vL none 0 0, vS [], vI 0, vI 0, vL none 0 0] ∧ tv [vL a1 n1 ew17k1, vS l1, vI i1, vI i2, vL a2 n2 ew17k2] ∧ True)
 (Q (vA [vL a6 n6 k6, vS l3, vI i11, vI i12, vL a7 n7 k7]) h_4))
theorem T17 {a1 : OA} {n1 : Nat} {ew17k1 : Nat} {l1 : Bs} {i1 : Int} {i2 : Int} {a2 : OA} {n2 : Nat} {ew17k2 : Nat} {h : PHeap} {Q : Value → PHeap → Prop} (hR : R17 a1 n1 ew17k1 l1 i1 i2 a2 n2 ew17k2 h Q) : Tri Tryz.prog 17 [vA [vL a1 n1 ew17k1, vS l1, vI i1, vI i2, vL a2 n2 ew17k2]] h Q :=
 tri_of_dn mixed Tryz.func17 rfl (by kernel_rfl) low17 (rs := [.cell 2 true 5]) (by kernel_rfl) rfl (Eq.mpr (by kernel_rfl : dnF Tryz.prog Tryz.f17.ntmps d17 [.cell 2 true 5] [vA [vL a1 n1 ew17k1, vS l1, vI i1, vI i2, vL a2 n2 ew17k2]] h Q = R17 a1 n1 ew17k1 l1 i1 i2 a2 n2 ew17k2 h Q) hR)
end Go.Proofs.D
namespace Go.As
theorem sumN_le : ∀ {ls : List Lb}, (∀ l ∈ ls, l.name.length ≤ 60) → sumN ls ≤ 62 * ls.length
 | [], _ => by simp [sumN]
 | l :: ls, h => by
   have ih := sumN_le (ls := ls) fun x hx => h x (List.mem_cons_of_mem _ hx)
   have := h l (List.mem_cons_self ..)
   unfold sumN at ih ⊢
   simp only [List.map_cons, List.sum_cons, List.length_cons]
   omega
end Go.As
namespace Go.Proofs.D
open Go Go.Den Go.As
set_option maxRecDepth 100000
attribute [local irreducible] IntKind.wrap Tri
theorem und29 : Tryz.prog.underlying 29 = some (.slice 57) := rfl
theorem elem57 : ElemT 57 4 := ⟨_, _, rfl, rfl, rfl, rfl, by decide⟩
theorem LM.ins57 {h0 h : PHeap} {a : OA} {n c : Nat} {L : List Ins} (hM : LM 57 4 h0 h a n c (inL L)) : InAt h a L := by
 by_cases hL : L = []
 · exact .inl hL
 have hn : 0 < n := by
  have := hM.len
  cases L with
  | nil => exact absurd rfl hL
  | cons x L => simp [inL] at this; omega
 obtain ⟨b, rest, h1, h2, _⟩ := hM.open hn
 refine .inr ⟨b, 0, h1, fun j l hj => ?_⟩
 obtain ⟨b', h3, h4⟩ := hM.rowAt (j := j) (cs := insC l) (by simp [inL, hj])
 rw [h1] at h3; injection h3 with h3; injection h3 with h3
 subst h3; exact h4
section
variable {h : PHeap}
theorem of_t {a1 : OA} {k1 : Nat} {a2 : OA} {k2 : Nat} {p : Pg} (hI : InAt h a1 p.code) (hL : LbAt h a2 p.labels) (hn : p.code.length ≤ 1000000) (hls : p.labels.length ≤ 1000000) :
 Tri Tryz.prog 17 [PV a1 k1 a2 k2 p] h fun v h' => Ext h h' ∧ ∃ a3 k3 a4 k4, v = PV a3 k3 a4 k4 p ∧ PgAt h' a3 k3 a4 k4 p := by
 refine T17 ?_
 unfold R17
 refine ⟨fun m i a n k l z e a' n' k' h' => ∃ j : Nat, i = (j : Int) ∧ j + m = p.code.length ∧ n = j ∧ l = p.data ∧ z = p.zero ∧ e = p.entry ∧ a' = none ∧ n' = 0 ∧ k' = 0 ∧ Ext h h' ∧ LM 57 4 h h' a n k (inL (p.code.take j)), ⟨p.code.length, 0, rfl, by omega, rfl, rfl, rfl, rfl, rfl, rfl, rfl, Ext.refl _, LM.nil⟩, ?_⟩
 rintro m _ a j k _ _ _ _ _ _ h1 ⟨_, rfl, hjm, rfl, rfl, rfl, rfl, rfl, rfl, rfl, hx, hM⟩
 refine br_split (fun e => ?_) fun e => ?_
 · have hlt : j < p.code.length := by have := of_decide_eq_true e; omega
   have hg : p.code[j]? = some p.code[j] := by simp [hlt]
   have htk := List.take_append_getElem hlt
   generalize p.code[j] = x at *
   obtain ⟨bb, o, ha, hr⟩ := (hI.ext hx).get hg
   refine ⟨bb, o, ha, ⟨by omega, by omega⟩, _, _, _, _, (by rw [Int.toNat_natCast]; exact hr), ?_⟩
   intro b2 hb2 h2 hh2
   refine Raw.mono (LM.push und29 elem57 rfl rfl rfl rfl rfl hx hM hb2 hh2 rfl rfl (by omega)) ?_
   rintro _ h3 ⟨b3, cap, rfl, x3, hM3, _⟩
   refine ⟨_, _, _, rfl, m - 1, by omega, ⟨j + 1, by rw [wrap64 (by omega) (by omega)]; omega, by omega, rfl, rfl, rfl, rfl, rfl, rfl, rfl, x3, ?_⟩, rfl, rfl, trivial⟩
   rw [← htk]
   unfold inL at hM3 ⊢
   rw [List.map_append]
   exact hM3
 · have hj : j = p.code.length := by have := of_decide_eq_false e; omega
   subst hj
   rw [List.take_length] at hM
   refine ⟨fun m i a' n' k' l z e a'' n'' k'' h' => ∃ j : Nat, i = (j : Int) ∧ j + m = p.labels.length ∧ a' = a ∧ n' = p.code.length ∧ k' = k ∧ l = p.data ∧ z = p.zero ∧ e = p.entry ∧ n'' = j ∧ Ext h1 h' ∧ LM 89 3 h1 h' a'' n'' k'' ((p.labels.take j).map lbC), ⟨p.labels.length, 0, rfl, by omega, rfl, rfl, rfl, rfl, rfl, rfl, rfl, Ext.refl _, LM.nil⟩, ?_⟩
   rintro m _ _ _ _ _ _ _ a'' j k'' h2 ⟨_, rfl, hjm, rfl, rfl, rfl, rfl, rfl, rfl, rfl, hx2, hM2⟩
   refine br_split (fun e => ?_) fun e => ?_
   · have hlt : j < p.labels.length := by have := of_decide_eq_true e; omega
     have hg : p.labels[j]? = some p.labels[j] := by simp [hlt]
     have htk := List.take_append_getElem hlt
     generalize p.labels[j] = l at *
     obtain ⟨bb, o, ha, hr⟩ := (hL.ext (hx.trans hx2)).get hg
     refine ⟨bb, o, ha, ⟨by omega, by omega⟩, _, _, _, (by rw [Int.toNat_natCast]; exact hr), ?_⟩
     intro b2 hb2 h3 hh3
     refine Raw.mono (LM.push und30 elem89 rfl rfl rfl rfl rfl hx2 hM2 hb2 hh3 rfl rfl (by omega)) ?_
     rintro _ h4 ⟨b3, cap, rfl, x4, hM4, _⟩
     refine ⟨_, _, _, rfl, m - 1, by omega, ⟨j + 1, by rw [wrap64 (by omega) (by omega)]; omega, by omega, rfl, rfl, rfl, rfl, rfl, rfl, rfl, x4, ?_⟩, rfl, rfl, trivial⟩
     rw [← htk, List.map_append]
     exact hM4
   · have hj : j = p.labels.length := by have := of_decide_eq_false e; omega
     subst hj
     rw [List.take_length] at hM2
     exact ⟨hx.trans hx2, _, _, _, _, rfl, hM.ins57.ext hx2, hM2.lbs', hM.okN, hM2.okN⟩
end
theorem prints_tri {h : PHeap} (hO : OpTab h) (hM : MaxLen h) (hP : PowTab h) {a1 a2 : OA} {k1 k2 : Nat} {p : Pg} (hp : PIn h a1 k1 a2 k2 p) (hr : PRange p) : Tri Tryz.prog 11 [PV a1 k1 a2 k2 p] h fun v h' => v = vB true ∧ ∀ k o, h k = some o → h' k = some o := by
 refine T11 ?_
 unfold R11
 refine Tri.mono (short_t hp) ?_
 rintro v h1 ⟨x1, a3, k3, a4, k4, rfl, hI, hL⟩
 obtain ⟨s1, s2, s3⟩ := short_len p
 have hr := hr.short
 have hnm : ∀ l ∈ (shortP p).labels, l.name.length ≤ 60 := fun l hl => by
  obtain ⟨x, hx, rfl⟩ := List.mem_map.1 hl
  show (x.name.take 60).length ≤ 60
  rw [List.length_take]; omega
 generalize shortP p = q at *
 have hlen : checkP q = 0 → (joinL (printP q)).length ≤ 65536 := fun hc => by
  have := print_len (check_ok hc)
  have := sumN_le hnm
  omega
 refine ⟨_, _, _, _, _, _, _, _, _, rfl, ?_⟩
 refine Tri.mono (to_t hI hL (by omega) (by omega)) ?_
 rintro v h2 ⟨x2, a5, k5, a6, k6, rfl, hG⟩
 have x12 := x1.trans x2
 refine ⟨_, _, _, _, _, _, _, _, _, rfl, ?_⟩
 refine Tri.mono (print35_t (hO.ext x12) (hP.ext x12) hG (by omega) (by omega) (by omega) hr.off hr.ent fun hc => by have := hlen hc; omega) ?_
 rintro _ h3 ⟨rfl, x3⟩
 have hpv : ∃ (l4 : Bs) (i7 : Int), printV q = vT [vS l4, vI i7] ∧ (i7 = 0 → printS q = .ok l4) := by
  unfold printV
  cases hps : printS q with
  | error e =>
    refine ⟨[], e, rfl, fun he => ?_⟩
    exfalso
    unfold printS at hps
    split at hps
    · injection hps with hps; omega
    split at hps
    · injection hps with hps; omega
    · cases hps
  | ok s => exact ⟨s, 0, rfl, fun _ => rfl⟩
 obtain ⟨l4, i7, hv, hps⟩ := hpv
 refine ⟨l4, i7, hv, ?_⟩
 have x23 := x2.trans x3
 refine Tri.mono (rprint_t (k1 := k3) (k2 := k4) (hI.ext x23) (hL.ext x23) (by omega) (by omega) (by omega)) ?_
 rintro _ h4 ⟨rfl, x4⟩
 have x14 := (x12.trans x3).trans x4
 refine ⟨l4, i7, hv, ?_⟩
 refine Tri.mono (known_t (hO.ext x14) (hM.ext x14)) ?_
 rintro _ h5 ⟨rfl, x5⟩
 have x15 := x14.trans x5
 refine ⟨_, rfl, br_neg rfl (br_neg (by simp) (br_neg (by simp) (br_split (fun e => ⟨rfl, x15⟩) fun e => ?_)))⟩
 have e : i7 = 0 := by simpa using e
 have hpo := hps e
 have hpp : checkP q = 0 ∧ isBehind q = false ∧ l4 = joinL (printP q) := by
  unfold printS at hpo
  split at hpo
  · cases hpo
  rename_i g1
  split at hpo
  · cases hpo
  rename_i g2
  injection hpo with hpo
  exact ⟨Decidable.not_not.1 g1, by simpa using g2, hpo.symm⟩
 obtain ⟨g1, g2, rfl⟩ := hpp
 have hback := print_back g1 g2 (hlen g1)
 refine Tri.mono (asm_t (joinL (printP q)) (hO.ext x15) (hM.ext x15)) ?_
 intro v h6 hr2
 rw [hback] at hr2
 obtain ⟨x6, b1, j1, b2, j2, rfl, hI6, hL6, _, _⟩ := hr2
 refine ⟨_, _, _, _, _, _, _, _, _, _, _, rfl, br_pos rfl (br_pos rfl ?_)⟩
 refine Tri.mono (of_t hI6 hL6 (by omega) (by omega)) ?_
 rintro v h7 ⟨x7, b3, j3, b4, j4, rfl, hG7⟩
 refine ⟨_, _, _, _, _, _, _, _, _, rfl, rfl, ?_⟩
 have x37 := ((x4.trans x5).trans x6).trans x7
 refine Tri.mono (rsame_t hG7.ins hG7.lbs (hI.ext (x23.trans x37)) (hL.ext (x23.trans x37)) (by omega) (by omega)) ?_
 rintro _ h8 ⟨rfl, rfl⟩
 exact ⟨_, rfl, by simp, (x15.trans x6).trans x7⟩
end Go.Proofs.D
namespace Go.Fr
open Go Go.Den Go.ChangeShapes Go.WideShapes Go.RowKit Go.As Go.Proofs Go.ChangeAt Go.Joins
set_option maxRecDepth 100000
theorem pow_all {W : World} {rest : List (String × DataW Unit)} (h : laidMet Tryz.prog (("internal/strconv.uint64pow10", YteegmpghbhmekaaGreatDoor.Rows.laid_internal_strconv_uint64pow10) :: rest) W) : Go.Proofs.D.PowTab (all W) := by
 rw [show (YteegmpghbhmekaaGreatDoor.Rows.laid_internal_strconv_uint64pow10 : DataW Unit) = Lib.tabData .u64 Lib.pow10Tab by kernel_rfl] at h
 have h := Lib.tabIs_of_head (g := 2) (t := 217) (e := 178) (n := 20) (by kernel_rfl) (by kernel_rfl) (by kernel_rfl) (by kernel_rfl) (by kernel_rfl) (by kernel_rfl) h
 unfold Lib.TabIs World.var? at h
 rw [show Tryz.prog.globalNamed "internal/strconv.uint64pow10" = some 2 by kernel_rfl] at h
 simp only [Option.bind_some] at h
 unfold Go.Proofs.D.PowTab all
 cases hb : W.heap[2]? with
 | none => rw [hb] at h; simp at h
 | some o =>
   rw [hb] at h
   cases o with
   | cells c t z =>
     simp only [Option.some.injEq] at h
     exact ⟨t, z, by rw [h]⟩
   | _ => simp at h
section
variable {H : Type} {enc : TypeId × Value → H}
def insD (x : Ins) : DataW H := .agg [.lit (.int .i64 x.op), .lit (.int .i64 x.a), .lit (.int .i64 x.b), .lit (.int .i64 x.c)]
structure InsWf (x : Ins) : Prop where
 op : (Lit.int .i64 x.op).wf = true
 a : (Lit.int .i64 x.a).wf = true
 b : (Lit.int .i64 x.b).wf = true
 c : (Lit.int .i64 x.c).wf = true
theorem open_ins {W : World} {base : Nat} {r : Reach} {sp : Nat → Bool} {held : Bool} {v : Value} {d : DataW H} {p : List MemPlace} {b0 : Nat} (hv : Value.okWide Tryz.prog W r base 57 v) (h : DataW.Trod enc Tryz.prog W b0 sp held 57 v d p) :
 ∃ x : Ins, v = vA (Go.Proofs.D.insC x) ∧ d = insD x ∧ p = [] ∧ InsWf x := by
 have c3 : Tryz.prog.cellsOf 3 = 1 := by kernel_rfl
 have c57 : Tryz.prog.cellsOf 57 = 4 := by kernel_rfl
 obtain ⟨cs, rfl, hsz⟩ := okWide_struct Tryz.underlying57 hv
 obtain ⟨x0, x1, x2, x3, rfl⟩ := array4 (hsz.trans c57)
 obtain ⟨fuel, hf⟩ := h
 obtain ⟨y0, y1, y2, y3, n, hx, _, h0, h1, h2, h3⟩ := trod_struct4 Tryz.underlying57 hf
 simp only [c3] at h0 h1 h2 h3
 obtain ⟨n0, e0, rfl, w0⟩ := DataW.trod_int Tryz.underlying3 h0
 obtain ⟨n1, e1, rfl, w1⟩ := DataW.trod_int Tryz.underlying3 h1
 obtain ⟨n2, e2, rfl, w2⟩ := DataW.trod_int Tryz.underlying3 h2
 obtain ⟨n3, e3, rfl, w3⟩ := DataW.trod_int Tryz.underlying3 h3
 simp only [Value.cells, List.drop_zero, List.drop_succ_cons, List.take_succ_cons, List.take_zero, List.cons.injEq, and_true] at e0 e1 e2 e3
 subst e0; subst e1; subst e2; subst e3
 simp only [Prod.mk.injEq, List.append_nil] at hx
 exact ⟨⟨n0, n1, n2, n3⟩, rfl, hx.1, hx.2, w0, w1, w2, w3⟩
theorem shut_ins {W : World} {sp : Nat → Bool} {held : Bool} {b0 : Nat} {x : Ins} (hw : InsWf x) : DataW.Trod enc Tryz.prog W b0 sp held 57 (vA (Go.Proofs.D.insC x)) (insD x) [] := by
 have c3 : Tryz.prog.cellsOf 3 = 1 := by kernel_rfl
 have c57 : Tryz.prog.cellsOf 57 = 4 := by kernel_rfl
 have i : ∀ n : Int, (Lit.int .i64 n).wf = true → DataW.trod enc Tryz.prog W b0 sp held 1 3 [vI n] = some (.lit (.int .i64 n), []) := fun n hn => by
  simp [DataW.trod, Tryz.underlying3, hn]
 refine ⟨2, ?_⟩
 have := trod_struct4_mk (enc := enc) (w := W) (base := b0) (spare := sp) (held := held) (n := 1) (cs := Go.Proofs.D.insC x) Tryz.underlying57 (by rw [c57]; rfl) (y0 := (.lit (.int .i64 x.op), [])) (y1 := (.lit (.int .i64 x.a), [])) (y2 := (.lit (.int .i64 x.b), [])) (y3 := (.lit (.int .i64 x.c), []))
  (by rw [c3]; exact i x.op hw.op) (by rw [c3]; exact i x.a hw.a) (by rw [c3]; exact i x.b hw.b) (by rw [c3]; exact i x.c hw.c)
 exact this
end
end Go.Fr
namespace Go.Fr
open Go Go.Den Go.ChangeShapes Go.WideShapes Go.RowKit Go.ChangeAt
section
variable {H : Type} {enc : TypeId × Value → H} {P : Program}
theorem cell_kept {W W' : World} (hk : ∀ k, k < W.heap.size → W'.heap[k]? = W.heap[k]?) {a : Addr} {v : Value} (h : W.cell? a = some v) : W'.cell? a = some v := by
 have hlt : a.block < W.heap.size := by
  cases hb : W.heap[a.block]? with
  | none => unfold World.cell? at h; rw [hb] at h; split at h <;> first | (simp at h; done) | contradiction
  | some o => exact (Array.getElem?_eq_some_iff.1 hb).1
 unfold World.cell? at h ⊢
 rw [hk _ hlt]
 exact h
theorem open_u8s {W : World} {base : Nat} {t e : TypeId} {v : Value} {d : DataW H} {p : List MemPlace} (ht : P.underlying t = some (.slice e)) (he : P.underlying e = some (.int .u8)) (hc : P.cellsOf e = 1)
 (hval : Value.okWide P W .any base t v) (h : DataW.Trod enc P W 0 (fun _ => true) true t v d p) :
 ∃ (a : Option Addr) (c : Nat) (l : List Nat), v = .slice a l.length c ∧ (∀ x ∈ l, x < 256) ∧ (l = [] ∨ ∃ b o, a = some ⟨b, o, none⟩ ∧ ∀ (i x : Nat), l[i]? = some x → W.cell? ⟨b, o + i, none⟩ = some (.int .u8 x)) ∧
   ∀ (W' : World) (sp : Nat → Bool), (∀ k, k < W.heap.size → W'.heap[k]? = W.heap[k]?) → (∀ q ∈ p, sp q.block = true) → DataW.Trod enc P W' 0 sp true t v d p := by
 obtain ⟨a0, n0, c0, rfl⟩ := okWide_slice ht hval
 obtain ⟨fuel, hf⟩ := h
 rcases open_ints ht he hc hf with ⟨hcs, hx⟩ | ⟨a, len, cap, zs, hcs, hba, hl, hm, hz, hx, hcell, hwz⟩
 · simp [Value.cells] at hcs
   obtain ⟨rfl, rfl, rfl⟩ := hcs
   simp only [Prod.mk.injEq] at hx
   obtain ⟨rfl, rfl⟩ := hx
   exact ⟨none, 0, [], rfl, fun x hx => (by cases hx), .inl rfl, fun W' sp _ _ => shut_slice_nil ht⟩
 · simp [Value.cells] at hcs
   obtain ⟨rfl, rfl, rfl⟩ := hcs
   simp only [Prod.mk.injEq] at hx
   obtain ⟨rfl, rfl⟩ := hx
   simp only [if_true] at hz
   have hwf : ∀ n ∈ zs, 0 ≤ n ∧ n ≤ 255 := fun n hn => by simpa [Lit.wf, IntKind.min, IntKind.max, IntKind.signed, IntKind.bits] using hwz n hn
   have hlen : ((zs.take n0).map Int.toNat).length = n0 := by simp; omega
   refine ⟨some a, c0, (zs.take n0).map Int.toNat, by rw [hlen], fun x hx => ?_, ?_, fun W' sp hk hsp => ?_⟩
   · obtain ⟨n, hn, rfl⟩ := List.mem_map.1 hx
     have := hwf n (List.mem_of_mem_take hn)
     omega
   · by_cases h0 : n0 = 0
     · left; subst h0; simp
     right
     obtain ⟨ab, ao, spot⟩ := a
     have hspot : spot = none := by simpa [Addr.add] using World.cell?_spot (hcell 0 (by omega))
     subst hspot
     refine ⟨ab, ao, rfl, fun i x hx => ?_⟩
     have hi : i < n0 := by rw [← hlen]; exact (List.getElem?_eq_some_iff.1 hx).1
     have hci := hcell i (by omega)
     rw [Addr.add_lit] at hci
     rw [hci]
     have e1 : zs.getD i 0 = zs[i]'(by omega) := by simp [List.getD, List.getElem?_eq_getElem (show i < zs.length by omega)]
     have e2 : x = (zs[i]'(by omega)).toNat := by
      rw [List.getElem?_map, List.getElem?_take, if_pos hi, List.getElem?_eq_getElem (show i < zs.length by omega)] at hx
      simpa using hx.symm
     have := hwf (zs[i]'(by omega)) (List.getElem_mem _)
     rw [e1, e2]
     congr 2
     omega
   · refine ⟨2, ?_⟩
     have := shut_ints (enc := enc) (P := P) (w := W') (base := 0) (spare := sp) (held := true) 0 ht he hc (a := a) (len := n0) (cap := c0) (zs := zs) (Nat.zero_le _) hl hm (by
      by_cases h0 : c0 = 0
      · split <;> omega
      · have : sp a.block = true := hsp (.cell a.block (a.off + 0)) (by simp only [MemPlace.row, List.mem_map, List.mem_range]; exact ⟨0, by omega, rfl⟩)
        rw [if_pos this]; exact hz) (fun i hi => cell_kept hk (hcell i hi)) hwz
     exact this
end
def two (w : World) (b c : Nat) : PHeap := fun k => if k = b ∨ k = c then w.heap[k]? else none
theorem two_sub (w : World) (b c : Nat) : Sub w (two w b c) := fun k o hk => by
 unfold two at hk; split at hk
 · exact hk
 · cases hk
theorem two_one (w : World) (b c : Nat) : ∀ k o, one w b k = some o → two w b c k = some o := fun k o hk => by
 unfold one at hk; unfold two
 split at hk
 · rename_i e; subst e; rw [if_pos (.inl rfl)]; exact hk
 · cases hk
theorem two_cell {w : World} {b c i : Nat} {v : Value} (h : w.cell? ⟨c, i, none⟩ = some v) : (two w b c).cell c i = some v := by
 have := one_cell h
 unfold PHeap.cell at this ⊢
 have e : two w b c c = one w c c := by unfold two one; rw [if_pos (.inr rfl), if_pos rfl]
 rw [e]; exact this
end Go.Fr
namespace Go.Fr
open Go Go.Den Go.ChangeShapes Go.WideShapes Go.RowKit Go.ChangeAt
section
variable {H : Type} {enc : TypeId × Value → H} {P : Program} {W W' : World}
theorem same_kept (hk : ∀ k, k < W.heap.size → W'.heap[k]? = W.heap[k]?) {p : MemPlace} (hlt : p.block < W.heap.size) : W.sameAt W' p := by
 cases p with
 | cell b off =>
   have hb : W'.heap[b]? = W.heap[b]? := hk b hlt
   show W'.cell? ⟨b, off, none⟩ = W.cell? ⟨b, off, none⟩
   unfold World.cell?
   rw [hb]
 | map b => exact hk b hlt
theorem carryAll {sp : Nat → Bool} : ∀ {ts : List TypeId} {vs : List Value} {ds : List (DataW H)} {ps : List MemPlace}, DataW.TrodAll enc P W 0 sp true ts vs ds ps → (∀ p ∈ ps, W.sameAt W' p) → DataW.TrodAll enc P W' 0 sp true ts vs ds ps
 | [], [], [], _, h, _ => h
 | _ :: _, _ :: _, _ :: _, _, ⟨p, q, ⟨n, h1⟩, h2, e⟩, hs => ⟨p, q, ⟨n, DataW.trod_carry n _ _ _ h1 (fun x hx => hs x (by rw [e]; exact List.mem_append_left _ hx))⟩, carryAll h2 (fun x hx => hs x (by rw [e]; exact List.mem_append_right _ hx)), e⟩
theorem again (hl : laidOutB P = true) (hm : mapsRowed P = true) (hz : ∀ t e, t < P.types.size → P.underlying t = some (.slice e) → 0 < P.cellsOf e) {ts : List TypeId} (hT : ∀ t ∈ ts, t < P.types.size) {vs : List Value} {ds : List (DataW H)} {ps : List MemPlace}
 (hA : DataW.TrodAll enc P W 0 (fun _ => true) true ts vs ds ps) (hk : ∀ k, k < W.heap.size → W'.heap[k]? = W.heap[k]?) (hlt : ∀ p ∈ ps, p.block < W.heap.size) {sp : Nat → Bool} (hsp : ∀ p ∈ ps, sp p.block = true) :
 DataW.TrodAll enc P W' 0 sp true ts vs ds ps :=
 carryAll (hA.respare (kids_rows hl hm) hz hT hsp) fun p hp => same_kept hk (hlt p hp)
end
end Go.Fr
namespace Go.Fr
open Go Go.Den Go.ChangeShapes Go.WideShapes Go.RowKit Go.As Go.Proofs Go.ChangeAt Go.Joins Go.Deep
set_option maxRecDepth 100000
section
variable {H : Type} {enc : TypeId × Value → H} {P : Program} {W : World}
theorem cells_row {base b o n : Nat} {cs : List Value} (h : W.cells? base ⟨b, o, none⟩ n = some cs) : (all W).row b o cs ∧ cs.length = n := by
 obtain ⟨_, hlen, hcell⟩ := World.cells?_some h
 refine ⟨Go.Den.row_of cs o fun j v hj => ?_, hlen⟩
 have hlt : j < n := by rw [← hlen]; exact (List.getElem?_eq_some_iff.1 hj).1
 have := hcell j hlt
 rw [hj] at this
 refine all_cell (this.symm ▸ ?_)
 cases j <;> rfl
theorem open_rows {R : Type} {f : R → List Value} {good : R → Prop} {t e : TypeId} {k fuel : Nat} {a : Option Addr} {n c : Nat} {x : DataW H × List MemPlace} (ht : P.underlying t = some (.slice e)) (hc : P.cellsOf e = k)
 (hs : ∀ q, a = some q → q.spot = none) (hnil : a = none → n = 0 ∧ c = 0) (h : DataW.trod enc P W 0 (fun _ => true) true fuel t [.slice a n c] = some x)
 (hrow : ∀ m cs y, cs.length = k → DataW.trod enc P W 0 (fun _ => true) true m e cs = some y → ∃ r, cs = f r ∧ good r) :
 ∃ L : List R, n = L.length ∧ okA a n c ∧ n ≤ c ∧ (L = [] ∨ ∃ b o, a = some ⟨b, o, none⟩ ∧ ∀ j r, L[j]? = some r → (all W).row b (o + j * k) (f r)) ∧ ∀ r ∈ L, good r := by
 rcases open_slice ht h with ⟨hcs, _⟩ | ⟨q, len, cap, m, fu, D, Pl, hcs, _, hl, _, hm, _, hcell⟩
 · simp only [List.cons.injEq, Value.slice.injEq, and_true] at hcs
   obtain ⟨rfl, rfl, rfl⟩ := hcs
   exact ⟨[], rfl, .inr ⟨rfl, rfl, rfl⟩, Nat.le_refl _, .inl rfl, fun r hr => by cases hr⟩
 · simp only [List.cons.injEq, Value.slice.injEq, and_true] at hcs
   obtain ⟨rfl, rfl, rfl⟩ := hcs
   obtain ⟨b, o, sp⟩ := q
   obtain rfl : sp = none := hs _ rfl
   simp only [if_true] at hm
   subst hm
   have key : ∀ i, i < n → ∃ r, (all W).row b (o + i * k) (f r) ∧ good r := fun i hi => by
    obtain ⟨cs', h1, h2⟩ := hcell i (by omega)
    rw [hc] at h1
    have ha : (Addr.add ⟨b, o, none⟩ (i * k)) = ⟨b, o + i * k, none⟩ := by unfold Addr.add; split <;> simp_all
    rw [ha] at h1
    obtain ⟨g1, g2⟩ := cells_row h1
    obtain ⟨r, rfl, hg⟩ := hrow _ _ _ g2 h2
    exact ⟨r, g1, hg⟩
   have hL : ∀ m, m ≤ n → ∃ L : List R, L.length = m ∧ (∀ j r, L[j]? = some r → (all W).row b (o + j * k) (f r)) ∧ ∀ r ∈ L, good r := fun m => by
    induction m with
    | zero => exact fun _ => ⟨[], rfl, fun j r hj => by simp at hj, fun r hr => by cases hr⟩
    | succ m ih =>
      intro hm
      obtain ⟨L, h1, h2, h3⟩ := ih (by omega)
      obtain ⟨r, g1, g2⟩ := key m (by omega)
      refine ⟨L ++ [r], by simp [h1], fun j r' hj => ?_, fun r' hr' => ?_⟩
      · rw [List.getElem?_append] at hj
        split at hj
        · exact h2 j r' hj
        · rename_i hlt
          have : j = L.length := by
           have := (List.getElem?_eq_some_iff.1 hj).1
           simp at this; omega
          subst this
          simp at hj
          subst hj
          rw [h1]; exact g1
      · rcases List.mem_append.1 hr' with h | h
        · exact h3 r' h
        · simp at h; subst h; exact g2
   obtain ⟨L, h1, h2, h3⟩ := hL n (Nat.le_refl _)
   exact ⟨L, h1.symm, .inl ⟨b, o, rfl⟩, hl, .inr ⟨b, o, rfl, h2⟩, h3⟩
end
section
variable {H : Type} {enc : TypeId × Value → H} {W : World}
theorem slice_ok {P : Program} {r : Reach} {base : Nat} {t e : TypeId} {v : Value} (ht : P.underlying t = some (.slice e)) (h : Cell.okWide P W r base t v) :
 ∃ a n c, v = .slice a n c ∧ (∀ q, a = some q → q.spot = none) ∧ (a = none → n = 0 ∧ c = 0) := by
 unfold Cell.okWide at h
 rw [ht] at h
 unfold Cell.ok at h
 rw [ht] at h
 cases v with
 | slice a n c =>
   refine ⟨a, n, c, rfl, ?_, ?_⟩
   · rintro q rfl
     exact h.2.2.2.1
   · rintro rfl
     cases n with
     | zero => cases c with
       | zero => exact ⟨rfl, rfl⟩
       | succ c => exact h.elim
     | succ n => exact h.elim
 | _ => exact h.elim
theorem row_ins {base : Nat} {sp : Nat → Bool} {held : Bool} {m : Nat} {cs : List Value} {y : DataW H × List MemPlace} (hl : cs.length = 4) (h : DataW.trod enc Tryz.prog W base sp held m 57 cs = some y) : ∃ x : Ins, cs = Go.Proofs.D.insC x ∧ True := by
 have c3 : Tryz.prog.cellsOf 3 = 1 := by kernel_rfl
 match cs, hl with
 | [x0, x1, x2, x3], _ =>
   obtain ⟨y0, y1, y2, y3, n, hx, _, h0, h1, h2, h3⟩ := trod_struct4 Tryz.underlying57 h
   simp only [c3] at h0 h1 h2 h3
   obtain ⟨n0, e0, rfl, w0⟩ := DataW.trod_int Tryz.underlying3 h0
   obtain ⟨n1, e1, rfl, w1⟩ := DataW.trod_int Tryz.underlying3 h1
   obtain ⟨n2, e2, rfl, w2⟩ := DataW.trod_int Tryz.underlying3 h2
   obtain ⟨n3, e3, rfl, w3⟩ := DataW.trod_int Tryz.underlying3 h3
   simp only [List.drop_zero, List.drop_succ_cons, List.take_succ_cons, List.take_zero, List.cons.injEq, and_true] at e0 e1 e2 e3
   subst e0; subst e1; subst e2; subst e3
   exact ⟨⟨n0, n1, n2, n3⟩, rfl, trivial⟩
theorem wf64 {n : Int} (h : (Lit.int .i64 n).wf = true) : -9223372036854775808 ≤ n ∧ n ≤ 9223372036854775807 := by
 simpa [Lit.wf, IntKind.min, IntKind.max, IntKind.signed, IntKind.bits] using h
theorem row_lb {base : Nat} {sp : Nat → Bool} {held : Bool} {m : Nat} {cs : List Value} {y : DataW H × List MemPlace} (hl : cs.length = 3) (h : DataW.trod enc Tryz.prog W base sp held m 89 cs = some y) : ∃ x : Lb, cs = Go.Proofs.D.lbC x ∧ (-9223372036854775808 ≤ x.off ∧ x.off ≤ 9223372036854775807) := by
 have c3 : Tryz.prog.cellsOf 3 = 1 := by kernel_rfl
 have c4 : Tryz.prog.cellsOf 4 = 1 := by kernel_rfl
 have c9 : Tryz.prog.cellsOf 9 = 1 := by kernel_rfl
 match cs, hl with
 | [x0, x1, x2], _ =>
   obtain ⟨y0, y1, y2, n, hx, _, h0, h1, h2⟩ := trod_struct3 Tryz.underlying89 h
   simp only [c3, c4, c9] at h0 h1 h2
   obtain ⟨s, e0, rfl, w0⟩ := DataW.trod_string Tryz.underlying9 h0
   obtain ⟨n1, e1, rfl⟩ := DataW.trod_bool Tryz.underlying4 h1
   obtain ⟨n2, e2, rfl, w2⟩ := DataW.trod_int Tryz.underlying3 h2
   simp only [List.drop_zero, List.drop_succ_cons, List.take_succ_cons, List.take_zero, List.cons.injEq, and_true] at e0 e1 e2
   subst e0; subst e1; subst e2
   exact ⟨⟨s.data.toList, n1, n2⟩, rfl, wf64 w2⟩
theorem open_prog {base : Nat} {v : Value} {d : DataW H} {p : List MemPlace} (hv : Value.okWide Tryz.prog W .any base 32 v) (h : DataW.Trod enc Tryz.prog W 0 (fun _ => true) true 32 v d p) :
 ∃ a1 k1 a2 k2 q, v = Go.Proofs.D.PV a1 k1 a2 k2 q ∧ Go.Proofs.D.PIn (all W) a1 k1 a2 k2 q ∧ Go.Proofs.D.PRange q := by
 have c3 : Tryz.prog.cellsOf 3 = 1 := by kernel_rfl
 have c9 : Tryz.prog.cellsOf 9 = 1 := by kernel_rfl
 have c29 : Tryz.prog.cellsOf 29 = 1 := by kernel_rfl
 have c30 : Tryz.prog.cellsOf 30 = 1 := by kernel_rfl
 have c57 : Tryz.prog.cellsOf 57 = 4 := by kernel_rfl
 have c89 : Tryz.prog.cellsOf 89 = 3 := by kernel_rfl
 unfold Value.okWide at hv
 rw [Tryz.underlying32] at hv
 obtain ⟨cs, rfl, hsz, ts, hts, _, hcell⟩ := hv
 have hts' : Tryz.prog.cellTypes Tryz.prog.depth 32 = some [29, 9, 3, 3, 30] := by kernel_rfl
 rw [hts'] at hts
 injection hts with hts
 subst hts
 have hsz : cs.size = 5 := hsz.trans (by kernel_rfl)
 obtain ⟨l⟩ := cs
 match l, hsz with
 | [x0, x1, x2, x3, x4], _ =>
   obtain ⟨u0, g0, k0⟩ := hcell 0 x0 rfl
   obtain ⟨u4, g4, k4⟩ := hcell 4 x4 rfl
   obtain rfl : u0 = 29 := by simpa using g0.symm
   obtain rfl : u4 = 30 := by simpa using g4.symm
   obtain ⟨a1, n1, k1, rfl, s1, z1⟩ := slice_ok Tryz.underlying29 k0
   obtain ⟨a2, n2, k2, rfl, s2, z2⟩ := slice_ok Tryz.underlying30 k4
   obtain ⟨fuel, hf⟩ := h
   obtain ⟨xs, n, _, _, _, hlen, hfl⟩ := DataW.trod_struct Tryz.underlying32 hf
   match xs, hlen with
   | [y0, y1, y2, y3, y4], _ =>
     have f0 : DataW.trod enc Tryz.prog W 0 (fun _ => true) true n 29 (([Value.slice a1 n1 k1, x1, x2, x3, Value.slice a2 n2 k2].drop 0).take (Tryz.prog.cellsOf 29)) = some y0 := hfl 0 _ rfl
     rw [c29] at f0
     replace f0 : DataW.trod enc Tryz.prog W 0 (fun _ => true) true n 29 [.slice a1 n1 k1] = some y0 := f0
     have f1 : DataW.trod enc Tryz.prog W 0 (fun _ => true) true n 9 (([Value.slice a1 n1 k1, x1, x2, x3, Value.slice a2 n2 k2].drop 1).take (Tryz.prog.cellsOf 9)) = some y1 := hfl 1 _ rfl
     rw [c9] at f1
     replace f1 : DataW.trod enc Tryz.prog W 0 (fun _ => true) true n 9 [x1] = some y1 := f1
     have f2 : DataW.trod enc Tryz.prog W 0 (fun _ => true) true n 3 (([Value.slice a1 n1 k1, x1, x2, x3, Value.slice a2 n2 k2].drop 2).take (Tryz.prog.cellsOf 3)) = some y2 := hfl 2 _ rfl
     rw [c3] at f2
     replace f2 : DataW.trod enc Tryz.prog W 0 (fun _ => true) true n 3 [x2] = some y2 := f2
     have f3 : DataW.trod enc Tryz.prog W 0 (fun _ => true) true n 3 (([Value.slice a1 n1 k1, x1, x2, x3, Value.slice a2 n2 k2].drop 3).take (Tryz.prog.cellsOf 3)) = some y3 := hfl 3 _ rfl
     rw [c3] at f3
     replace f3 : DataW.trod enc Tryz.prog W 0 (fun _ => true) true n 3 [x3] = some y3 := f3
     have f4 : DataW.trod enc Tryz.prog W 0 (fun _ => true) true n 30 (([Value.slice a1 n1 k1, x1, x2, x3, Value.slice a2 n2 k2].drop 4).take (Tryz.prog.cellsOf 30)) = some y4 := hfl 4 _ rfl
     rw [c30] at f4
     replace f4 : DataW.trod enc Tryz.prog W 0 (fun _ => true) true n 30 [.slice a2 n2 k2] = some y4 := f4
     obtain ⟨s, e1, _, _⟩ := DataW.trod_string Tryz.underlying9 f1
     obtain ⟨z, e2, _, wz⟩ := DataW.trod_int Tryz.underlying3 f2
     obtain ⟨en, e3, _, we⟩ := DataW.trod_int Tryz.underlying3 f3
     simp only [List.cons.injEq, and_true] at e1 e2 e3
     subst e1; subst e2; subst e3
     obtain ⟨C, rfl, ok1, le1, in1, _⟩ := open_rows (f := Go.Proofs.D.insC) (good := fun _ => True) Tryz.underlying29 c57 s1 z1 f0 (fun m cs y hl hh => row_ins hl hh)
     obtain ⟨L, rfl, ok2, le2, in2, gd2⟩ := open_rows (f := Go.Proofs.D.lbC) (good := fun x => -9223372036854775808 ≤ x.off ∧ x.off ≤ 9223372036854775807) Tryz.underlying30 c89 s2 z2 f4 (fun m cs y hl hh => row_lb hl hh)
     exact ⟨a1, k1, a2, k2, ⟨C, s.data.toList, z, en, L⟩, rfl, ⟨in1, in2, ok1, le1⟩, ⟨wf64 we, gd2⟩⟩
end
end Go.Fr
