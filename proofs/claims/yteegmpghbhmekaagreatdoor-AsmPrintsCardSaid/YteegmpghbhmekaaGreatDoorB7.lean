import Derived.Test.YteegmpghbhmekaaGreatDoorB6
import Derived.Sort.Grow
import Derived.Deep.Draws
import Derived.Shelf.SlSortCmp.WholeK
import Derived.Shelf.SlSortCmp.NoneTotal
import Derived.Laws.IdiomRangeMap
import Derived.WalkKit
import Derived.ProofKit
import Derived.OpenShut
import Derived.Deep.DeepHandedRow
import Derived.Test.YteegmpghbhmekaaGreatDoorCards
import Derived.Lib.LaidTab
import Derived.Shelf.Vars
import Derived.Stop.LaidErr
import Derived.MakeChecks
namespace Go.Proofs.D
open Go Go.Den Go.As
set_option maxRecDepth 100000
attribute [local irreducible] IntKind.wrap Tri
theorem und69 : Tryz.prog.underlying 69 = some (.map 9 122) := rfl
def stV (c d : Bool) (lo hi : Int) (t : Bool) (f : Nat) (y : List Value) : Value := vA [vB c, vB d, vI lo, vI hi, vB t, vF f [] y]
def dirV (n : Bytes) : Option Value :=
 if n == dSpace then some (stV false true 1 1 false 83 []) else if n == dText then some (stV false true 1 1 true 82 []) else if n == dByte then some (stV false true 1 65536 false 81 [])
 else if n == dWord then some (stV false true 1 65536 false 80 []) else if n == dZero then some (stV true true 1 1 false 79 []) else if n == dEntry then some (stV true true 1 1 false 78 [])
 else if n == dData then some (stV true true 0 0 false 77 []) else if n == dCode then some (stV true true 0 0 false 76 []) else none
def opV (op c : Nat) : Value := stV true false (operandsN op) (operandsN op) false 85 [vP c 0]
def StGet (h : PHeap) (r : Option Value) (n : Bytes) : Prop :=
 match wordsB.findIdx? (· == n) with
 | some op => ∃ c, r = some (opV op c) ∧ h.cell c 0 = some (vI (op : Int))
 | none => r = dirV n
def StOk (h : PHeap) (mS : Nat) : Prop := ∃ L ck, h mS = some (.map ⟨ents L⟩ ck) ∧ ∀ n, StGet h (mapGet L n) n
theorem StOk.ext {h h' : PHeap} {mS : Nat} (x : Ext h h') (hs : StOk h mS) : StOk h' mS := by
 obtain ⟨L, ck, h1, h2⟩ := hs
 refine ⟨L, ck, x _ _ h1, fun n => ?_⟩
 have := h2 n
 unfold StGet at *
 cases hf : wordsB.findIdx? (· == n) with
 | none => rw [hf] at this; exact this
 | some op =>
   rw [hf] at this
   obtain ⟨c, h3, h4⟩ := this
   exact ⟨c, h3, cell_ext (fun ob => x c ob) h4⟩
theorem word_find (k : Nat) (hk : k < 27) : wordsB.findIdx? (· == wordT k) = some k := (word_all ⟨k, hk⟩).2.2.1
theorem find_word {n : Bytes} {op : Nat} (h : wordsB.findIdx? (· == n) = some op) : op < 27 ∧ wordT op = n := by
 rw [List.findIdx?_eq_some_iff_getElem] at h
 obtain ⟨h1, h2, _⟩ := h
 have h1' : op < 27 := h1
 refine ⟨h1', ?_⟩
 have h3 := eq_of_beq h2
 rw [← h3]
 unfold wordT
 rw [List.getD_eq_getElem?_getD, List.getElem?_eq_getElem h1]; rfl
def StP (h : PHeap) (m i : Nat) : Prop := ∃ L ck, h m = some (.map ⟨ents L⟩ ck) ∧ (∀ k, k < i → ∃ c, c ≠ m ∧ mapGet L (wordT k) = some (opV k c) ∧ h.cell c 0 = some (vI (k : Int))) ∧ ∀ n, (∀ k, k < i → wordT k ≠ n) → mapGet L n = dirV n
theorem word_inj {j k : Nat} (hj : j < 27) (hk : k < 27) (h : wordT j = wordT k) : j = k := by
 have h1 := word_find j hj
 rw [h, word_find k hk] at h1
 injection h1 with h1; exact h1.symm
theorem statements_t {h : PHeap} (hO : OpTab h) : Tri Tryz.prog 37 [] h fun v h' => ∃ m, v = vM m ∧ Ext h h' ∧ StOk h' m := by
 refine T37 ?_
 unfold R37
 refine Raw.mono (raw_makeMap (Q := fun v h' => ∃ m, v = vM m ∧ h m = none ∧ h' = h.put m (.map ⟨ents []⟩ 0)) fun b hb => ⟨b, rfl, hb, rfl⟩) ?_
 rintro _ h1 ⟨m, rfl, hm, rfl⟩
 refine ⟨m, rfl, ?_⟩
 have step : ∀ {h1 : PHeap} {L : List (Bytes × Value × Nat)} {ck : Nat} {C : PHeap → Prop} {op : Op} {ρ : Operand → Value} {k : Bytes} {x : Value} {mo ko vo : Operand}, (op = .mapUpdate 69 mo ko vo ∨ op = .insert 69 mo ko vo) → ρ mo = vM m → ρ ko = vS k → ρ vo = x → h1 m = some (.map ⟨ents L⟩ ck) →
  (∀ ck', C (h1.put m (.map ⟨ents (mapSet k x ck L)⟩ ck'))) → Raw Tryz.prog (execOp ρ (mkO op 0)) h1 fun v h2 => v = vT [] ∧ C h2 := by
  intro h1 L ck C op ρ k x mo ko vo hop h1' h2' h3' hh hC
  refine Raw.mono (raw_updS hop und69 rfl h1' h2' h3' hh) ?_
  rintro _ h2 ⟨rfl, ck', rfl, _⟩
  exact ⟨rfl, hC ck'⟩
 refine step (.inr rfl) rfl rfl rfl (put_same _ _ _) fun ck1 => ?_
 refine step (.inr rfl) rfl rfl rfl (put_same _ _ _) fun ck2 => ?_
 refine step (.inr rfl) rfl rfl rfl (put_same _ _ _) fun ck3 => ?_
 refine step (.inr rfl) rfl rfl rfl (put_same _ _ _) fun ck4 => ?_
 refine step (.inr rfl) rfl rfl rfl (put_same _ _ _) fun ck5 => ?_
 refine step (.inr rfl) rfl rfl rfl (put_same _ _ _) fun ck6 => ?_
 refine step (.inr rfl) rfl rfl rfl (put_same _ _ _) fun ck7 => ?_
 refine step (.inr rfl) rfl rfl rfl (put_same _ _ _) fun ck8 => ?_
 simp only [put_put]
 generalize hL : mapSet [46, 115, 112, 97, 99, 101] _ ck7 _ = L
 have hget : ∀ n, mapGet L n = dirV n := by
  intro n
  rw [← hL]
  simp only [mapGet_set]
  rfl
 refine ⟨fun mm i h' => ∃ j : Nat, i = (j : Int) ∧ j + mm = 27 ∧ Ext h h' ∧ StP h' m j, ⟨27, 0, rfl, by omega, Ext.put hm _, L, ck8, put_same _ _ _, fun k hk => absurd hk (Nat.not_lt_zero k), fun n _ => hget n⟩, ?_⟩
 rintro mm _ h1 ⟨j, rfl, hjm, hx, L, ck, hm1, hops, hdir⟩
 refine br_split (fun e => ?_) fun e => ?_
 · have hlt : j < 27 := by have := of_decide_eq_true e; omega
   intro b1 hb1 h2 hh2
   refine ⟨_, _, _, Put.at hh2, ⟨by simp, Nat.zero_le _⟩, ?_⟩
   intro h3 hh3
   have hh3' : h3 = h1.put b1 (.cells ⟨[vI (j : Int)]⟩ 3 (0, 0)) := by rw [hh3, hh2, put_put]; rfl
   clear hh3 hh2 h2
   have x3 := Put.ext hh3' hb1
   have hO3 := hO.ext (hx.trans x3)
   refine ⟨_, cell_of (Put.at hh3') 0, ?_⟩
   refine Tri.mono (nops_t h3 hO3 hlt) ?_
   rintro _ h3 ⟨rfl, rfl⟩
   refine ⟨_, rfl, _, cell_of (Put.at hh3') 0, ?_⟩
   refine Tri.mono (opword_t h3 hO3 hlt) ?_
   rintro _ h3 ⟨rfl, rfl⟩
   refine ⟨_, rfl, ?_⟩
   have hm3 : h3 m = some (.map ⟨ents L⟩ ck) := x3 _ _ hm1
   have hbm : b1 ≠ m := fun e => by subst e; rw [hb1] at hm1; cases hm1
   refine Raw.mono (raw_updS (x := opV j b1) (.inl rfl) und69 rfl rfl rfl rfl hm3) ?_
   rintro _ h4 ⟨rfl, ck', rfl, _⟩
   have hxm : Ext h (h3.put m (.map ⟨ents (mapSet (wordT j) (opV j b1) ck L)⟩ ck')) := fun q o hq => by
    rw [put_ne fun e => by subst e; rw [hm] at hq; cases hq]; exact (hx.trans x3) q o hq
   refine ⟨rfl, mm - 1, by omega, ⟨j + 1, ?_, by omega, hxm, _, ck', put_same _ _ _, fun k hk => ?_, fun n hn => ?_⟩, trivial⟩
   · rw [wrap64 (by omega) (by omega)]; omega
   · by_cases hkj : k = j
     · subst hkj
       refine ⟨b1, hbm, ?_, ?_⟩
       · rw [mapGet_set]; simp
       · rw [cell_eq (put_ne hbm)]; exact cell_of (Put.at hh3') 0
     · obtain ⟨c, c1, c2, c3⟩ := hops k (by omega)
       refine ⟨c, c1, ?_, ?_⟩
       · rw [mapGet_set, if_neg]
         · exact c2
         · intro he
           exact hkj (word_inj (by omega) hlt (by simpa using he))
       · rw [cell_eq (put_ne c1)]; exact cell_ext (fun ob => x3 c ob) c3
   · rw [mapGet_set, if_neg]
     · exact hdir n fun k hk => hn k (by omega)
     · intro he
       exact hn j (by omega) (by have : n = wordT j := by simpa using he
                                 exact this.symm)
 · have hj : j = 27 := by have := of_decide_eq_false e; omega
   subst hj
   refine ⟨m, rfl, hx, L, ck, hm1, fun n => ?_⟩
   unfold StGet
   cases hf : wordsB.findIdx? (· == n) with
   | some op =>
     obtain ⟨h1, h2⟩ := find_word hf
     obtain ⟨c, _, h3, h4⟩ := hops op h1
     rw [h2] at h3
     exact ⟨c, h3, h4⟩
   | none =>
     refine hdir n fun k hk he => ?_
     have := word_find k hk
     rw [he, hf] at this; cases this
end Go.Proofs.D
namespace Go.As
theorem do_ok {a a' : St} {n : Bytes} {l : List Tk} {c d t : Bool} {lo hi : Nat} {X : R St} (h : doS a n l c d lo hi t X = .ok a') : X = .ok a' ∧ a'.p.code.length ≤ 1024 ∧ a'.p.data.length ≤ 4096 ∧ ¬ (n = dEntry ∧ a.hasEntry = true) := by
 unfold doS at h
 split at h
 · cases h
 rename_i h1
 split at h
 · cases h
 split at h
 · cases h
 cases X with
 | error e => cases h
 | ok b =>
   have h : (if 1024 < b.p.code.length ∨ 4096 < b.p.data.length then (.error 9 : R St) else .ok b) = .ok a' := h
   split at h
   · cases h
   · injection h with h
     subst h
     refine ⟨rfl, by omega, by omega, ?_⟩
     rintro ⟨rfl, he⟩
     rw [he] at h1
     simp at h1
inductive StIs (a : St) (l : List Tk) : Bytes → Bool → Bool → Nat → Nat → Bool → R St → Prop where
 | op {n : Bytes} (op : Nat) (h : wordsB.findIdx? (· == n) = some op) : StIs a l n true false (operandsN op) (operandsN op) false (instrX a op l)
 | code : StIs a l dCode true true 0 0 false (.ok { a with inData := false })
 | data : StIs a l dData true true 0 0 false (.ok { a with inData := true })
 | entry : StIs a l dEntry true true 1 1 false (Go.Proofs.D.entryX a (l.getD 0 ⟨1, []⟩).text)
 | zero : StIs a l dZero true true 1 1 false (Go.Proofs.D.zeroX a (l.getD 0 ⟨1, []⟩).text)
 | word : StIs a l dWord false true 1 65536 false (wordsS a l)
 | byte : StIs a l dByte false true 1 65536 false (bytesS a l)
 | text : StIs a l dText false true 1 1 true (.ok { a with p := { a.p with data := a.p.data ++ (l.getD 0 ⟨1, []⟩).text } })
 | space : StIs a l dSpace false true 1 1 false (Go.Proofs.D.spaceX a (l.getD 0 ⟨1, []⟩).text)
theorem stmt_is {a : St} {n : Bytes} {l : List Tk} (ha : Lim a) (hl : l.length ≤ 65536) : (∃ c d lo hi t X, StIs a l n c d lo hi t X ∧ stmtS a n l = doS a n l c d lo hi t X) ∨ (wordsB.findIdx? (· == n) = none ∧ Go.Proofs.D.dirV n = none ∧ stmtS a n l = .error 11) := by
 cases hf : wordsB.findIdx? (· == n) with
 | some op => exact .inl ⟨_, _, _, _, _, _, .op op hf, stmt_op ha hf⟩
 | none =>
   by_cases h1 : n = dCode
   · subst h1; exact .inl ⟨_, _, _, _, _, _, .code, stmt_code ha⟩
   by_cases h2 : n = dData
   · subst h2; exact .inl ⟨_, _, _, _, _, _, .data, stmt_data ha⟩
   by_cases h3 : n = dEntry
   · subst h3; exact .inl ⟨_, _, _, _, _, _, .entry, stmt_entry ha⟩
   by_cases h4 : n = dZero
   · subst h4; exact .inl ⟨_, _, _, _, _, _, .zero, stmt_zero ha⟩
   by_cases h5 : n = dWord
   · subst h5; exact .inl ⟨_, _, _, _, _, _, .word, stmt_words ha hl⟩
   by_cases h6 : n = dByte
   · subst h6; exact .inl ⟨_, _, _, _, _, _, .byte, stmt_bytes ha hl⟩
   by_cases h7 : n = dText
   · subst h7; exact .inl ⟨_, _, _, _, _, _, .text, stmt_text ha⟩
   by_cases h8 : n = dSpace
   · subst h8; exact .inl ⟨_, _, _, _, _, _, .space, stmt_space ha⟩
   refine .inr ⟨rfl, ?_, ?_⟩
   · unfold Go.Proofs.D.dirV
     simp only [beq_iff_eq, if_neg h1, if_neg h2, if_neg h3, if_neg h4, if_neg h5, if_neg h6, if_neg h7, if_neg h8]
   · unfold stmtS
     rw [hf]
     simp only [if_neg (show ¬ (n = dCode ∨ n = dData) by rintro (h | h); exact h1 h; exact h2 h), if_neg h3, if_neg h4, if_neg (show ¬ (n = dWord ∨ n = dByte ∨ n = dText ∨ n = dSpace) by rintro (h | h | h | h); exact h5 h; exact h6 h; exact h7 h; exact h8 h)]
theorem StIs.lim {a a' : St} {n : Bytes} {l : List Tk} {c d t : Bool} {lo hi : Nat} {X : R St} (hS : StIs a l n c d lo hi t X) (ha : Lim a) (hX : X = .ok a') (h1 : a'.p.code.length ≤ 1024) (h2 : a'.p.data.length ≤ 4096) (h3 : ¬ (n = dEntry ∧ a.hasEntry = true)) : Lim a' ∧ a'.line = a.line := by
 have hu := ha.uses
 cases hS with
 | op op hf =>
   obtain ⟨g1, g2, g3, g4, g5, g6⟩ := instrX_ok hX
   exact ⟨⟨h1, h2, by rw [g3]; exact ha.labels, by rw [g1, g2, g4]; omega⟩, g5⟩
 | code => injection hX with hX; subst hX; exact ⟨⟨ha.code, ha.data, ha.labels, ha.uses⟩, rfl⟩
 | data => injection hX with hX; subst hX; exact ⟨⟨ha.code, ha.data, ha.labels, ha.uses⟩, rfl⟩
 | entry =>
   unfold Go.Proofs.D.entryX at hX
   obtain ⟨x, hv, hX⟩ := bind_ok hX
   have := Go.Proofs.D.val_fst hv
   injection hX with hX; subst hX
   have he : a.hasEntry = false := by
    cases e : a.hasEntry with
    | false => rfl
    | true => exact absurd ⟨rfl, e⟩ h3
   rw [he] at hu
   refine ⟨⟨ha.code, ha.data, ha.labels, ?_⟩, rfl⟩
   simp at hu ⊢; omega
 | zero =>
   unfold Go.Proofs.D.zeroX at hX
   obtain ⟨x, hv, hX⟩ := bind_ok hX
   injection hX with hX; subst hX
   exact ⟨⟨ha.code, ha.data, ha.labels, ha.uses⟩, rfl⟩
 | word =>
   obtain ⟨g1, g2, g3, g4, g5⟩ := words_code _ _ _ hX
   refine ⟨⟨h1, h2, by rw [g2]; exact ha.labels, ?_⟩, g4⟩
   rw [g1, g3]; omega
 | byte =>
   obtain ⟨g1, g2, g3, g4, g5, g6⟩ := bytes_code _ _ _ hX
   refine ⟨⟨h1, h2, by rw [g2]; exact ha.labels, ?_⟩, g4⟩
   rw [g1, g3, g5]; omega
 | text =>
   injection hX with hX; subst hX
   refine ⟨⟨h1, h2, ha.labels, ?_⟩, rfl⟩
   simp; omega
 | space =>
   unfold Go.Proofs.D.spaceX at hX
   obtain ⟨x, hv, hX⟩ := bind_ok hX
   injection hX with hX; subst hX
   refine ⟨⟨h1, h2, ha.labels, ?_⟩, rfl⟩
   simp; omega
theorem StIs.line {a a' : St} {n : Bytes} {l : List Tk} {c d t : Bool} {lo hi : Nat} {X : R St} (hS : StIs a l n c d lo hi t X) (hX : X = .ok a') : a'.line = a.line := by
 cases hS with
 | op op hf => exact (instrX_ok hX).2.2.2.2.1
 | code => injection hX with hX; subst hX; rfl
 | data => injection hX with hX; subst hX; rfl
 | entry =>
   unfold Go.Proofs.D.entryX at hX
   obtain ⟨x, hv, hX⟩ := bind_ok hX
   injection hX with hX; subst hX; rfl
 | zero =>
   unfold Go.Proofs.D.zeroX at hX
   obtain ⟨x, hv, hX⟩ := bind_ok hX
   injection hX with hX; subst hX; rfl
 | word => exact (words_code _ _ _ hX).2.2.2.1
 | byte => exact (bytes_code _ _ _ hX).2.2.2.1
 | text => injection hX with hX; subst hX; rfl
 | space =>
   unfold Go.Proofs.D.spaceX at hX
   obtain ⟨x, hv, hX⟩ := bind_ok hX
   injection hX with hX; subst hX; rfl
theorem define_lim : ∀ (ls : List Bytes) (a a' : St), Lim a → defineS a ls = .ok a' → Lim a' ∧ a'.line = a.line
 | [], a, a', ha, h => by simp [defineS] at h; subst h; exact ⟨ha, rfl⟩
 | n :: ls, a, a', ha, h => by
   rw [defineS] at h
   split at h
   · cases h
   split at h
   · cases h
   split at h
   · cases h
   have hd := fun hL => define_lim ls _ a' hL h
   refine hd ⟨ha.code, ha.data, ?_, ha.uses⟩
   simp only [List.length_append, List.length_cons, List.length_nil]; omega
theorem line_lim {a a' : St} {s : Bytes} (ha : Lim a) (hs : s.length ≤ 65536) (h : lineS a s = .ok a') : Lim a' ∧ a'.line = a.line := by
 unfold lineS at h
 split at h
 · cases h
 rename_i ts ht
 split at h
 · cases h
 · rename_i ls hsp
   exact define_lim ls a a' ha h
 · rename_i ls n os hsp
   obtain ⟨b, hb, h⟩ := bind_ok h
   obtain ⟨h1, h2⟩ := define_lim ls a b ha hb
   have hol : os.length ≤ 65536 := by
    have hc : ∀ (f : Nat) (s : Bytes) (ts : List Tk), tokensS f s = some ts → ts.length ≤ s.length := by
     intro f
     induction f with
     | zero => intro s ts h; simp [tokensS] at h
     | succ f ih =>
       intro s ts h
       match s, h with
       | [], h => simp [tokensS] at h; subst h; simp
       | c :: r, h =>
         have r1 : ∀ {s' : Bytes} {k : Tk} {x : Option (List Tk)}, s'.length ≤ r.length → x = tokensS f s' → (x.map fun l => k :: l) = some ts → ts.length ≤ (c :: r).length := fun {s' k x} hl hx he => by
          subst hx
          simp only [Option.map_eq_some_iff] at he
          obtain ⟨l, h1, rfl⟩ := he
          have := ih _ _ h1
          simp; omega
         rw [tokensS] at h
         split at h
         · simp at h; subst h; simp
         split at h
         · have := ih _ _ h; simp; omega
         split at h
         · exact r1 (Nat.le_refl _) rfl h
         split at h
         · exact r1 (Nat.le_refl _) rfl h
         split at h
         · split at h
           · cases h
           · rename_i x r' hu
             have := unq_len hu
             exact r1 (by omega) rfl h
         split at h
         · rename_i hw
           have hd : (c :: r).dropWhile wordB = r.dropWhile wordB := by simp [List.dropWhile, hw]
           rw [hd] at h
           exact r1 (drop_len r) rfl h
         · cases h
    have := (split_sub ts ls _ hsp).2 n os rfl
    have := hc _ _ _ ht
    omega
   rcases stmt_is (n := n) h1 hol with ⟨c, d, lo, hi, t, X, hS, he⟩ | ⟨_, _, he⟩
   · rw [he] at h
     obtain ⟨g1, g2, g3, g4⟩ := do_ok h
     obtain ⟨k1, k2⟩ := hS.lim h1 g1 g2 g3 g4
     exact ⟨k1, k2.trans h2⟩
   · rw [he] at h; cases h
end Go.As
namespace Go.Proofs.D
open Go Go.Den Go.As
set_option maxRecDepth 100000
attribute [local irreducible] IntKind.wrap Tri
section
variable {hb h : PHeap} {p mS : Nat} {a : As.St}
def tail39 (p1 o1 : Nat) (a3 : OA) (n3 k3 : Nat) (c1 c2 : Bool) (i4 i5 : Int) (c3 : Bool) (f1 : Nat) (x1 y1 : List Value) (h_4 : PHeap) (Q : Value → PHeap → Prop) : Prop :=
 (br (decide (((n3 : Nat) : Int) < i4))
 (Q (vI 30) h_4)
 (br (decide (((n3 : Nat) : Int) > i5))
 (Q (vI 30) h_4)
 (∃ (I_1 : Nat → Int → PHeap → Prop), (∃ (m3 : Nat), I_1 m3 (0 : Int) h_4) ∧
 ∀ (m2 : Nat) (i6 : Int) (h_5 : PHeap), I_1 m2 i6 h_5 →
 br (decide (i6 < ((n3 : Nat) : Int)))
 (∃ (b1 o2 : Nat), a3 = some ⟨b1, o2, none⟩ ∧ (0 ≤ i6 ∧ i6 < n3) ∧
 ∃ (i7 : Int) (l3 : Bs), h_5.row b1 (o2 + (i6).toNat * 2) [vI i7, vS l3] ∧
 br (!((i7 == 2) == c3))
 (Q (vI 30) h_5)
 (∃ (m4 : Nat), m4 < m2 ∧ I_1 m4 (IntKind.i64.wrap (i6 + 1)) h_5 ∧
 tv [vB c1, vB c2, vI i4, vI i5, vB c3, vF f1 x1 y1] ∧ True))
 (Tri Tryz.prog f1 (x1 ++ [vP p1 o1, vL a3 n3 k3] ++ y1) h_5 fun v_5 h_6 =>
 ∃ (i8 : Int), v_5 = vI i8 ∧
 br (i8 != 0)
 (Q (vI i8) h_6)
 (∃ (a4 : OA) (n4 k4 : Nat), h_6.cell p1 (o1 + 1) = some (vL a4 n4 k4) ∧
 br (decide (((n4 : Nat) : Int) > 1024))
 (Q (vI 9) h_6)
 (∃ (a5 : OA) (n5 k5 : Nat), h_6.cell p1 (o1 + 6) = some (vL a5 n5 k5) ∧
 br (decide (((n5 : Nat) : Int) > 4096))
 (Q (vI 9) h_6)
 (Q (vI 0) h_6)))))))
def mid39 (l2 : Bs) (p1 o1 : Nat) (a3 : OA) (n3 k3 : Nat) (c1 c2 : Bool) (i4 i5 : Int) (c3 : Bool) (f1 : Nat) (x1 y1 : List Value) (h_4 : PHeap) (Q : Value → PHeap → Prop) : Prop :=
 (br (l2 == [46, 101, 110, 116, 114, 121])
 (∃ (c6 : Bool), h_4.cell p1 (o1 + 8) = some (vB c6) ∧
 br c6
 (Q (vI 10) h_4)
 (br (l2 == [46, 122, 101, 114, 111])
 (∃ (c7 : Bool), h_4.cell p1 (o1 + 9) = some (vB c7) ∧
 br c7
 (Q (vI 10) h_4)
 (tail39 p1 o1 a3 n3 k3 c1 c2 i4 i5 c3 f1 x1 y1 h_4 Q))
 (tail39 p1 o1 a3 n3 k3 c1 c2 i4 i5 c3 f1 x1 y1 h_4 Q)))
 (br (l2 == [46, 122, 101, 114, 111])
 (∃ (c7 : Bool), h_4.cell p1 (o1 + 9) = some (vB c7) ∧
 br c7
 (Q (vI 10) h_4)
 (tail39 p1 o1 a3 n3 k3 c1 c2 i4 i5 c3 f1 x1 y1 h_4 Q))
 (tail39 p1 o1 a3 n3 k3 c1 c2 i4 i5 c3 f1 x1 y1 h_4 Q)))
def top39 (l2 : Bs) (p1 o1 : Nat) (a3 : OA) (n3 k3 : Nat) (c1 c2 : Bool) (i4 i5 : Int) (c3 : Bool) (f1 : Nat) (x1 y1 : List Value) (h_4 : PHeap) (Q : Value → PHeap → Prop) : Prop :=
 ∃ (c4 : Bool), h_4.cell p1 (o1 + 7) = some (vB c4) ∧
 br c4
 (br (!c2)
 (Q (vI 10) h_4)
 (∃ (c5 : Bool), h_4.cell p1 (o1 + 7) = some (vB c5) ∧
 br (!c5)
 (br (!c1)
 (Q (vI 10) h_4)
 (mid39 l2 p1 o1 a3 n3 k3 c1 c2 i4 i5 c3 f1 x1 y1 h_4 Q))
 (mid39 l2 p1 o1 a3 n3 k3 c1 c2 i4 i5 c3 f1 x1 y1 h_4 Q)))
 (∃ (c12 : Bool), h_4.cell p1 (o1 + 7) = some (vB c12) ∧
 br (!c12)
 (br (!c1)
 (Q (vI 10) h_4)
 (mid39 l2 p1 o1 a3 n3 k3 c1 c2 i4 i5 c3 f1 x1 y1 h_4 Q))
 (mid39 l2 p1 o1 a3 n3 k3 c1 c2 i4 i5 c3 f1 x1 y1 h_4 Q))
theorem do_ten {n : Bytes} {l : List Tk} {c d t : Bool} {lo hi : Nat} {X : As.R As.St} (h : ((a.inData && !d) || (!a.inData && !c) || (n == dEntry && a.hasEntry) || (n == dZero && a.hasZero)) = true) : doS a n l c d lo hi t X = .error 10 := by
 unfold doS; rw [if_pos h]
theorem res_base {hb' : PHeap} {line : Nat} {r : As.R As.St} {v : Value} {h' : PHeap} (x : Ext hb hb') (hR : Res hb' p mS line r v h') : Res hb p mS line r v h' := by
 cases r with
 | error e => exact ⟨hR.1, hR.2.1, x.trans hR.2.2.1, hR.2.2.2⟩
 | ok a' =>
   obtain ⟨h1, hb2, h2, h3⟩ := hR
   exact ⟨h1, hb2, x.trans h2, h3⟩
theorem tail_39 {n : Bytes} {os : List Tk} {a3 : OA} {k3 : Nat} {c d t : Bool} {lo hi f : Nat} {y : List Value} {X : As.R As.St} {Q : Value → PHeap → Prop} (hQ : ∀ v h', Res hb p mS a.line (doS a n os c d lo hi t X) v h' → Q v h') (hA : AS hb h p mS a) (hT : TkAt hb a3 os) (hlen : os.length ≤ 1000000) (hline : ∀ a', X = .ok a' → a'.line = a.line)
 (hok : ((a.inData && !d) || (!a.inData && !c) || (n == dEntry && a.hasEntry) || (n == dZero && a.hasZero)) = false)
 (hP : lo ≤ os.length → os.length ≤ hi → (os.all fun k => decide (k.kind = 2) == t) = true → Tri Tryz.prog f ([vP p 0, vL a3 os.length k3] ++ y) h fun v h' => Res hb p mS a.line X v h') :
 tail39 p 0 a3 os.length k3 c d (lo : Int) (hi : Int) t f [] y h Q := by
 unfold tail39
 have h0 : ¬ (((a.inData && !d) || (!a.inData && !c) || (n == dEntry && a.hasEntry) || (n == dZero && a.hasZero)) = true) := by rw [hok]; decide
 have e30 : (os.length < lo ∨ hi < os.length) ∨ (os.all fun k => decide (k.kind = 2) == t) = false → ∀ h1, AS hb h1 p mS a → Res hb p mS a.line (doS a n os c d lo hi t X) (vI 30) h1 := fun hc h1 hA1 => by
  refine res_err (e := 30) ?_ (by decide) (Ext.refl _) hA1
  unfold doS
  rw [if_neg h0]
  by_cases h1 : os.length < lo ∨ hi < os.length
  · rw [if_pos h1]
  · rw [if_neg h1, if_pos (hc.resolve_left h1)]
 refine br_split (fun e => hQ _ _ (e30 (.inl (.inl (by have := of_decide_eq_true e; omega))) h hA)) fun e1 => br_split (fun e => hQ _ _ (e30 (.inl (.inr (by have := of_decide_eq_true e; omega))) h hA)) fun e2 => ?_
 have e1 := of_decide_eq_false e1
 have e2 := of_decide_eq_false e2
 refine ⟨fun m i h' => ∃ j : Nat, i = (j : Int) ∧ j + m = os.length ∧ h' = h ∧ ((os.take j).all fun k => decide (k.kind = 2) == t) = true, ⟨os.length, 0, rfl, by omega, rfl, by simp⟩, ?_⟩
 rintro m _ h1 ⟨j, rfl, hjm, rfl, hall⟩
 refine br_split (fun e => ?_) fun e => ?_
 · have hlt : j < os.length := by have := of_decide_eq_true e; omega
   have hg : os[j]? = some os[j] := by simp [hlt]
   have htk := List.take_append_getElem hlt
   have hmem := List.getElem_mem hlt
   generalize os[j] = u at *
   obtain ⟨b, o, ha, hr⟩ := (hT.ext hA.ext).get hg
   have hk : (((u.kind : Nat) : Int) == 2) = decide (u.kind = 2) := by rw [Bool.eq_iff_iff]; simp; omega
   refine ⟨b, o, ha, ⟨by omega, by omega⟩, _, _, (by rw [Int.toNat_natCast]; exact hr), ?_⟩
   rw [hk]
   refine br_split (fun e3 => hQ _ _ (e30 (.inr ?_) h1 hA)) fun e3 => ⟨m - 1, by omega, ⟨j + 1, ?_, by omega, rfl, ?_⟩, rfl, trivial⟩
   · rw [List.all_eq_false]
     exact ⟨u, hmem, by rw [not_f e3]; decide⟩
   · rw [wrap64 (by omega) (by omega)]; omega
   · rw [← htk, List.all_append, hall]
     simp only [List.all_cons, List.all_nil, Bool.and_true, Bool.true_and]
     exact not_t e3
 · have hj : j = os.length := by have := of_decide_eq_false e; omega
   subst hj
   rw [List.take_length] at hall
   refine Tri.mono (hP (by omega) (by omega) hall) ?_
   intro v h2 hR
   have hdo : doS a n os c d lo hi t X = X >>= fun a' => if 1024 < a'.p.code.length ∨ 4096 < a'.p.data.length then .error 9 else .ok a' := by
    unfold doS
    rw [if_neg h0, if_neg (by omega), if_neg (by rw [hall]; decide)]
   rw [hdo] at hQ
   cases hX : X with
   | error e =>
     rw [hX] at hR
     obtain ⟨rfl, g1, g2, g3⟩ := hR
     exact ⟨_, rfl, br_pos (by simp; omega) (hQ _ _ (by rw [hX]; exact ⟨rfl, g1, g2, g3⟩))⟩
   | ok a' =>
     rw [hX] at hR hQ
     obtain ⟨rfl, hb', hbx, hA'⟩ := hR
     have hl := hline a' hX
     show ∃ i8 : Int, _
     by_cases h9 : 1024 < a'.p.code.length ∨ 4096 < a'.p.data.length
     · have nine : Res hb p mS a.line ((.ok a' : As.R As.St) >>= fun a' => if 1024 < a'.p.code.length ∨ 4096 < a'.p.data.length then .error 9 else .ok a') (vI 9) h2 := by
        refine res_base hbx ?_
        rw [← hl]
        refine res_err (e := 9) ?_ (by decide) (Ext.refl _) hA'
        show (if 1024 < a'.p.code.length ∨ 4096 < a'.p.data.length then (.error 9 : As.R As.St) else .ok a') = .error 9
        rw [if_pos h9]
       obtain ⟨K, hK⟩ := hA'
       refine ⟨_, rfl, br_neg rfl ⟨_, _, _, (by rw [PA_cell hK.obj]; rfl), br_split (fun _ => hQ _ _ nine) fun e1 => ⟨_, _, _, (by rw [PA_cell hK.obj]; rfl), br_split (fun _ => hQ _ _ nine) fun e2 => ?_⟩⟩⟩
       have := of_decide_eq_false e1
       have := of_decide_eq_false e2
       omega
     · obtain ⟨K, hK⟩ := hA'
       refine ⟨_, rfl, br_neg rfl ⟨_, _, _, (by rw [PA_cell hK.obj]; rfl), br_neg (by simp; omega) ⟨_, _, _, (by rw [PA_cell hK.obj]; rfl), br_neg (by simp; omega) ?_⟩⟩⟩
       refine hQ _ _ ?_
       show Res hb p mS a.line (if 1024 < a'.p.code.length ∨ 4096 < a'.p.data.length then (.error 9 : As.R As.St) else .ok a') (vI 0) h2
       rw [if_neg h9]
       exact ⟨rfl, hb', hbx, K, hK⟩
theorem mid_39 {n : Bytes} {os : List Tk} {a3 : OA} {k3 : Nat} {c d t : Bool} {lo hi f : Nat} {y : List Value} {X : As.R As.St} {Q : Value → PHeap → Prop} (hQ : ∀ v h', Res hb p mS a.line (doS a n os c d lo hi t X) v h' → Q v h') (hA : AS hb h p mS a) (hT : TkAt hb a3 os) (hlen : os.length ≤ 1000000) (hline : ∀ a', X = .ok a' → a'.line = a.line)
 (hok : ((a.inData && !d) || (!a.inData && !c)) = false)
 (hP : lo ≤ os.length → os.length ≤ hi → (os.all fun k => decide (k.kind = 2) == t) = true → Tri Tryz.prog f ([vP p 0, vL a3 os.length k3] ++ y) h fun v h' => Res hb p mS a.line X v h') :
 mid39 n p 0 a3 os.length k3 c d (lo : Int) (hi : Int) t f [] y h Q := by
 unfold mid39
 have hA0 := hA
 obtain ⟨K, hK⟩ := hA
 have ten : ((n == dEntry && a.hasEntry) || (n == dZero && a.hasZero)) = true → Res hb p mS a.line (doS a n os c d lo hi t X) (vI 10) h := fun e =>
  res_err (e := 10) (do_ten (by rw [Bool.or_assoc, hok, Bool.false_or]; exact e)) (by decide) (Ext.refl _) hA0
 have tl : (n == dEntry && a.hasEntry) = false → (n == dZero && a.hasZero) = false → tail39 p 0 a3 os.length k3 c d (lo : Int) (hi : Int) t f [] y h Q := fun e1 e2 =>
  tail_39 hQ hA0 hT hlen hline (by rw [hok, e1, e2]; rfl) hP
 have z : (n == dEntry && a.hasEntry) = false → (br (n == [46, 122, 101, 114, 111])
  (∃ (c7 : Bool), h.cell p (0 + 9) = some (vB c7) ∧
  br c7
  (Q (vI 10) h)
  (tail39 p 0 a3 os.length k3 c d (lo : Int) (hi : Int) t f [] y h Q))
  (tail39 p 0 a3 os.length k3 c d (lo : Int) (hi : Int) t f [] y h Q)) := fun e1 => by
  refine br_split (fun e => ?_) fun e => ?_
  · have e : (n == dZero) = true := e
    refine ⟨a.hasZero, (by rw [PA_cell hK.obj]; rfl), br_split (fun e3 => hQ _ _ (ten (by rw [e, e3]; simp))) fun e3 => tl e1 (by rw [e3]; simp)⟩
  · have e : (n == dZero) = false := e
    exact tl e1 (by rw [e]; rfl)
 refine br_split (fun e => ?_) fun e => ?_
 · have e : (n == dEntry) = true := e
   refine ⟨a.hasEntry, (by rw [PA_cell hK.obj]; rfl), br_split (fun e3 => hQ _ _ (ten (by rw [e, e3]; simp))) fun e3 => z (by rw [e3]; simp)⟩
 · have e : (n == dEntry) = false := e
   exact z (by rw [e]; rfl)
theorem top_39 {n : Bytes} {os : List Tk} {a3 : OA} {k3 : Nat} {c d t : Bool} {lo hi f : Nat} {y : List Value} {X : As.R As.St} {Q : Value → PHeap → Prop} (hQ : ∀ v h', Res hb p mS a.line (doS a n os c d lo hi t X) v h' → Q v h') (hA : AS hb h p mS a) (hT : TkAt hb a3 os) (hlen : os.length ≤ 1000000) (hline : ∀ a', X = .ok a' → a'.line = a.line)
 (hP : lo ≤ os.length → os.length ≤ hi → (os.all fun k => decide (k.kind = 2) == t) = true → Tri Tryz.prog f ([vP p 0, vL a3 os.length k3] ++ y) h fun v h' => Res hb p mS a.line X v h') :
 top39 n p 0 a3 os.length k3 c d (lo : Int) (hi : Int) t f [] y h Q := by
 unfold top39
 have hA0 := hA
 obtain ⟨K, hK⟩ := hA
 have ten : ((a.inData && !d) || (!a.inData && !c)) = true → Res hb p mS a.line (doS a n os c d lo hi t X) (vI 10) h := fun e =>
  res_err (e := 10) (do_ten (by rw [e]; rfl)) (by decide) (Ext.refl _) hA0
 have md : ((a.inData && !d) || (!a.inData && !c)) = false → _ := fun e => mid_39 (n := n) hQ hA0 hT hlen hline e hP
 have c7 : h.cell p (0 + 7) = some (vB a.inData) := by rw [PA_cell hK.obj]; rfl
 refine ⟨a.inData, c7, br_split (fun e => br_split (fun e1 => hQ _ _ (ten (by rw [e, e1]; rfl))) fun e1 => ⟨a.inData, c7, br_neg (by rw [e]; rfl) (md (by rw [e, e1]; rfl))⟩) fun e => ⟨a.inData, c7, br_pos (by rw [e]; rfl) (br_split (fun e1 => hQ _ _ (ten (by rw [e, e1]; rfl))) fun e1 => md (by rw [e, e1]; rfl))⟩⟩
theorem perform_t {n : Bytes} {os : List Tk} {a3 : OA} {k3 : Nat} {c d t : Bool} {lo hi : Nat} {X : As.R As.St} {r : Option Value} (hA : AS hb h p mS a) (hO : OpTab hb) (hSt : StIs a os n c d lo hi t X) (hg : StGet hb r n) (ha : Lim a)
 (hT : TkAt hb a3 os) (hk3 : os.length ≤ k3) (hok3 : okA a3 os.length k3) (hl : ∀ t ∈ os, t.text.length ≤ 1000000) (hn : os.length ≤ 65536) :
 ∃ f y, r = some (stV c d lo hi t f y) ∧ (lo ≤ os.length → os.length ≤ hi → Tri Tryz.prog f ([vP p 0, vL a3 os.length k3] ++ y) h fun v h' => Res hb p mS a.line X v h') := by
 have h1 := ha.code
 have h2 := ha.data
 have h3 : a.uses.length ≤ 1000000 := by have := ha.uses; have : a.hasEntry.toNat ≤ 1 := by cases a.hasEntry <;> decide
                                         omega
 have one : ∀ {P : List Tk → Prop}, (∀ t : Tk, os = [t] → P [t]) → 1 ≤ os.length → os.length ≤ 1 → P os := fun hP g1 g2 => by
  match os, g1, g2, hP with
  | [], g1, _, _ => simp at g1
  | [t], _, _, hP => exact hP t rfl
  | _ :: _ :: _, _, g2, _ => simp at g2
 unfold StGet at hg
 cases hSt with
 | op op hf =>
   rw [hf] at hg
   obtain ⟨c, hr, hc⟩ := hg
   exact ⟨85, [vP c 0], hr, fun g1 g2 => stmt85_t hA hO hc (find_word hf).1 hT hk3 hok3 (by omega) hl (by omega) h3⟩
 | code => exact ⟨76, [], hg, fun _ _ => begin76_t hA _⟩
 | data => exact ⟨77, [], hg, fun _ _ => begin77_t hA _⟩
 | entry => exact ⟨78, [], hg, fun g1 g2 => by
  revert hT hl
  refine one (P := fun os => TkAt hb a3 os → (∀ t ∈ os, t.text.length ≤ 1000000) → Tri Tryz.prog 78 ([vP p 0, vL a3 os.length k3] ++ []) h fun v h' => Res hb p mS a.line (entryX a (os.getD 0 ⟨1, []⟩).text) v h') (fun t _ hT hl => entry78_t hA hT (hl t (List.mem_singleton.2 rfl)) (by omega)) g1 g2⟩
 | zero => exact ⟨79, [], hg, fun g1 g2 => by
  revert hT hl
  refine one (P := fun os => TkAt hb a3 os → (∀ t ∈ os, t.text.length ≤ 1000000) → Tri Tryz.prog 79 ([vP p 0, vL a3 os.length k3] ++ []) h fun v h' => Res hb p mS a.line (zeroX a (os.getD 0 ⟨1, []⟩).text) v h') (fun t _ hT hl => zero79_t hA hT (hl t (List.mem_singleton.2 rfl))) g1 g2⟩
 | word => exact ⟨80, [], hg, fun _ _ => words80_t hA hT hl (by omega) (by omega) h3⟩
 | byte => exact ⟨81, [], hg, fun _ _ => bytes81_t hA hT hl (by omega) (by omega)⟩
 | text => exact ⟨82, [], hg, fun g1 g2 => by
  revert hT hl
  refine one (P := fun os => TkAt hb a3 os → (∀ t ∈ os, t.text.length ≤ 1000000) → Tri Tryz.prog 82 ([vP p 0, vL a3 os.length k3] ++ []) h fun v h' => Res hb p mS a.line (.ok { a with p := { a.p with data := a.p.data ++ (os.getD 0 ⟨1, []⟩).text } }) v h') (fun t _ hT hl => text82_t hA hT (hl t (List.mem_singleton.2 rfl)) (by omega)) g1 g2⟩
 | space => exact ⟨83, [], hg, fun g1 g2 => by
  revert hT hl
  refine one (P := fun os => TkAt hb a3 os → (∀ t ∈ os, t.text.length ≤ 1000000) → Tri Tryz.prog 83 ([vP p 0, vL a3 os.length k3] ++ []) h fun v h' => Res hb p mS a.line (spaceX a (os.getD 0 ⟨1, []⟩).text) v h') (fun t _ hT hl => space83_t hA hT (hl t (List.mem_singleton.2 rfl)) (by omega)) g1 g2⟩
theorem LM.into {e k : Nat} {h1 h2 hb2 : PHeap} {aa : OA} {n c : Nat} {css : List (List Value)} (hM : LM e k h1 h2 aa n c css) (hnew : ∀ q o, h1 q = none → h2 q = some o → hb2 q = some o) : LM e k h1 hb2 aa n c css :=
 LM.keep (fun b hb => by
  obtain ⟨g1, g2⟩ := hM.own b hb
  cases hq : h2 b with
  | none => exact absurd hq g2
  | some o => exact hnew b o g1 hq) hM
theorem LM.okA {e k : Nat} {h1 h2 : PHeap} {aa : OA} {n c : Nat} {css : List (List Value)} (hM : LM e k h1 h2 aa n c css) : n ≤ c ∧ okA aa n c := by
 obtain ⟨g1, g2⟩ := hM.okN
 refine ⟨g1, ?_⟩
 by_cases hn : n = 0
 · obtain ⟨g3, g4⟩ := g2 hn
   exact .inr ⟨g3, hn, g4⟩
 · obtain ⟨b, _, hb, _⟩ := hM.open (by omega)
   exact .inl ⟨b, 0, hb⟩
theorem read_t {s : Bytes} (hA : AS hb h p mS a) (hO : OpTab hb) (hS : StOk hb mS) (hs : s.length ≤ 65536) (ha : Lim a) : Tri Tryz.prog 39 [vP p 0, vS s] h fun v h' => Res hb p mS a.line (lineS a s) v h' := by
 refine T39 ?_
 unfold R39
 refine Tri.mono (tokens_t h s (by omega)) ?_
 rintro v h1 ⟨x1, hv⟩
 cases ht : tokensL s with
 | none =>
   rw [ht] at hv
   have hl : lineS a s = .error 6 := by unfold lineS; rw [ht]
   exact ⟨_, _, _, _, hv, br_pos rfl (res_err hl (by decide) (Ext.refl _) (hA.grow x1))⟩
 | some ts =>
   rw [ht] at hv
   obtain ⟨hn, a1, k1, rfl, hM⟩ := hv
   refine ⟨_, _, _, _, rfl, br_neg rfl ?_⟩
   obtain ⟨hb1, y1, hA1, hnew1⟩ := hA.rebase x1
   refine Tri.mono (parse_t h1 (by omega) hM.tk hM.okA.1 hM.okA.2) ?_
   rintro v h2 ⟨x2, hv⟩
   cases hsp : splitL ts with
   | none =>
     rw [hsp] at hv
     have hl : lineS a s = .error 30 := by unfold lineS; simp only [ht, hsp]
     exact ⟨_, _, _, _, _, _, _, _, hv, br_pos rfl (res_err hl (by decide) (Ext.refl _) (hA.grow (x1.trans x2)))⟩
   | some x =>
     obtain ⟨ls, o⟩ := x
     obtain ⟨hb2, y2, hA2, hnew2⟩ := hA1.rebase x2
     have y02 := y1.trans y2
     obtain ⟨s1, s2⟩ := split_sub ts ls o hsp
     have hdef : ∀ {a2 : OA} {k2 : Nat}, LM 9 1 h1 h2 a2 ls.length k2 (sL ls) → Tri Tryz.prog 90 [vP p 0, vL a2 ls.length k2] h2 fun v h' => Res hb2 p mS a.line (defineS a ls) v h' := fun hM2 =>
      define_t hA2 (hM2.into hnew2).strs (by omega) (by have := ha.code; omega)
     cases o with
     | none =>
       rw [hsp] at hv
       obtain ⟨a2, k2, rfl, hM2⟩ := hv
       have hl : lineS a s = defineS a ls := by unfold lineS; simp only [ht, hsp]
       rw [hl]
       refine ⟨_, _, _, _, _, _, _, _, rfl, br_neg rfl (Tri.mono (hdef hM2) ?_)⟩
       intro v h3 hR
       cases hd : defineS a ls with
       | error e =>
         rw [hd] at hR
         obtain ⟨rfl, g1, g2, g3⟩ := hR
         exact ⟨_, rfl, br_pos (by simp; omega) ⟨rfl, g1, y02.trans g2, g3⟩⟩
       | ok b =>
         rw [hd] at hR
         obtain ⟨rfl, hb3, g1, g2⟩ := hR
         exact ⟨_, rfl, br_neg rfl (br_pos rfl ⟨rfl, hb3, y02.trans g1, g2⟩)⟩
     | some no =>
       obtain ⟨n, os⟩ := no
       rw [hsp] at hv
       obtain ⟨a2, k2, a3, k3, rfl, hM2, hM3⟩ := hv
       obtain ⟨s3, s4, tn, s5, s6, s7⟩ := s2 n os rfl
       have hl : lineS a s = (defineS a ls >>= fun a => stmtS a n os) := by unfold lineS; simp only [ht, hsp]
       refine ⟨_, _, _, _, _, _, _, _, rfl, br_neg rfl (Tri.mono (hdef hM2) ?_)⟩
       intro v h3 hR
       rw [hl]
       cases hd : defineS a ls with
       | error e =>
         rw [hd] at hR
         obtain ⟨rfl, g1, g2, g3⟩ := hR
         exact ⟨_, rfl, br_pos (by simp; omega) ⟨rfl, g1, y02.trans g2, g3⟩⟩
       | ok b =>
         rw [hd] at hR
         obtain ⟨rfl, hb3, g1, hA3⟩ := hR
         obtain ⟨hlim, hline⟩ := define_lim ls a b ha hd
         have y03 := y02.trans g1
         have hname : (n == []) = false := by
          have := (tok_facts _ _ _ ht tn s5).2 s6
          rw [s7] at this
          simpa using this
         refine ⟨_, rfl, br_neg rfl (br_neg hname ?_)⟩
         show ∃ m1 : Nat, _
         obtain ⟨L, ck, hm, hget⟩ := hS.ext y03
         have hA30 := hA3
         obtain ⟨K, hK⟩ := hA3
         refine ⟨mS, (by rw [PA_cell hK.obj]; rfl), ?_⟩
         refine Raw.mono (raw_lookupS und69 rfl (z := vA [vB false, vB false, vI 0, vI 0, vB false, .nilFunc]) rfl rfl rfl (hK.ext _ _ hm)) ?_
         rintro _ h3 ⟨rfl, rfl⟩
         have hos : os.length ≤ 65536 := by omega
         have hgn := hget n
         show _ ∨ _
         rcases stmt_is (n := n) hlim hos with ⟨c, d, lo, hi, t, X, hSt, he⟩ | ⟨hf, hdv, he⟩
         · right
           have hT3 : TkAt hb3 a3 os := (hM3.into hnew2).tk.ext g1
           obtain ⟨f, y, hr, hP⟩ := perform_t hA30 (hO.ext y03) hSt hgn hlim hT3 hM3.okA.1 hM3.okA.2 (fun t ht' => by have := (tok_facts _ _ _ ht t (s4 t ht')).1; omega) hos
           refine ⟨c, d, lo, hi, t, f, [], y, (by rw [hr]; rfl), ?_⟩
           exact (top_39 (n := n) (c := c) (d := d) (t := t) (fun v h' hR => res_base y03 (by rw [← hline]; show Res hb3 p mS b.line (stmtS b n os) v h'; rw [he]; exact hR)) hA30 hT3 (by omega) (fun a' hX => hSt.line hX) (fun g1 g2 _ => hP g1 g2))
         · left
           have hno : mapGet L n = none := by unfold StGet at hgn; rw [hf] at hgn; rw [hgn]; exact hdv
           rw [hno]
           refine ⟨rfl, ?_⟩
           refine res_base y03 ?_
           rw [← hline]
           exact res_err (e := 11) he (by decide) (Ext.refl _) hA30
end
end Go.Proofs.D
namespace Go.Proofs.D
open Go Go.Den Go.As
set_option maxRecDepth 100000
def lbC (l : Lb) : List Value := [vS l.name, vB l.data, vI l.off]
def LbAt (h : PHeap) (a : OA) (ls : List Lb) : Prop := ls = [] ∨ ∃ b o, a = ad b o ∧ ∀ j l, ls[j]? = some l → h.row b (o + j * 3) (lbC l)
def InAt (h : PHeap) (a : OA) (ls : List Ins) : Prop := ls = [] ∨ ∃ b o, a = ad b o ∧ ∀ j l, ls[j]? = some l → h.row b (o + j * 4) (insC l)
theorem LbAt.ext {h h' : PHeap} {a : OA} {ls : List Lb} (x : Ext h h') (hl : LbAt h a ls) : LbAt h' a ls := by
 rcases hl with h1 | ⟨b, o, h1, h2⟩
 · exact .inl h1
 · exact .inr ⟨b, o, h1, fun j l hj => row_ext (fun ob => x b ob) (h2 j l hj)⟩
theorem InAt.ext {h h' : PHeap} {a : OA} {ls : List Ins} (x : Ext h h') (hl : InAt h a ls) : InAt h' a ls := by
 rcases hl with h1 | ⟨b, o, h1, h2⟩
 · exact .inl h1
 · exact .inr ⟨b, o, h1, fun j l hj => row_ext (fun ob => x b ob) (h2 j l hj)⟩
theorem LbAt.get {h : PHeap} {a : OA} {ls : List Lb} (hl : LbAt h a ls) {j : Nat} {l : Lb} (hj : ls[j]? = some l) : ∃ b o, a = some ⟨b, o, none⟩ ∧ h.row b (o + j * 3) (lbC l) := by
 rcases hl with rfl | ⟨b, o, ha, ht⟩
 · simp at hj
 · exact ⟨b, o, ha, ht j l hj⟩
theorem InAt.get {h : PHeap} {a : OA} {ls : List Ins} (hl : InAt h a ls) {j : Nat} {l : Ins} (hj : ls[j]? = some l) : ∃ b o, a = some ⟨b, o, none⟩ ∧ h.row b (o + j * 4) (insC l) := by
 rcases hl with rfl | ⟨b, o, ha, ht⟩
 · simp at hj
 · exact ⟨b, o, ha, ht j l hj⟩
attribute [local irreducible] IntKind.wrap Tri
theorem raw_makeB {h : PHeap} {N : Nat} {ty : TypeId} {ρ : Operand → Value} {x y : Operand} (hx : ρ x = vI (N : Int)) (hy : ρ y = vI (N : Int)) (hN : N ≤ 1000000) :
 Raw Tryz.prog (execOp ρ (mkO (.makeSlice 40 x y) ty)) h fun v h' => ∃ b, h b = none ∧ v = vL (ad b 0) N N ∧ h' = h.put b (.cells ⟨List.replicate N (byteV 0)⟩ 5 (0, 0)) := by
 intro w hs
 have hinf : ∃ i, Tryz.prog.info? 5 = some i ∧ i.bytes = 1 ∧ i.size = 1 ∧ i.zero = some (byteV 0) := ⟨_, rfl, rfl, rfl, rfl⟩
 obtain ⟨i, hi, hby, hsz, hz⟩ := hinf
 have hrun := run_makeSlice (P := Tryz.prog) w 40 5 i (byteV 0) rfl hi hz .i64 .i64 (N : Int) (N : Int) (by omega) (Int.le_refl _) (by rw [hsz]; omega) (by rw [hby]; omega) (by omega)
 have hmc : madeCells (byteV 0).cells ((N : Int).toNat * i.size) = ⟨List.replicate N (byteV 0)⟩ := by
  rw [hsz, Int.toNat_natCast, Nat.mul_one]
  apply Array.ext'
  show (madeCells #[byteV 0] N).toList = List.replicate N (byteV 0)
  unfold madeCells
  apply List.ext_getElem?
  intro j
  by_cases hj : j < N <;> simp [List.getElem?_replicate, Nat.mod_one, hj]
 rw [hmc] at hrun
 rw [Int.toNat_natCast] at hrun
 refine ⟨.value (vL (ad w.heap.size 0) N N), vL (ad w.heap.size 0) N N, w.alloc (.cells ⟨List.replicate N (byteV 0)⟩ 5), h.put w.heap.size (.cells ⟨List.replicate N (byteV 0)⟩ 5), ?_, .inl rfl, ⟨_, hs.fresh, rfl, rfl⟩, hs.allocReal _, Keep.allocReal w h _⟩
 simp only [execOp, mkO, hx, hy]
 simp [hrun]
end Go.Proofs.D
namespace Go.Proofs.D
open Go Go.Den Go.As
set_option maxRecDepth 100000
attribute [local irreducible] IntKind.wrap Tri
def cmpV (a b : Lb) : Int := if a.data != b.data then (if b.data then -1 else 1) else if a.off < b.off then -1 else if b.off < a.off then 1 else Lib.compareBytes a.name b.name
theorem cmpB_lt : ∀ (a b : Bytes), (Lib.compareBytes a b < 0 ↔ a < b)
 | [], [] => by simp [Lib.compareBytes]
 | [], _ :: _ => by simp [Lib.compareBytes]
 | _ :: _, [] => by simp [Lib.compareBytes]
 | x :: a, y :: b => by
   rw [Lib.compareBytes, List.cons_lt_cons_iff]
   by_cases h1 : x < y
   · rw [if_pos h1]; simp [h1]
   · rw [if_neg h1]
     by_cases h2 : y < x
     · rw [if_pos h2]
       have : x ≠ y := fun e => by subst e; exact h1 h2
       simp [h1, this]
     · rw [if_neg h2, cmpB_lt a b]
       have h3 : x = y := by
        apply UInt8.toNat_inj.1
        rw [UInt8.lt_iff_toNat_lt] at h1 h2; omega
       simp [h3]
theorem cmp_follows (a b : Lb) : decide (cmpV a b < 0) = follows a b := by
 unfold cmpV follows
 split
 · cases b.data <;> rfl
 · by_cases h1 : a.off < b.off
   · rw [if_pos h1, if_pos (by omega)]; simp [h1]
   · rw [if_neg h1]
     by_cases h2 : b.off < a.off
     · rw [if_pos h2, if_pos (by omega)]; simp [h1]
     · rw [if_neg h2, if_neg (by omega)]
       rw [Bool.eq_iff_iff, decide_eq_true_iff, decide_eq_true_iff]; exact cmpB_lt _ _
section
variable {h : PHeap}
theorem compare_t (a b : Lb) : Tri Tryz.prog 41 [lbV a, lbV b] h fun v h' => v = vI (cmpV a b) ∧ h' = h := by
 refine T41 ?_
 unfold R41
 have last : a.data = b.data → a.off = b.off → Tri Tryz.prog 93 [vS a.name, vS b.name] h fun v_1 h_1 => ∃ (i3 : Int), v_1 = vI i3 ∧ (vI i3 = vI (cmpV a b) ∧ h_1 = h) := fun e1 e2 => by
  refine Tri.mono (strcmp_t _ _) ?_
  rintro _ h1 ⟨rfl, rfl⟩
  refine ⟨_, rfl, ?_, rfl⟩
  unfold cmpV
  rw [e1, e2]; simp
 unfold cmpV at *
 by_cases e1 : a.data = b.data
 · have ee : (a.data == b.data) = true := by simp [e1]
   refine br_neg (by rw [ee]; rfl) (br_pos ee (br_split (fun e2 => ?_) fun e2 => br_neg (by rw [ee]; rfl) (br_split (fun e3 => ?_) fun e3 => last e1 ?_)))
   · have e2 := of_decide_eq_true e2
     refine ⟨?_, rfl⟩
     rw [if_neg (by simp [e1]), if_pos e2]
   · have e2 := of_decide_eq_false e2
     have e3 := of_decide_eq_true e3
     refine ⟨?_, rfl⟩
     rw [if_neg (by simp [e1]), if_neg e2, if_pos (by omega)]
   · have e2 := of_decide_eq_false e2
     have e3 := of_decide_eq_false e3
     omega
 · have ee : (a.data == b.data) = false := by simp [e1]
   have en : (a.data != b.data) = true := by simp [e1]
   refine br_pos (by rw [ee]; rfl) (br_split (fun e2 => ?_) fun e2 => br_neg ee (br_pos (by rw [ee]; rfl) ?_))
   · exact ⟨by rw [if_pos en, e2]; rfl, rfl⟩
   · exact ⟨by rw [if_pos en, e2]; rfl, rfl⟩
theorem place_t (n m : Int) (hn : -9223372036854775808 ≤ n ∧ n ≤ 9223372036854775807) : Tri Tryz.prog 47 [vI n, vI m] h fun v h' => v = vB (decide (0 ≤ n ∧ n ≤ m ∧ n % 4 = 0)) ∧ h' = h := by
 refine T47 ?_
 unfold R47
 refine br_split (fun e1 => br_split (fun e2 => ⟨?_, rfl⟩) fun e2 => ⟨?_, rfl⟩) fun e1 => ⟨?_, rfl⟩
 · have e1 := of_decide_eq_true e1
   have e2 := of_decide_eq_true e2
   congr 1
   rw [Bool.eq_iff_iff, beq_iff_eq, decide_eq_true_iff, Int.tmod_eq_emod_of_nonneg (by omega)]
   omega
 · have e2 := of_decide_eq_false e2
   congr 1
   rw [Bool.eq_iff_iff, decide_eq_true_iff]
   simp; omega
 · have e1 := of_decide_eq_false e1
   congr 1
   rw [Bool.eq_iff_iff, decide_eq_true_iff]
   simp; omega
theorem dataAt_wrap {n : Nat} (hn : n ≤ 1000000) : IntKind.i64.wrap ((IntKind.i64.wrap (Int.tdiv (IntKind.i64.wrap ((IntKind.i64.wrap ((IntKind.i64.wrap (((n : Nat) : Int) * 4)) + 64)) - 1)) 64)) * 64) = (((4 * n + 63) / 64 * 64 : Nat) : Int) := by
 rw [wrap64 (n := ((n : Nat) : Int) * 4) (by omega) (by omega), wrap64 (n := ((n : Nat) : Int) * 4 + 64) (by omega) (by omega), wrap64 (n := ((n : Nat) : Int) * 4 + 64 - 1) (by omega) (by omega)]
 rw [Int.tdiv_eq_ediv_of_nonneg (by omega)]
 rw [wrap64 (n := (((n : Nat) : Int) * 4 + 64 - 1) / 64) (by omega) (by omega), wrap64 (by omega) (by omega)]
 omega
theorem dataAt_t {a1 : OA} {k1 : Nat} {d : Bytes} {z e : Int} {a2 : OA} {n2 k2 : Nat} {p : Pg} (hn : p.code.length ≤ 1000000) : Tri Tryz.prog 25 [vA [vL a1 p.code.length k1, vS d, vI z, vI e, vL a2 n2 k2]] h fun v h' => v = vI (dataAt p) ∧ h' = h := by
 refine T25 ?_
 unfold R25
 exact ⟨by rw [dataAt_wrap hn]; rfl, rfl⟩
theorem twice_snoc : ∀ (l : List Bytes) (x : Bytes), twice (l ++ [x]) = (twice l || l.contains x)
 | [], x => rfl
 | y :: l, x => by
   have ih := twice_snoc l x
   have hc : (l ++ [x]).contains y = (l.contains y || (x == y)) := by
    rw [Bool.eq_iff_iff, Bool.or_eq_true, List.contains_iff_mem, List.contains_iff_mem, List.mem_append, List.mem_singleton, beq_iff_eq]
    constructor
    · rintro (h | h)
      · exact .inl h
      · exact .inr h.symm
    · rintro (h | h)
      · exact .inl h
      · exact .inr h.symm
   rw [List.cons_append, twice, twice, hc, ih, List.contains_cons]
   generalize l.contains y = a
   generalize (x == y) = b
   generalize twice l = c
   generalize l.contains x = d
   cases a <;> cases b <;> cases c <;> cases d <;> rfl
theorem labels_cons (p : Pg) (prev : Option Lb) (l : Lb) (ls : List Lb) : labelsErr p prev (l :: ls) = if isLabel l.name = false then 12
 else if l.off < 0 ∨ (l.data = false ∧ (l.off % 4 ≠ 0 ∨ 4 * (p.code.length : Int) < l.off)) ∨ (l.data = true ∧ (p.data.length : Int) + p.zero < l.off) then 2
 else if (match prev with | none => false | some q => !follows q l) then 32
 else labelsErr p (some l) ls := rfl
theorem twice_pre (l r : List Bytes) (h : twice l = true) : twice (l ++ r) = true := by
 cases hc : twice (l ++ r) with
 | true => rfl
 | false => rw [twice_app l r hc] at h; cases h
def prevL (ls : List Lb) (j : Nat) : Option Lb := if j = 0 then none else ls[j - 1]?
theorem und149 : Tryz.prog.underlying 149 = some (.map 9 4) := rfl
theorem checkLabels_t {a1 : OA} {k1 : Nat} {a2 : OA} {k2 : Nat} {p : Pg} (hL : LbAt h a2 p.labels) (hn : p.code.length ≤ 1000000) (hd : p.data.length ≤ 1000000) (hls : p.labels.length ≤ 1000000) (hz : 0 ≤ p.zero ∧ p.zero ≤ 4096) (ho : ∀ l ∈ p.labels, -9223372036854775808 ≤ l.off ∧ l.off ≤ 9223372036854775807) :
 Tri Tryz.prog 48 [vA [vL a1 p.code.length k1, vS p.data, vI p.zero, vI p.entry, vL a2 p.labels.length k2]] h fun v h' => v = vI ((if labelsErr p none p.labels ≠ 0 then labelsErr p none p.labels else if twice (p.labels.map (·.name)) then 7 else 0 : Nat) : Int) ∧ Ext h h' := by
 refine T48 ?_
 unfold R48
 refine ⟨fun m i h' => ∃ j : Nat, i = (j : Int) ∧ j + m = p.labels.length ∧ h' = h ∧ labelsErr p none p.labels = labelsErr p (prevL p.labels j) (p.labels.drop j), ⟨p.labels.length, 0, rfl, by omega, rfl, rfl⟩, ?_⟩
 rintro m _ h1 ⟨j, rfl, hjm, rfl, hu⟩
 refine br_split (fun e => ?_) fun e => ?_
 · have hlt : j < p.labels.length := by have := of_decide_eq_true e; omega
   have hg : p.labels[j]? = some p.labels[j] := by simp [hlt]
   have hdr := List.drop_eq_getElem_cons hlt
   have hmem := List.getElem_mem hlt
   rw [hdr, labels_cons] at hu
   generalize p.labels[j] = l at *
   obtain ⟨b, o, ha, hr⟩ := hL.get hg
   have ho1 := ho l hmem
   have bad : ∀ e : Nat, labelsErr p none p.labels = e → e ≠ 0 → vI (e : Int) = vI ((if labelsErr p none p.labels ≠ 0 then labelsErr p none p.labels else if twice (p.labels.map (·.name)) then 7 else 0 : Nat) : Int) ∧ Ext h1 h1 := fun e h1 h2 => by
    rw [h1, if_pos h2]; exact ⟨rfl, Ext.refl _⟩
   refine ⟨b, o, ha, ⟨by omega, by omega⟩, _, _, _, (by rw [Int.toNat_natCast]; exact hr), ?_⟩
   refine Tri.mono (label_t h1 l.name) ?_
   rintro _ h1 ⟨rfl, rfl⟩
   refine ⟨_, rfl, br_split (fun e1 => bad 12 (by rw [hu, if_pos (not_f e1)]) (by decide)) fun e1 => ?_⟩
   rw [if_neg (by rw [not_t e1]; decide)] at hu
   have hw4 : IntKind.i64.wrap (((p.code.length : Nat) : Int) * 4) = 4 * (p.code.length : Int) := by rw [wrap64 (by omega) (by omega)]; omega
   have hwd : IntKind.i64.wrap ((p.data.length : Int) + p.zero) = (p.data.length : Int) + p.zero := wrap64 (by omega) (by omega)
   have hw1 : IntKind.i64.wrap ((j : Int) + 1) = ((j + 1 : Nat) : Int) := by rw [wrap64 (by omega) (by omega)]; omega
   have tail : ¬ (l.off < 0 ∨ (l.data = false ∧ (l.off % 4 ≠ 0 ∨ 4 * (p.code.length : Int) < l.off)) ∨ (l.data = true ∧ (p.data.length : Int) + p.zero < l.off)) →
    br (decide ((j : Int) > 0))
     (∃ (b2 o2 : Nat), a2 = some ⟨b2, o2, none⟩ ∧ (0 ≤ (IntKind.i64.wrap ((j : Int) - 1)) ∧ (IntKind.i64.wrap ((j : Int) - 1)) < p.labels.length) ∧
     ∃ (l3 : Bs) (c4 : Bool) (i5 : Int), h1.row b2 (o2 + (IntKind.i64.wrap ((j : Int) - 1)).toNat * 3) [vS l3, vB c4, vI i5] ∧
     Tri Tryz.prog 41 [vA [vS l3, vB c4, vI i5], lbV l] h1 fun v_3 h_4 =>
     ∃ (i6 : Int), v_3 = vI i6 ∧
     (tv [vL a2 p.labels.length k2]) ∧
     br (decide (i6 ≥ 0))
     (vI 32 = vI ((if labelsErr p none p.labels ≠ 0 then labelsErr p none p.labels else if twice (p.labels.map (·.name)) then 7 else 0 : Nat) : Int) ∧ Ext h1 h_4)
     (∃ (m3 : Nat), m3 < m ∧ (∃ j' : Nat, IntKind.i64.wrap ((j : Int) + 1) = (j' : Int) ∧ j' + m3 = p.labels.length ∧ h_4 = h1 ∧ labelsErr p none p.labels = labelsErr p (prevL p.labels j') (p.labels.drop j')) ∧
     tv [vL a1 p.code.length k1, vS p.data, vI p.zero, vI p.entry, vL a2 p.labels.length k2] ∧ True))
     (∃ (m4 : Nat), m4 < m ∧ (∃ j' : Nat, IntKind.i64.wrap ((j : Int) + 1) = (j' : Int) ∧ j' + m4 = p.labels.length ∧ h1 = h1 ∧ labelsErr p none p.labels = labelsErr p (prevL p.labels j') (p.labels.drop j')) ∧
     tv [vL a1 p.code.length k1, vS p.data, vI p.zero, vI p.entry, vL a2 p.labels.length k2] ∧ True) := fun hno => by
    rw [if_neg hno] at hu
    have hpj : prevL p.labels (j + 1) = some l := by unfold prevL; rw [if_neg (by omega), Nat.add_sub_cancel, hg]
    refine br_split (fun e2 => ?_) fun e2 => ?_
    · have hj0 : 0 < j := by have := of_decide_eq_true e2; omega
      have hwj : IntKind.i64.wrap ((j : Int) - 1) = ((j - 1 : Nat) : Int) := by rw [wrap64 (by omega) (by omega)]; omega
      have hlt' : j - 1 < p.labels.length := by omega
      have hg' : p.labels[j - 1]? = some p.labels[j - 1] := by simp [hlt']
      have hpv : prevL p.labels j = some p.labels[j - 1] := by unfold prevL; rw [if_neg (by omega), hg']
      rw [hpv] at hu
      generalize p.labels[j - 1] = q at *
      obtain ⟨b', o', ha', hr'⟩ := hL.get hg'
      rw [hwj]
      refine ⟨b', o', ha', ⟨by omega, by omega⟩, _, _, _, (by rw [Int.toNat_natCast]; exact hr'), ?_⟩
      refine Tri.mono (compare_t q l) ?_
      rintro _ h1 ⟨rfl, rfl⟩
      have hf := cmp_follows q l
      refine ⟨_, rfl, rfl, br_split (fun e3 => ?_) fun e3 => ?_⟩
      · have e3 := of_decide_eq_true e3
        rw [decide_eq_false (by omega)] at hf
        simp only [← hf, Bool.not_false, if_true] at hu
        exact bad 32 hu (by decide)
      · have e3 := of_decide_eq_false e3
        rw [decide_eq_true (by omega)] at hf
        simp only [← hf, Bool.not_true] at hu
        exact ⟨m - 1, by omega, ⟨j + 1, hw1, by omega, rfl, by rw [hpj]; exact hu⟩, rfl, trivial⟩
    · have hj0 : j = 0 := by have := of_decide_eq_false e2; omega
      have hpv : prevL p.labels j = none := by unfold prevL; rw [if_pos hj0]
      rw [hpv] at hu
      exact ⟨m - 1, by omega, ⟨j + 1, hw1, by omega, rfl, by rw [hpj]; exact hu⟩, rfl, trivial⟩
   have two : (l.off < 0 ∨ (l.data = false ∧ (l.off % 4 ≠ 0 ∨ 4 * (p.code.length : Int) < l.off)) ∨ (l.data = true ∧ (p.data.length : Int) + p.zero < l.off)) → _ := fun hh => bad 2 (by rw [hu, if_pos hh]) (by decide)
   refine br_split (fun e2 => ?_) fun e2 => ?_
   · have e2 : l.data = false := not_f e2
     rw [hw4]
     refine Tri.mono (place_t _ _ ho1) ?_
     rintro _ h1 ⟨rfl, rfl⟩
     refine ⟨_, rfl, br_split (fun e3 => ?_) fun e3 => ?_⟩
     · have e3 := of_decide_eq_false (not_f e3)
       exact two (by rw [e2]; simp; omega)
     · have e3 := of_decide_eq_true (not_t e3)
       refine br_neg e2 (tail ?_)
       rw [e2]; simp; omega
   · have e2 : l.data = true := not_t e2
     refine br_pos e2 (br_split (fun e3 => two (.inl (of_decide_eq_true e3))) fun e3 => ?_)
     rw [hwd]
     refine br_split (fun e4 => two (.inr (.inr ⟨e2, of_decide_eq_true e4⟩))) fun e4 => tail ?_
     have e3 := of_decide_eq_false e3
     have e4 := of_decide_eq_false e4
     rw [e2]; simp; omega
 · have hj : j = p.labels.length := by have := of_decide_eq_false e; omega
   subst hj
   rw [List.drop_length] at hu
   have hu : labelsErr p none p.labels = 0 := by rw [hu]; unfold labelsErr; rfl
   rw [hu]
   simp only [ne_eq, not_true, if_false]
   refine Raw.mono (raw_makeMap (Q := fun v h' => ∃ m, v = vM m ∧ h1 m = none ∧ h' = h1.put m (.map ⟨ents []⟩ 0)) fun b hb => ⟨b, rfl, hb, rfl⟩) ?_
   rintro _ h2 ⟨mm, rfl, hm, rfl⟩
   refine ⟨mm, rfl, ?_⟩
   refine ⟨fun m i h' => ∃ (j : Nat) (L : List (Bytes × Value × Nat)) (ck : Nat), i = (j : Int) ∧ j + m = p.labels.length ∧ h' = h1.put mm (.map ⟨ents L⟩ ck) ∧ twice ((p.labels.take j).map (·.name)) = false ∧ (∀ k, mapGet L k = if ((p.labels.take j).map (·.name)).contains k then some (vB true) else none),
    ⟨p.labels.length, 0, [], 0, rfl, by omega, rfl, rfl, fun k => rfl⟩, ?_⟩
   rintro m _ h2 ⟨j, L, ck, rfl, hjm, rfl, htw, hmap⟩
   have hx : ∀ o, Ext h1 (h1.put mm o) := fun o => Ext.put hm o
   refine br_split (fun e => ?_) fun e => ?_
   · have hlt : j < p.labels.length := by have := of_decide_eq_true e; omega
     have hg : p.labels[j]? = some p.labels[j] := by simp [hlt]
     have htk := List.take_append_getElem hlt
     have hdj : p.labels.drop (j + 1) = p.labels.drop (j + 1) := rfl
     generalize p.labels[j] = l at *
     have hsn : (p.labels.take (j + 1)).map (·.name) = (p.labels.take j).map (·.name) ++ [l.name] := by rw [← htk]; simp
     obtain ⟨b, o, ha, hr⟩ := (hL.ext (hx (.map ⟨ents L⟩ ck))).get hg
     refine ⟨b, o, ha, ⟨by omega, by omega⟩, _, _, _, (by rw [Int.toNat_natCast]; exact hr), ?_⟩
     refine Raw.mono (raw_lookupS und149 rfl (z := vB false) rfl rfl rfl (put_same _ _ _)) ?_
     rintro _ h2 ⟨rfl, rfl⟩
     refine ⟨((p.labels.take j).map (·.name)).contains l.name, ?_, br_split (fun e1 => ?_) fun e1 => ?_⟩
     · rw [hmap]
       cases ((p.labels.take j).map (·.name)).contains l.name <;> rfl
     · have : twice (p.labels.map (·.name)) = true := by
        have h1 : twice ((p.labels.take (j + 1)).map (·.name)) = true := by rw [hsn, twice_snoc, e1]; simp
        have := twice_pre _ ((p.labels.drop (j + 1)).map (·.name)) h1
        rwa [← List.map_append, List.take_append_drop] at this
       rw [this]
       exact ⟨rfl, hx _⟩
     · refine Raw.mono (raw_updS (x := vB true) (.inl rfl) und149 rfl rfl rfl rfl (put_same _ _ _)) ?_
       rintro _ h3 ⟨rfl, ck', rfl, _⟩
       refine ⟨rfl, m - 1, by omega, ⟨j + 1, _, ck', ?_, by omega, put_put _ _ _ _, ?_, fun k => ?_⟩, trivial, trivial⟩
       · rw [wrap64 (by omega) (by omega)]; omega
       · rw [hsn, twice_snoc, htw, e1]; rfl
       · rw [mapGet_set, hsn, hmap]
         by_cases hk : k = l.name
         · subst hk; simp
         · have : (k == l.name) = false := by simp [hk]
           have hc : ((p.labels.take j).map (·.name) ++ [l.name]).contains k = ((p.labels.take j).map (·.name)).contains k := by
            rw [Bool.eq_iff_iff]; simp [hk]
           rw [hc, this]
           rfl
   · have hj : j = p.labels.length := by have := of_decide_eq_false e; omega
     subst hj
     rw [List.take_length] at htw
     rw [htw]
     exact ⟨rfl, hx _⟩
end
end Go.Proofs.D
namespace Go.Proofs
open Go Go.Shelf Go.RowKit Go.Lib Go.Sort
set_option maxRecDepth 100000
set_option maxHeartbeats 2000000 in
theorem cmp41_calls (n1 n2 : List UInt8) (d1 d2 : Bool) (i1 i2 : Int) (W : World) :
 Calls Tryz.prog 41 #[.agg #[.string ⟨⟨n1⟩⟩, .bool d1, .int .i64 i1], .agg #[.string ⟨⟨n2⟩⟩, .bool d2, .int .i64 i2]] W fun e w' => e = .returned (.int .i64 (D.cmpV ⟨n1, d1, i1⟩ ⟨n2, d2, i2⟩)) ∧ ∃ q os', w' = grow (W.drewN q) os' := by
 have hcon := fun W' => Any.strings_Compare D.layC ⟨⟨n1⟩⟩ ⟨⟨n2⟩⟩ W'
 change ∀ W', Calls Tryz.prog 93 _ _ _ at hcon
 unfold D.cmpV
 simp only
 generalize Lib.compareBytes n1 n2 = r at hcon ⊢
 cases d1 <;> cases d2
 · by_cases h1 : i1 < i2
   · rw [if_neg (by decide), if_pos h1]
     go_enter Tryz.func41, Tryz.ntmps41
     go_wp2
     go_ret
     exact ⟨rfl, 0, _, by rw [alloc_eq_grow, alloc_eq_grow, grow_grow]; rfl⟩
   · by_cases h2 : i2 < i1
     · rw [if_neg (by decide), if_neg h1, if_pos h2]
       go_enter Tryz.func41, Tryz.ntmps41
       go_wp2
       go_ret
       exact ⟨rfl, 0, _, by rw [alloc_eq_grow, alloc_eq_grow, grow_grow]; rfl⟩
     · rw [if_neg (by decide), if_neg h1, if_neg h2]
       go_enter Tryz.func41, Tryz.ntmps41
       go_wp2_with (go_at_call 93; refine (hcon _).mono ?_; rintro e w' ⟨rfl, rfl⟩)
       go_ret
       exact ⟨rfl, 0, _, by rw [alloc_eq_grow, alloc_eq_grow, grow_grow]; rfl⟩
 · rw [if_pos (by decide), if_pos (by decide)]
   go_enter Tryz.func41, Tryz.ntmps41
   go_wp2
   go_ret
   exact ⟨rfl, 0, _, by rw [alloc_eq_grow, alloc_eq_grow, grow_grow]; rfl⟩
 · rw [if_pos (by decide), if_neg (by decide)]
   go_enter Tryz.func41, Tryz.ntmps41
   go_wp2
   go_ret
   exact ⟨rfl, 0, _, by rw [alloc_eq_grow, alloc_eq_grow, grow_grow]; rfl⟩
 · by_cases h1 : i1 < i2
   · rw [if_neg (by decide), if_pos h1]
     go_enter Tryz.func41, Tryz.ntmps41
     go_wp2
     go_ret
     exact ⟨rfl, 0, _, by rw [alloc_eq_grow, alloc_eq_grow, grow_grow]; rfl⟩
   · by_cases h2 : i2 < i1
     · rw [if_neg (by decide), if_neg h1, if_pos h2]
       go_enter Tryz.func41, Tryz.ntmps41
       go_wp2
       go_ret
       exact ⟨rfl, 0, _, by rw [alloc_eq_grow, alloc_eq_grow, grow_grow]; rfl⟩
     · rw [if_neg (by decide), if_neg h1, if_neg h2]
       go_enter Tryz.func41, Tryz.ntmps41
       go_wp2_with (go_at_call 93; refine (hcon _).mono ?_; rintro e w' ⟨rfl, rfl⟩)
       go_ret
       exact ⟨rfl, 0, _, by rw [alloc_eq_grow, alloc_eq_grow, grow_grow]; rfl⟩
end Go.Proofs
namespace Go.As
theorem lt_tri : ∀ a b : Bytes, a < b ∨ a = b ∨ b < a
 | [], [] => .inr (.inl rfl)
 | [], _ :: _ => .inl (by simp)
 | _ :: _, [] => .inr (.inr (by simp))
 | x :: a, y :: b => by
   rw [List.cons_lt_cons_iff, List.cons_lt_cons_iff]
   by_cases h1 : x < y
   · exact .inl (.inl h1)
   by_cases h2 : y < x
   · exact .inr (.inr (.inl h2))
   have h3 : x = y := by
    apply UInt8.toNat_inj.1
    rw [UInt8.lt_iff_toNat_lt] at h1 h2; omega
   subst h3
   rcases lt_tri a b with h | h | h
   · exact .inl (.inr ⟨rfl, h⟩)
   · exact .inr (.inl (by rw [h]))
   · exact .inr (.inr (.inr ⟨rfl, h⟩))
theorem follows_self (x : Lb) : follows x x = false := by
 unfold follows
 simp [List.lt_irrefl]
theorem follows_asymm {x y : Lb} (h1 : follows x y = true) (h2 : follows y x = true) : False := by
 have := follows_trans h1 h2
 rw [follows_self] at this; cases this
theorem follows_total (x y : Lb) : follows x y = true ∨ x = y ∨ follows y x = true := by
 rw [follows_iff, follows_iff]
 obtain ⟨n1, d1, o1⟩ := x
 obtain ⟨n2, d2, o2⟩ := y
 simp only
 by_cases hd : d1 = d2
 · subst hd
   by_cases h1 : o1 < o2
   · exact .inl (.inr ⟨rfl, .inl h1⟩)
   by_cases h2 : o2 < o1
   · exact .inr (.inr (.inr ⟨rfl, .inl h2⟩))
   have ho : o1 = o2 := by omega
   subst ho
   rcases lt_tri n1 n2 with h | h | h
   · exact .inl (.inr ⟨rfl, .inr ⟨rfl, h⟩⟩)
   · subst h; exact .inr (.inl rfl)
   · exact .inr (.inr (.inr ⟨rfl, .inr ⟨rfl, h⟩⟩))
 · cases d1 <;> cases d2
   · exact absurd rfl hd
   · exact .inl (.inl ⟨rfl, rfl⟩)
   · exact .inr (.inr (.inl ⟨rfl, rfl⟩))
   · exact absurd rfl hd
theorem sorted_unique {l1 : List Lb} : ∀ {l2 : List Lb}, l1.Perm l2 → l1.Pairwise (fun a b => follows a b = true) → l2.Pairwise (fun a b => follows a b = true) → l1 = l2 := by
 induction l1 with
 | nil => intro l2 hp _ _; exact (hp.nil_eq)
 | cons x l1 ih =>
   intro l2 hp h1 h2
   cases l2 with
   | nil => exact absurd hp.symm.nil_eq (by simp)
   | cons y l2 =>
     have hx := List.pairwise_cons.1 h1
     have hy := List.pairwise_cons.1 h2
     by_cases hxy : x = y
     · subst hxy
       rw [ih (hp.cons_inv) hx.2 hy.2]
     · have m1 : x ∈ y :: l2 := hp.subset (List.mem_cons_self ..)
       have m2 : y ∈ x :: l1 := hp.symm.subset (List.mem_cons_self ..)
       have m1 : x ∈ l2 := (List.mem_cons.1 m1).resolve_left hxy
       have m2 : y ∈ l1 := (List.mem_cons.1 m2).resolve_left (Ne.symm hxy)
       exact (follows_asymm (hx.1 y m2) (hy.1 x m1)).elim
theorem ins_sorted {x : Lb} : ∀ {s : List Lb}, x ∉ s → s.Pairwise (fun a b => follows a b = true) → (insL x s).Pairwise (fun a b => follows a b = true)
 | [], _, _ => by rw [insL]; exact List.pairwise_cons.2 ⟨fun _ h => (List.not_mem_nil h).elim, List.Pairwise.nil⟩
 | y :: s, hn, h => by
   have hy := List.pairwise_cons.1 h
   rw [insL]
   split
   · rename_i hf
     refine List.pairwise_cons.2 ⟨fun z hz => ?_, ins_sorted (fun hm => hn (List.mem_cons_of_mem _ hm)) hy.2⟩
     rcases List.mem_cons.1 ((ins_perm x s).subset hz) with rfl | hz
     · exact hf
     · exact hy.1 z hz
   · rename_i hf
     have hxy : follows x y = true := by
      rcases follows_total x y with h | h | h
      · exact h
      · exact absurd (h ▸ List.mem_cons_self ..) hn
      · exact absurd h hf
     refine List.pairwise_cons.2 ⟨fun z hz => ?_, h⟩
     rcases List.mem_cons.1 hz with rfl | hz
     · exact hxy
     · exact follows_trans hxy (hy.1 z hz)
theorem sortL_sorted {l : List Lb} (hn : l.Nodup) : (sortL l).Pairwise (fun a b => follows a b = true) := by
 have gen : ∀ (l s : List Lb), (s ++ l).Nodup → s.Pairwise (fun a b => follows a b = true) → (l.foldl (fun s x => insL x s) s).Pairwise (fun a b => follows a b = true) := by
  intro l
  induction l with
  | nil => intro s _ h; exact h
  | cons x l ih =>
    intro s hn h
    rw [List.foldl_cons]
    have hnx : x ∉ s := fun hm => by
     rw [List.nodup_append] at hn
     exact hn.2.2 x hm x (List.mem_cons_self ..) rfl
    refine ih _ ?_ (ins_sorted hnx h)
    have hp : (insL x s ++ l).Perm (s ++ x :: l) := ((ins_perm x s).append_right l).trans (by rw [List.cons_append]; exact List.perm_middle.symm)
    exact hp.nodup_iff.2 hn
 exact gen l [] (by simpa using hn) List.Pairwise.nil
theorem sort_eq {l l' : List Lb} (hn : l.Nodup) (hp : l'.Perm l) (hs : ∀ (i j : Nat) (x y : Lb), i < j → l'[i]? = some x → l'[j]? = some y → follows y x = false) : l' = sortL l := by
 refine sorted_unique (hp.trans (sort_perm l).symm) ?_ (sortL_sorted hn)
 have hn' := hp.nodup_iff.2 hn
 rw [List.pairwise_iff_getElem]
 intro i j hi hj hij
 rcases follows_total l'[i] l'[j] with h | h | h
 · exact h
 · exact absurd ((List.getElem_inj hn').1 h) (by omega)
 · have := hs i j l'[i] l'[j] hij (by simp [hi]) (by simp [hj])
   rw [h] at this; cases this
end Go.As
namespace Go.Proofs.D
open Go Go.Den Go.As Go.Shelf Go.Sort Go.RowKit
set_option maxRecDepth 100000
instance : Inhabited Lb := ⟨⟨[], false, 0⟩⟩
def layF_ren : Go.Shelf.Ren := ⟨fun | 6 => 40 | 15 => 92 | 14 => 91 | 28 => 129 | 29 => 130 | 20 => 121 | 21 => 122 | 22 => 123 | 23 => 124 | 24 => 125 | 25 => 126 | 26 => 127 | 27 => 128 | 46 => 148 | 47 => 149 | 48 => 150 | 49 => 151 | 50 => 152 | 57 => 172 | n => n, fun | 22 => 23 | 24 => 80 | 25 => 82 | 3 => 3 | 39 => 98 | 0 => 0 | 53 => 161 | 55 => 178 | 4 => 4 | 46 => 171 | 45 => 170 | 50 => 45 | 5 => 5 | 9 => 9 | 66 => 192 | 70 => 196 | 76 => 213 | 77 => 102 | n => n, fun | n => n⟩
theorem layF : Go.Proofs.SlLaysF0.n6 Tryz.prog layF_ren where
 mixed := by kernel_rfl
 f6 := ⟨"slices.SortFunc[[]replevin/asm.Label,replevin/asm.Label]", by decide, Tryz.func40.trans (congrArg some (by kernel_rfl))⟩
 f14 := ⟨"slices.pdqsortCmpFunc[replevin/asm.Label]", by decide, Tryz.func91.trans (congrArg some (by kernel_rfl))⟩
 f15 := Tryz.func92.trans (congrArg some (by kernel_rfl))
 f20 := ⟨"slices.insertionSortCmpFunc[replevin/asm.Label]", by decide, Tryz.func121.trans (congrArg some (by kernel_rfl))⟩
 f21 := ⟨"slices.heapSortCmpFunc[replevin/asm.Label]", by decide, Tryz.func122.trans (congrArg some (by kernel_rfl))⟩
 f22 := ⟨"slices.breakPatternsCmpFunc[replevin/asm.Label]", by decide, Tryz.func123.trans (congrArg some (by kernel_rfl))⟩
 f23 := ⟨"slices.choosePivotCmpFunc[replevin/asm.Label]", by decide, Tryz.func124.trans (congrArg some (by kernel_rfl))⟩
 f24 := ⟨"slices.reverseRangeCmpFunc[replevin/asm.Label]", by decide, Tryz.func125.trans (congrArg some (by kernel_rfl))⟩
 f25 := ⟨"slices.partialInsertionSortCmpFunc[replevin/asm.Label]", by decide, Tryz.func126.trans (congrArg some (by kernel_rfl))⟩
 f26 := ⟨"slices.partitionEqualCmpFunc[replevin/asm.Label]", by decide, Tryz.func127.trans (congrArg some (by kernel_rfl))⟩
 f27 := ⟨"slices.partitionCmpFunc[replevin/asm.Label]", by decide, Tryz.func128.trans (congrArg some (by kernel_rfl))⟩
 f28 := Tryz.func129.trans (congrArg some (by kernel_rfl))
 f29 := Tryz.func130.trans (congrArg some (by kernel_rfl))
 f46 := ⟨"slices.siftDownCmpFunc[replevin/asm.Label]", by decide, Tryz.func148.trans (congrArg some (by kernel_rfl))⟩
 f47 := Tryz.func149.trans (congrArg some (by kernel_rfl))
 f48 := Tryz.func150.trans (congrArg some (by kernel_rfl))
 f49 := ⟨"slices.medianAdjacentCmpFunc[replevin/asm.Label]", by decide, Tryz.func151.trans (congrArg some (by kernel_rfl))⟩
 f50 := ⟨"slices.medianCmpFunc[replevin/asm.Label]", by decide, Tryz.func152.trans (congrArg some (by kernel_rfl))⟩
 f57 := ⟨"slices.order2CmpFunc[replevin/asm.Label]", by decide, Tryz.func172.trans (congrArg some (by kernel_rfl))⟩
 t0 := Tryz.underlying0
 a0 := Tryz.isAgg0
 z0 := Tryz.sizeOf0
 v0 := Tryz.zeroValue0
 t3 := Tryz.underlying3
 a3 := Tryz.isAgg3
 z3 := Tryz.sizeOf3
 v3 := Tryz.zeroValue3
 t4 := Tryz.underlying4
 a4 := Tryz.isAgg4
 z4 := Tryz.sizeOf4
 v4 := Tryz.zeroValue4
 t5 := Tryz.underlying5
 a5 := Tryz.isAgg5
 z5 := Tryz.sizeOf5
 v5 := Tryz.zeroValue5
 t9 := Tryz.underlying9
 a9 := Tryz.isAgg9
 z9 := Tryz.sizeOf9
 v9 := Tryz.zeroValue9
 t22 := Tryz.underlying23
 a22 := Tryz.isAgg23
 z22 := Tryz.sizeOf23
 v22 := Tryz.zeroValue23
 t25 := Tryz.underlying82
 a25 := Tryz.isAgg82
 z25 := Tryz.sizeOf82
 v25 := Tryz.zeroValue82
 t39 := Tryz.underlying98
 a39 := Tryz.isAgg98
 z39 := Tryz.sizeOf98
 v39 := Tryz.zeroValue98
 t45 := Tryz.underlying170
 a45 := Tryz.isAgg170
 z45 := Tryz.sizeOf170
 v45 := Tryz.zeroValue170
 t46 := Tryz.underlying171
 a46 := Tryz.isAgg171
 z46 := Tryz.sizeOf171
 v46 := Tryz.zeroValue171
 t50 := Tryz.underlying45
 a50 := Tryz.isAgg45
 z50 := Tryz.sizeOf45
 v50 := Tryz.zeroValue45
 t53 := Tryz.underlying161
 a53 := Tryz.isAgg161
 z53 := Tryz.sizeOf161
 v53 := Tryz.zeroValue161
 t55 := Tryz.underlying178
 a55 := Tryz.isAgg178
 z55 := Tryz.sizeOf178
 v55 := Tryz.zeroValue178
 t66 := Tryz.underlying192
 a66 := Tryz.isAgg192
 z66 := Tryz.sizeOf192
 v66 := Tryz.zeroValue192
 t70 := Tryz.underlying196
 a70 := Tryz.isAgg196
 z70 := Tryz.sizeOf196
 v70 := Tryz.zeroValue196
 t76 := Tryz.underlying213
 a76 := Tryz.isAgg213
 z76 := Tryz.sizeOf213
 v76 := Tryz.zeroValue213
 t77 := Tryz.underlying102
 a77 := Tryz.isAgg102
 z77 := Tryz.sizeOf102
 v77 := Tryz.zeroValue102
theorem swoL : SWO (ltOf cmpV) where
 irrefl x := by unfold ltOf; rw [cmp_follows]; exact follows_self x
 trans x y z h1 h2 := by unfold ltOf at *; rw [cmp_follows] at *; exact follows_trans h1 h2
 ntrans x y z h1 h2 := by
  unfold ltOf at *
  rw [cmp_follows] at *
  rcases follows_total x y with h | rfl | h
  · rw [h] at h1; cases h1
  · exact h2
  rcases follows_total y z with g | rfl | g
  · rw [g] at h2; cases h2
  · exact h1
  · cases hf : follows x z with
    | false => rfl
    | true => exact (follows_asymm hf (follows_trans g h)).elim
theorem lbC_len (x : Lb) : (lbC x).length = 3 := rfl
theorem flat_len (d : List Lb) : ((d.map lbC).flatten).length = d.length * 3 := by
 induction d with
 | nil => rfl
 | cons x d ih => rw [List.map_cons, List.flatten_cons, List.length_append, ih, lbC_len, List.length_cons]; omega
theorem flat_lb (d : List Lb) : flatK lbC 3 ⟨d⟩ = ⟨(d.map lbC).flatten⟩ := by
 have hl := flat_len d
 refine ext_get! (by rw [size_flatK]; show d.length * 3 = ((d.map lbC).flatten).length; omega) fun t ht => ?_
 have ht' : t < (⟨d⟩ : Array Lb).size * 3 := by rw [size_flatK] at ht; exact ht
 have ht2 : t < d.length * 3 := ht'
 have hj : t / 3 < d.length := by omega
 have hi : t % 3 < 3 := Nat.mod_lt _ (by decide)
 rw [get_flatK _ _ _ t ht']
 have hx : (⟨d⟩ : Array Lb)[t / 3]! = d[t / 3] := by rw [getElem!_pos _ _ (by show t / 3 < d.length; exact hj)]; rfl
 rw [hx]
 have h1 : (d.map lbC)[t / 3]? = some (lbC d[t / 3]) := by simp [hj]
 have h2 : (lbC d[t / 3])[t % 3]? = some ((lbC d[t / 3])[t % 3]!) := by
  rw [getElem!_pos _ _ (by rw [lbC_len]; exact hi), List.getElem?_eq_getElem]
 have := flatten_row (k := 3) (css := d.map lbC) (j := t / 3) (cs := lbC d[t / 3]) (fun i c hc => by
  rw [List.getElem?_map] at hc
  simp only [Option.map_eq_some_iff] at hc
  obtain ⟨x, _, rfl⟩ := hc; rfl) h1 (t % 3) _ h2
 rw [show t / 3 * 3 + t % 3 = t by omega] at this
 have hlt : t < ((d.map lbC).flatten).length := by rw [hl]; exact ht2
 rw [getElem!_pos (⟨(d.map lbC).flatten⟩ : Array Value) t hlt]
 show _ = ((d.map lbC).flatten)[t]
 rw [List.getElem?_eq_getElem hlt] at this
 injection this with this
 exact this.symm
theorem sort_t {h : PHeap} {b cap : Nat} {ls : List Lb} {rest : List Value} (hb : h b = some (.cells ⟨(ls.map lbC).flatten ++ rest⟩ 80 (0, 0))) (hn : ls.length ≤ 1000000) (hnd : ls.Nodup) :
 Tri Tryz.prog 40 [vL (ad b 0) ls.length cap, vF 41 [] []] h fun v h' => v = vT [] ∧ h' = h.put b (.cells ⟨((sortL ls).map lbC).flatten ++ rest⟩ 80 (0, 0)) := by
 refine tri_calls Tryz.func40 (by kernel_rfl) rfl fun w hs => ?_
 have hwb := hs _ _ hb
 have hblk : b < w.heap.size := (Array.getElem?_eq_some_iff.1 hwb).1
 have hfl := flat_len ls
 have hH : HoldsK lbC 3 w b 0 (⟨ls⟩ : Array Lb) := by
  unfold HoldsK
  rw [flat_lb]
  intro j hj
  have hj : j < ((ls.map lbC).flatten).length := hj
  rw [Nat.zero_add]
  refine ⟨?_, ?_⟩
  · have e : w.cell? ⟨b, j, none⟩ = ((ls.map lbC).flatten ++ rest)[j]? := by
     simp only [World.cell?, hwb]
     rw [if_neg (by decide), ← Array.getElem?_toList]
    rw [e, List.getElem?_append_left hj, List.getElem?_eq_getElem hj, getElem!_pos (⟨(ls.map lbC).flatten⟩ : Array Value) j hj]
    rfl
  · simp [World.frozen?, hwb]
 have eg : ∀ args w, (callFunc 41 args).run Tryz.prog w = .ok (.enter 41 args) w := enters_of Tryz.func41 (by kernel_rfl) rfl
 have hcmp : CmpLays Tryz.prog 41 #[] lbC 3 cmpV b 0 (⟨ls⟩ : Array Lb).size w := fun _ _ _ _ x y => cmp41_calls x.name y.name x.data y.data x.off y.off _
 have hcon := AnyQ.slices_SortFunc layF 3 Tryz.isAgg80 Tryz.sizeOf80 lbC lbC_len (fun x v hv => by simp [lbC] at hv; rcases hv with rfl | rfl | rfl <;> rfl) cmpV swoL 41 #[] b 0 cap (⟨ls⟩ : Array Lb) w eg hcmp hH hblk (by show ls.length < _; omega)
 refine Calls.mono hcon ?_
 rintro e w' ⟨rfl, d', n, os, hp, hso, rfl⟩
 obtain ⟨l'⟩ := d'
 have hsz : l'.length = ls.length := hp.1
 have hperm : l'.Perm ls := by
  have := hp.2.2
  have e1 : (Array.extract (⟨l'⟩ : Array Lb) 0 (⟨ls⟩ : Array Lb).size).toList = l' := by
   rw [Array.toList_extract]
   show (l'.drop 0).take (ls.length - 0) = l'
   rw [List.drop_zero, Nat.sub_zero, ← hsz, List.take_length]
  have e2 : (Array.extract (⟨ls⟩ : Array Lb) 0 (⟨ls⟩ : Array Lb).size).toList = ls := by
   rw [Array.toList_extract]
   show (ls.drop 0).take (ls.length - 0) = ls
   rw [List.drop_zero, Nat.sub_zero, List.take_length]
  rw [e1, e2] at this
  exact this
 have hl' : l' = sortL ls := sort_eq hnd hperm fun i j x y hij hx hy => by
  obtain ⟨hi, rfl⟩ := (List.getElem?_eq_some_iff.1 hx)
  obtain ⟨hj, rfl⟩ := (List.getElem?_eq_some_iff.1 hy)
  have := hso i j (Nat.zero_le _) hij (by show j < ls.length; omega)
  unfold ltOf at this
  rw [cmp_follows] at this
  rw [getElem!_pos (⟨l'⟩ : Array Lb) j hj, getElem!_pos (⟨l'⟩ : Array Lb) i hi] at this
  exact this
 subst hl'
 have heap : (sortWorldK lbC 3 w b 0 n (⟨sortL ls⟩ : Array Lb) os).heap = (w.heap.modify b (onCells (putCells id 0 (flatK lbC 3 (⟨sortL ls⟩ : Array Lb))))) ++ os := rfl
 have hfl' := flat_len (sortL ls)
 rw [hsz] at hfl'
 have hput : putCells id 0 (flatK lbC 3 (⟨sortL ls⟩ : Array Lb)) (⟨(ls.map lbC).flatten ++ rest⟩ : Array Value) = ⟨((sortL ls).map lbC).flatten ++ rest⟩ := by
  rw [flat_lb]
  unfold putCells
  apply Array.ext_getElem?
  intro t
  rw [Array.getElem?_mapIdx, ← Array.getElem?_toList, ← Array.getElem?_toList]
  simp only
  by_cases ht : t < ls.length * 3
  · rw [List.getElem?_append_left (by omega), List.getElem?_append_left (by omega), List.getElem?_eq_getElem (by omega), List.getElem?_eq_getElem (by omega)]
    simp only [Option.map_some, id]
    rw [if_pos ⟨Nat.zero_le _, by show t < 0 + (((sortL ls).map lbC).flatten).length; omega⟩, Nat.sub_zero, getElem!_pos (⟨((sortL ls).map lbC).flatten⟩ : Array Value) t (by show t < (((sortL ls).map lbC).flatten).length; omega)]
    rfl
  · rw [List.getElem?_append_right (by omega), List.getElem?_append_right (by omega), hfl, hfl']
    cases rest[t - ls.length * 3]? with
    | none => rfl
    | some v =>
      simp only [Option.map_some]
      rw [if_neg (by
       rintro ⟨_, h2⟩
       have : t < 0 + (((sortL ls).map lbC).flatten).length := h2
       omega)]
 have hsz2 : (w.heap.modify b (onCells (putCells id 0 (flatK lbC 3 (⟨sortL ls⟩ : Array Lb))))).size = w.heap.size := by rw [Array.size_modify]
 have other : ∀ k, k < w.heap.size → k ≠ b → (sortWorldK lbC 3 w b 0 n (⟨sortL ls⟩ : Array Lb) os).heap[k]? = w.heap[k]? := fun k hk hkb => by
  rw [heap, Array.getElem?_append_left (by omega), Array.getElem?_modify, if_neg (Ne.symm hkb)]
 refine ⟨_, h.put b (.cells ⟨((sortL ls).map lbC).flatten ++ rest⟩ 80 (0, 0)), rfl, ⟨rfl, rfl⟩, fun k o hk => ?_, rfl, rfl, rfl, ?_, fun k hk hno => ?_⟩
 · by_cases hkb : k = b
   · subst hkb
     rw [put_same] at hk
     injection hk with hk
     subst hk
     rw [heap, Array.getElem?_append_left (by omega), Array.getElem?_modify, if_pos rfl, hwb]
     simp only [Option.map_some, onCells, hput]
   · rw [put_ne hkb] at hk
     have := hs k o hk
     rw [other k (Array.getElem?_eq_some_iff.1 this).1 hkb]; exact this
 · rw [heap, Array.size_append, hsz2]; omega
 · have hkb : k ≠ b := fun e => by subst e; rw [hb] at hno; cases hno
   exact ⟨by rw [put_ne hkb]; exact hno, other k hk hkb⟩
theorem sort_none {h : PHeap} {a : OA} {cap : Nat} : Tri Tryz.prog 40 [vL a 0 cap, vF 41 [] []] h fun v h' => v = vT [] ∧ h' = h := by
 refine tri_calls Tryz.func40 (by kernel_rfl) rfl fun w hs => ?_
 refine Calls.mono (AnyF.slices_SortFunc_none layF a cap (vF 41 [] []) w) ?_
 rintro e w' ⟨rfl, rfl⟩
 exact ⟨_, h, rfl, ⟨rfl, rfl⟩, hs, Keep.refl _ _⟩
end Go.Proofs.D
namespace Go.Proofs.D
open Go Go.Den Go.As
set_option maxRecDepth 100000
section
variable {P : Program} {f : Operand → Value} {h : PHeap}
theorem raw_range {t ty : TypeId} {key elem : TypeId} {m : Nat} {es : Array MapEntry} {c : Nat} {x : Operand} (hu : P.underlying t = some (.map key elem)) (hx : f x = vM m) (hm : h m = some (.map es c)) :
 Raw P (execOp f (mkO (.range t x) ty)) h fun v h' => ∃ r, h r = none ∧ v = vP r 0 ∧ h' = h.put r (.mapIter (some m) c #[] c) := by
 intro w hs
 refine ⟨.value (vP w.heap.size 0), vP w.heap.size 0, w.alloc (.mapIter (some m) c #[] c), h.put w.heap.size (.mapIter (some m) c #[] c), ?_, .inl rfl, ⟨_, hs.fresh, rfl, rfl⟩, hs.allocReal _, Keep.allocReal w h _⟩
 have := run_range_map w t key elem m es c hu (hs _ _ hm)
 simp only [execOp, mkO, hx]
 simp [this]
theorem raw_entry {ty : TypeId} {r m since stamp last : Nat} {S : Array Nat} {es : Array MapEntry} {e : MapEntry} {x : Operand} (hx : f x = vP r 0) (hr : h r = some (.mapIter (some m) since (S.push stamp) last)) (hm : h m = some (.map es last)) (he : es.find? (·.born == stamp) = some e) :
 Raw P (execOp f (mkO (.entry x) ty)) h fun v h' => v = vT [e.key, e.val] ∧ h' = h := by
 intro w hs
 refine ⟨.value (vT [e.key, e.val]), _, w, h, ?_, .inl rfl, ⟨rfl, rfl⟩, hs, Keep.refl _ _⟩
 have h1 := hs _ _ hr
 have h2 := hs _ _ hm
 simp only [execOp, mkO, hx]
 simp [Instr.entry, getObj, Sem.run, h1, h2, he]
theorem raw_next {ty : TypeId} {r m since last : Nat} {S : Array Nat} {es : Array MapEntry} {clock : Nat} {x : Operand} (hx : f x = vP r 0) (hr : h r = some (.mapIter (some m) since S last)) (hm : h m = some (.map es clock)) (hold : ∀ x ∈ es.toList, x.born < since) (hsc : since ≤ last) :
 Raw P (execOp f (mkO (.next x false) ty)) h fun v h' => ((leftOf es S).size = 0 ∧ v = vT [vB false] ∧ h' = h) ∨ ∃ e ∈ (leftOf es S).toList, v = vT [vB true, e.key, e.val] ∧ h' = h.put r (.mapIter (some m) since (S.push e.born) clock) := by
 intro w hs
 have h1 := hs _ _ hr
 have h2 := hs _ _ hm
 have ht := next_test_false S es since last hold hsc
 have hmem : ∀ x ∈ (leftOf es S).toList, x.born < since := fun x hx => hold x (mem_left hx).1
 have e1 : (leftOf es S).filter (fun x => decide (x.born < since)) = leftOf es S := Array.filter_eq_self.2 (fun x hx => by simpa using hmem x (by simpa using hx))
 have e2 : (leftOf es S).filter (fun x => decide (x.born ≥ since)) = #[] := by
  rw [Array.filter_eq_empty_iff]
  intro x hx
  have := hmem x (by simpa using hx)
  simp
  omega
 have hlt : r < w.heap.size := (Array.getElem?_eq_some_iff.1 h1).1
 have hrun : (execOp f (mkO (.next x false) ty)).run P w = (execOp (fun _ => vP r 0) (mkO (.next x false) ty)).run P w := by simp only [execOp, mkO, hx]
 have hL : Array.filter (fun e => !S.contains e.born) es = leftOf es S := rfl
 by_cases h0 : (leftOf es S).size = 0
 · refine ⟨.value (vT [vB false]), _, w, h, ?_, .inl rfl, .inl ⟨h0, rfl, rfl⟩, hs, Keep.refl _ _⟩
   have hnil : leftOf es S = #[] := Array.eq_empty_of_size_eq_zero h0
   simp only [execOp, mkO, hx, Instr.next, getObj, Sem.run_bind, Sem.run, h1, h2, Result.andThen, ht, Bool.false_eq_true, if_false, hL, hnil]
   simp [choose, Sem.run, Question.forced]
 · have hne : (leftOf es S).isEmpty = false := by simp [Array.isEmpty, h0]
   have hch : ∃ (j : Nat) (w1 : World), j < (leftOf es S).size ∧ (w1.heap = w.heap ∧ w1.os = w.os ∧ w1.tape = w.tape ∧ w1.output = w.output) ∧ (choose (Question.mapNext (leftOf es S).size)).run P w = .ok j w1 := by
    by_cases hf : (leftOf es S).size ≤ 1
    · exact ⟨0, w, by omega, ⟨rfl, rfl, rfl, rfl⟩, by simp [choose, Sem.run, Question.forced, hf]⟩
    · exact ⟨_, w.drew, Nat.mod_lt _ (by omega), ⟨rfl, rfl, rfl, rfl⟩, by
       simp only [choose, Sem.run, Question.forced, decide_eq_true_eq, hf, if_false, Question.cut]
       rfl⟩
   obtain ⟨j, w1, hj, ⟨g1, g2, g3, g4⟩, hrunc⟩ := hch
   have hs1 : Sub w1 h := fun k o hk => by rw [g1]; exact hs k o hk
   obtain ⟨k1, k2⟩ := setObj_keepS (o2 := .mapIter (some m) since (S.push (leftOf es S)[j].born) clock) hs1 hr
   refine ⟨.value (vT [vB true, (leftOf es S)[j].key, (leftOf es S)[j].val]), _, { w1 with heap := w1.heap.setIfInBounds r (.mapIter (some m) since (S.push (leftOf es S)[j].born) clock) }, h.put r (.mapIter (some m) since (S.push (leftOf es S)[j].born) clock), ?_, .inl rfl, .inr ⟨(leftOf es S)[j], by simp, rfl, rfl⟩, k1, ?_⟩
   · simp only [execOp, mkO, hx, Instr.next, getObj, Sem.run_bind, Sem.run, h1, h2, Result.andThen, ht, Bool.false_eq_true, if_false, hL, e1, e2, Array.append_empty, hne, Array.empty_append, Array.size_map]
     simp only [hrunc, Array.getElem?_map, Array.getElem?_eq_getElem hj, Option.map_some, Sem.run_bind, Result.andThen, setObj, Sem.run]
     rw [show w1.heap[r]? = some (.mapIter (some m) since S last) by rw [g1]; exact h1]
     rfl
   · refine ⟨k2.os.trans g2, k2.tape.trans g3, k2.output.trans g4, by rw [← g1]; exact k2.size, fun k hk hn => ?_⟩
     have := k2.out k (by rw [g1]; exact hk) hn
     exact ⟨this.1, this.2.trans (by rw [g1])⟩
end
end Go.Proofs.D
namespace Go.As
structure UseOk (p : Pg) (u : Us) : Prop where
 code : u.kind = 0 → u.idx < p.code.length
 data : u.kind = 1 → u.idx + 4 ≤ p.data.length
 ent : u.kind = 2 → u.low = -9999999999 ∧ u.high = 9999999999
structure Inv (a : St) : Prop where
 uses : ∀ u ∈ a.uses, UseOk a.p u
 labs : ∀ l ∈ a.p.labels, 0 ≤ l.off ∧ l.off ≤ 4096
 nd : (a.p.labels.map (·.name)).Nodup
 ent : -10000000000 ≤ a.p.entry ∧ a.p.entry ≤ 10000000000
theorem UseOk.mono {p q : Pg} {u : Us} (h1 : p.code.length ≤ q.code.length) (h2 : p.data.length ≤ q.data.length) (h : UseOk p u) : UseOk q u :=
 ⟨fun e => by have := h.code e; omega, fun e => by have := h.data e; omega, h.ent⟩
theorem Inv.step {a a' : St} {us : List Us} (ha : Inv a) (h1 : a.p.code.length ≤ a'.p.code.length) (h2 : a.p.data.length ≤ a'.p.data.length) (hl : a'.p.labels = a.p.labels) (hu : a'.uses = a.uses ++ us) (he : -10000000000 ≤ a'.p.entry ∧ a'.p.entry ≤ 10000000000) (hus : ∀ u ∈ us, UseOk a'.p u) : Inv a' := by
 refine ⟨fun u hu' => ?_, by rw [hl]; exact ha.labs, by rw [hl]; exact ha.nd, he⟩
 rw [hu] at hu'
 rcases List.mem_append.1 hu' with h | h
 · exact (ha.uses u h).mono h1 h2
 · exact hus u h
theorem val_use {line kind idx : Nat} {t : Bytes} {low high : Int} {x : Int × List Us} (h : valueS line t kind idx low high = .ok x) : ∀ u ∈ x.2, u.kind = kind ∧ u.idx = idx ∧ u.low = low ∧ u.high = high := by
 unfold valueS at h
 split at h
 · split at h
   · cases h
   · injection h with h; subst h; intro u hu; cases hu
 · split at h
   · injection h with h; subst h; intro u hu; rw [List.mem_singleton.1 hu]; exact ⟨rfl, rfl, rfl, rfl⟩
   · cases h
theorem val_range {line kind idx : Nat} {t : Bytes} {low high : Int} {x : Int × List Us} (h : valueS line t kind idx low high = .ok x) : (low ≤ x.1 ∧ x.1 ≤ high) ∨ x.1 = 0 := by
 unfold valueS at h
 split at h
 · split at h
   · cases h
   · injection h with h; subst h; left; simp only; omega
 · split at h
   · injection h with h; subst h; exact .inr rfl
   · cases h
theorem words_inv : ∀ (l : List Tk) (a a' : St), wordsS a l = .ok a' → Inv a → Inv a'
 | [], a, a', h, ha => by simp [wordsS] at h; subst h; exact ha
 | t :: l, a, a', h, ha => by
   rw [wordsS] at h
   obtain ⟨⟨n, u⟩, hv, h⟩ := bind_ok h
   have hv := val_use hv
   refine words_inv l _ a' h (ha.step (us := u) (Nat.le_refl _) (by simp) rfl rfl ha.ent fun w hw => ?_)
   obtain ⟨h1, h2, h3, h4⟩ := hv w hw
   refine ⟨fun e => by omega, fun _ => ?_, fun e => by omega⟩
   rw [h2]
   simp [wordOf]
theorem bytes_inv : ∀ (l : List Tk) (a a' : St), bytesS a l = .ok a' → Inv a → Inv a'
 | [], a, a', h, ha => by simp [bytesS] at h; subst h; exact ha
 | t :: l, a, a', h, ha => by
   rw [bytesS] at h
   obtain ⟨n, hv, h⟩ := bind_ok h
   exact bytes_inv l _ a' h (ha.step (us := []) (Nat.le_refl _) (by simp) rfl (by simp) ha.ent fun w hw => by cases hw)
theorem StIs.inv {a a' : St} {n : Bytes} {l : List Tk} {c d t : Bool} {lo hi : Nat} {X : R St} (hS : StIs a l n c d lo hi t X) (ha : Inv a) (hX : X = .ok a') : Inv a' := by
 cases hS with
 | op op hf =>
   unfold instrX at hX
   split at hX
   · obtain ⟨r, _, hX⟩ := bind_ok hX
     injection hX with hX; subst hX
     exact ha.step (us := []) (by simp) (Nat.le_refl _) rfl (by simp) ha.ent fun w hw => by cases hw
   · obtain ⟨r, _, hX⟩ := bind_ok hX
     obtain ⟨x, hv, hX⟩ := bind_ok hX
     have hv := val_use hv
     injection hX with hX; subst hX
     refine ha.step (us := x.2) (by simp) (Nat.le_refl _) rfl rfl ha.ent fun w hw => ?_
     obtain ⟨h1, h2, h3, h4⟩ := hv w hw
     refine ⟨fun _ => ?_, fun e => by omega, fun e => by omega⟩
     rw [h2]; simp
 | code => injection hX with hX; subst hX; exact ⟨ha.uses, ha.labs, ha.nd, ha.ent⟩
 | data => injection hX with hX; subst hX; exact ⟨ha.uses, ha.labs, ha.nd, ha.ent⟩
 | entry =>
   unfold Go.Proofs.D.entryX at hX
   obtain ⟨x, hv, hX⟩ := bind_ok hX
   have hr := val_range hv
   have hv := val_use hv
   injection hX with hX; subst hX
   refine ha.step (us := x.2) (Nat.le_refl _) (Nat.le_refl _) rfl rfl ⟨by show _ ≤ x.1; omega, by show x.1 ≤ _; omega⟩ fun w hw => ?_
   obtain ⟨h1, h2, h3, h4⟩ := hv w hw
   exact ⟨fun e => by omega, fun e => by omega, fun _ => ⟨h3, h4⟩⟩
 | zero =>
   unfold Go.Proofs.D.zeroX at hX
   obtain ⟨x, hv, hX⟩ := bind_ok hX
   injection hX with hX; subst hX
   exact ha.step (us := []) (Nat.le_refl _) (Nat.le_refl _) rfl (by simp) ha.ent fun w hw => by cases hw
 | word => exact words_inv _ _ _ hX ha
 | byte => exact bytes_inv _ _ _ hX ha
 | text =>
   injection hX with hX; subst hX
   exact ha.step (us := []) (Nat.le_refl _) (by simp) rfl (by simp) ha.ent fun w hw => by cases hw
 | space =>
   unfold Go.Proofs.D.spaceX at hX
   obtain ⟨x, hv, hX⟩ := bind_ok hX
   injection hX with hX; subst hX
   exact ha.step (us := []) (Nat.le_refl _) (by simp) rfl (by simp) ha.ent fun w hw => by cases hw
theorem define_inv : ∀ (ls : List Bytes) (a a' : St), Lim a → Inv a → defineS a ls = .ok a' → Inv a'
 | [], a, a', hl, ha, h => by simp [defineS] at h; subst h; exact ha
 | n :: ls, a, a', hl, ha, h => by
   rw [defineS] at h
   split at h
   · cases h
   split at h
   · cases h
   rename_i hany
   split at h
   · cases h
   have h1 := hl.code
   have h2 := hl.data
   have hd := fun hL hI => define_inv ls _ a' hL hI h
   refine hd ⟨hl.code, hl.data, ?_, hl.uses⟩ ⟨fun u hu => UseOk.mono (p := a.p) (Nat.le_refl _) (Nat.le_refl _) (ha.uses u hu), fun l hm => ?_, ?_, ha.ent⟩
   · simp only [List.length_append, List.length_cons, List.length_nil]; omega
   · rcases List.mem_append.1 hm with hm | hm
     · exact ha.labs l hm
     · rw [List.mem_singleton.1 hm]
       show 0 ≤ (if a.inData then (a.p.data.length : Int) else (4 * a.p.code.length : Nat)) ∧ (if a.inData then (a.p.data.length : Int) else (4 * a.p.code.length : Nat)) ≤ 4096
       split <;> omega
   · simp only [List.map_append, List.map_cons, List.map_nil]
     refine List.nodup_append.2 ⟨ha.nd, by simp, fun x hx y hy hxy => ?_⟩
     rw [List.mem_singleton.1 hy] at hxy
     subst hxy
     obtain ⟨l, h1, h2⟩ := List.mem_map.1 hx
     refine hany ?_
     rw [List.any_eq_true]
     exact ⟨l, h1, by simpa using h2⟩
theorem tok_count {s : Bytes} {ts : List Tk} (h : tokensL s = some ts) : ts.length ≤ s.length := by
 have hc : ∀ (f : Nat) (s : Bytes) (ts : List Tk), tokensS f s = some ts → ts.length ≤ s.length := by
  intro f
  induction f with
  | zero => intro s ts h; simp [tokensS] at h
  | succ f ih =>
    intro s ts h
    match s, h with
    | [], h => simp [tokensS] at h; subst h; simp
    | c :: r, h =>
      have r1 : ∀ {s' : Bytes} {k : Tk} {x : Option (List Tk)}, s'.length ≤ r.length → x = tokensS f s' → (x.map fun l => k :: l) = some ts → ts.length ≤ (c :: r).length := fun {s' k x} hl hx he => by
       subst hx
       simp only [Option.map_eq_some_iff] at he
       obtain ⟨l, h1, rfl⟩ := he
       have := ih _ _ h1
       simp; omega
      rw [tokensS] at h
      split at h
      · simp at h; subst h; simp
      split at h
      · have := ih _ _ h; simp; omega
      split at h
      · exact r1 (Nat.le_refl _) rfl h
      split at h
      · exact r1 (Nat.le_refl _) rfl h
      split at h
      · split at h
        · cases h
        · rename_i x r' hu
          have := unq_len hu
          exact r1 (by omega) rfl h
      split at h
      · rename_i hw
        have hd : (c :: r).dropWhile wordB = r.dropWhile wordB := by simp [List.dropWhile, hw]
        rw [hd] at h
        exact r1 (drop_len r) rfl h
      · cases h
 exact hc _ _ _ h
theorem line_inv {a a' : St} {s : Bytes} (hl : Lim a) (ha : Inv a) (hs : s.length ≤ 65536) (h : lineS a s = .ok a') : Inv a' := by
 unfold lineS at h
 split at h
 · cases h
 rename_i ts ht
 split at h
 · cases h
 · rename_i ls hsp
   exact define_inv ls a a' hl ha h
 · rename_i ls n os hsp
   obtain ⟨b, hb, h⟩ := bind_ok h
   have h0 := define_inv ls a b hl ha hb
   obtain ⟨h1, h2⟩ := define_lim ls a b hl hb
   have h3 := (split_sub ts ls _ hsp).2 n os rfl
   have h4 := tok_count ht
   rcases stmt_is (n := n) (l := os) h1 (by omega) with ⟨c, d, lo, hi, t, X, hS, he⟩ | ⟨_, _, he⟩
   · rw [he] at h
     obtain ⟨g1, g2, g3, g4⟩ := do_ok h
     exact hS.inv h0 g1
   · rw [he] at h; cases h
end Go.As
namespace Go.Proofs.D
open Go Go.Den Go.As
set_option maxRecDepth 100000
attribute [local irreducible] IntKind.wrap Tri
section
variable {h : PHeap}
theorem find_take {l : List Ins} : ∀ {j : Nat}, (∀ k x, k < j → l[k]? = some x → checkI x = 0) → ((l.map checkI).find? (· ≠ 0)) = (((l.drop j).map checkI).find? (· ≠ 0)) := by
 intro j
 induction j generalizing l with
 | zero => intro _; rfl
 | succ j ih =>
   intro hk
   cases l with
   | nil => rfl
   | cons x l =>
     have h0 := hk 0 x (by omega) rfl
     rw [List.drop_succ_cons, List.map_cons, List.find?_cons, h0]
     simp only [ne_eq, not_true, decide_false]
     exact ih fun k y h1 h2 => hk (k + 1) y (by omega) (by simpa using h2)
theorem check_t (hO : OpTab h) {a1 : OA} {k1 : Nat} {a2 : OA} {k2 : Nat} {p : Pg} (hI : InAt h a1 p.code) (hL : LbAt h a2 p.labels) (hn : p.code.length ≤ 1000000) (hd : p.data.length ≤ 1000000) (hls : p.labels.length ≤ 1000000) (ho : ∀ l ∈ p.labels, -9223372036854775808 ≤ l.off ∧ l.off ≤ 9223372036854775807) (he : -9223372036854775808 ≤ p.entry ∧ p.entry ≤ 9223372036854775807) :
 Tri Tryz.prog 24 [vA [vL a1 p.code.length k1, vS p.data, vI p.zero, vI p.entry, vL a2 p.labels.length k2]] h fun v h' => v = vI (checkP p : Int) ∧ Ext h h' := by
 refine T24 ?_
 unfold R24
 refine ⟨fun m i h' => ∃ j : Nat, i = (j : Int) ∧ j + m = p.code.length ∧ h' = h ∧ ∀ k x, k < j → p.code[k]? = some x → checkI x = 0, ⟨p.code.length, 0, rfl, by omega, rfl, fun k x hk => absurd hk (Nat.not_lt_zero k)⟩, ?_⟩
 rintro m _ h1 ⟨j, rfl, hjm, rfl, hu⟩
 refine br_split (fun e => ?_) fun e => ?_
 · have hlt : j < p.code.length := by have := of_decide_eq_true e; omega
   have hg : p.code[j]? = some p.code[j] := by simp [hlt]
   have hdr := List.drop_eq_getElem_cons hlt
   generalize p.code[j] = x at *
   obtain ⟨b, o, ha, hr⟩ := hI.get hg
   refine ⟨b, o, ha, ⟨by omega, by omega⟩, _, _, _, _, (by rw [Int.toNat_natCast]; exact hr), ?_⟩
   refine Tri.mono (icheck_t h1 hO x) ?_
   rintro _ h1 ⟨rfl, rfl⟩
   refine ⟨_, rfl, br_split (fun e1 => ?_) fun e1 => ?_⟩
   · have e1 : checkI x ≠ 0 := by simpa using e1
     have : checkP p = checkI x := by
      unfold checkP
      rw [find_take hu, hdr, List.map_cons, List.find?_cons, decide_eq_true e1]
     rw [this]
     exact ⟨rfl, Ext.refl _⟩
   · have e1 : checkI x = 0 := by simpa using e1
     refine ⟨m - 1, by omega, ⟨j + 1, ?_, by omega, rfl, fun k y h1 h2 => ?_⟩, rfl, trivial⟩
     · rw [wrap64 (by omega) (by omega)]; omega
     · by_cases hk : k = j
       · subst hk; rw [hg] at h2; injection h2 with h2; rw [← h2]; exact e1
       · exact hu k y (by omega) h2
 · have hj : j = p.code.length := by have := of_decide_eq_false e; omega
   subst hj
   have hc : checkP p = if p.zero < 0 ∨ 4096 < p.zero ∨ 4096 < dataAt p + p.data.length + p.zero ∨ 1024 < p.labels.length then 9
    else if p.entry < 0 ∨ p.entry % 4 ≠ 0 ∨ 4 * (p.code.length : Int) ≤ p.entry then 2
    else if labelsErr p none p.labels ≠ 0 then labelsErr p none p.labels else if twice (p.labels.map (·.name)) then 7 else 0 := by
    unfold checkP
    rw [find_take hu, List.drop_length]; rfl
   have nine : (p.zero < 0 ∨ 4096 < p.zero ∨ 4096 < dataAt p + p.data.length + p.zero ∨ 1024 < p.labels.length) → (9 : Nat) = checkP p := fun hh => by rw [hc, if_pos hh]
   refine br_split (fun e1 => ?_) fun e1 => br_split (fun e2 => ?_) fun e2 => ?_
   · rw [← nine (.inl (of_decide_eq_true e1))]; exact ⟨rfl, rfl, Ext.refl _⟩
   · rw [← nine (.inr (.inl (of_decide_eq_true e2)))]; exact ⟨rfl, rfl, rfl, Ext.refl _⟩
   have e1 := of_decide_eq_false e1
   have e2 := of_decide_eq_false e2
   refine Tri.mono (dataAt_t hn) ?_
   rintro _ h1 ⟨rfl, rfl⟩
   have hda : 0 ≤ dataAt p ∧ dataAt p ≤ 4000100 := by unfold dataAt; omega
   refine ⟨_, rfl, rfl, rfl, rfl, rfl, ?_⟩
   rw [wrap64 (n := dataAt p + _) (by omega) (by omega), wrap64 (by omega) (by omega)]
   refine br_split (fun e3 => ?_) fun e3 => br_split (fun e4 => ?_) fun e4 => ?_
   · rw [← nine (.inr (.inr (.inl (of_decide_eq_true e3))))]; exact ⟨rfl, Ext.refl _⟩
   · rw [← nine (.inr (.inr (.inr (by have := of_decide_eq_true e4; omega))))]; exact ⟨rfl, Ext.refl _⟩
   have e3 := of_decide_eq_false e3
   have e4 := of_decide_eq_false e4
   rw [if_neg (by omega)] at hc
   rw [wrap64 (n := ((p.code.length : Nat) : Int) * 4) (by omega) (by omega), wrap64 (by omega) (by omega)]
   refine Tri.mono (place_t _ _ he) ?_
   rintro _ h1 ⟨rfl, rfl⟩
   refine ⟨_, rfl, br_split (fun e5 => ?_) fun e5 => ?_⟩
   · have e5 := of_decide_eq_false (not_f e5)
     rw [hc, if_pos (by omega)]
     exact ⟨rfl, Ext.refl _⟩
   · have e5 := of_decide_eq_true (not_t e5)
     rw [if_neg (by omega)] at hc
     refine Tri.mono (checkLabels_t hL hn hd hls (by omega) ho) ?_
     rintro _ h2 ⟨rfl, x2⟩
     rw [← hc]
     exact ⟨_, rfl, rfl, x2⟩
theorem address_t {a1 : OA} {k1 : Nat} {d : Bytes} {z e : Int} {a2 : OA} {n2 k2 : Nat} {p : Pg} {l : Lb} (hn : p.code.length ≤ 1000000) (ho : -1000000000 ≤ l.off ∧ l.off ≤ 1000000000) :
 Tri Tryz.prog 44 [vA [vL a1 p.code.length k1, vS d, vI z, vI e, vL a2 n2 k2], lbV l] h fun v h' => v = vI (placeOf p l) ∧ h' = h := by
 refine T44 ?_
 unfold R44
 have hda : 0 ≤ dataAt p ∧ dataAt p ≤ 4000100 := by unfold dataAt; omega
 refine br_split (fun e1 => ?_) fun e1 => ?_
 · refine Tri.mono (dataAt_t hn) ?_
   rintro _ h1 ⟨rfl, rfl⟩
   refine ⟨_, rfl, rfl, ?_⟩
   rw [wrap64 (by omega) (by omega)]
   unfold placeOf; rw [if_pos e1]
   exact ⟨rfl, rfl⟩
 · unfold placeOf; rw [if_neg (by rw [e1]; decide)]
   exact ⟨rfl, rfl⟩
end
end Go.Proofs.D
namespace Go.Proofs.D
open Go Go.Den Go.As
set_option maxRecDepth 100000
attribute [local irreducible] IntKind.wrap Tri
section
variable {hb h : PHeap} {p mS : Nat} {a : As.St} {K : AK}
def putU (p : Pg) (u : Us) (n : Int) : Pg := if u.kind = 0 then { p with code := setC p.code u.idx n } else if u.kind = 1 then { p with data := putW p.data u.idx n } else { p with entry := n }
theorem resolve_cons (p : Pg) (u : Us) (l : List Us) : resolveS p (u :: l) = match address p u.name with
 | none => .error (u.line, 37)
 | some n => if n < u.low ∨ u.high < n then .error (u.line, 2) else resolveS (putU p u n) l := rfl
theorem place_range {q : Pg} {l : Lb} (hn : q.code.length ≤ 1000000) (ho : 0 ≤ l.off ∧ l.off ≤ 4096) : 0 ≤ placeOf q l ∧ placeOf q l ≤ 5000000 := by
 unfold placeOf dataAt
 split <;> omega
def ValR (hb : PHeap) (p mS : Nat) (a : As.St) (K : AK) (u : Us) (v : Value) (h' : PHeap) : Prop :=
 match address a.p u.name with
 | none => v = vI 37 ∧ ASK hb h' p mS a K
 | some n => if n < u.low ∨ u.high < n then v = vI 2 ∧ ASK hb h' p mS a K else v = vI 0 ∧ ASK hb h' p mS { a with p := putU a.p u n } K
def core142 (p1 p3 p4 p5 : Nat) (l2 : Bs) (c1 : Bool) (i1 : Int) (c2 : Bool) (h_1 : PHeap) (Q : Value → PHeap → Prop) : Prop :=
 br (!c2)
 (Q (vI 37) h_1)
 (∃ (p7 o7 : Nat), h_1.cell p1 0 = some (vP p7 o7) ∧
 ∃ (a1 : OA) (n1 k1 : Nat) (l3 : Bs) (i2 i3 : Int) (a2 : OA) (n2 k2 : Nat), h_1.row p7 (o7 + 1) [vL a1 n1 k1, vS l3, vI i2, vI i3, vL a2 n2 k2] ∧
 Tri Tryz.prog 44 [vA [vL a1 n1 k1, vS l3, vI i2, vI i3, vL a2 n2 k2], vA [vS l2, vB c1, vI i1]] h_1 fun v_2 h_2 =>
 ∃ (i4 : Int), v_2 = vI i4 ∧
 (h_2.cell p1 0 = some (vP p7 o7)) ∧
 ∃ (i5 : Int), h_2.cell p3 0 = some (vI i5) ∧
 br (decide (i4 < i5))
 (Q (vI 2) h_2)
 (∃ (i6 : Int), h_2.cell p4 0 = some (vI i6) ∧
 br (decide (i4 > i6))
 (Q (vI 2) h_2)
 (∃ (f1 : Nat) (x1 y1 : List Value), h_2.cell p5 0 = some (vF f1 x1 y1) ∧
 Tri Tryz.prog f1 (x1 ++ [vI i4] ++ y1) h_2 fun v_3 h_3 =>
 v_3 = vT [] ∧
 Q (vI 0) h_3)))
theorem core_142 {u : Us} {b1 b3 b4 b5 f : Nat} {y : List Value} (hA : ASK hb h p mS a K) (h1 : hb.cell b1 0 = some (vP p 0)) (h3 : hb.cell b3 0 = some (vI (lowM u))) (h4 : hb.cell b4 0 = some (vI (highM u))) (h5 : hb.cell b5 0 = some (vF f [] y)) (hP : PutAt hb p u.kind u.idx f y)
 (hu : UseOk a.p u) (hl : ∀ l ∈ a.p.labels, 0 ≤ l.off ∧ l.off ≤ 4096) (hn : a.p.code.length ≤ 1000000) (r : Option Lb) (hr : r = a.p.labels.find? fun l => l.name == u.name) {s1 : Bs} {c1 : Bool} {i1 : Int} (hv : getD2 (vA [vS [], vB false, vI 0]) (r.map lbV) = vA [vS s1, vB c1, vI i1]) :
 core142 b1 b3 b4 b5 s1 c1 i1 (r.map lbV).isSome h fun v h' => ValR hb p mS a K u v h' := by
 unfold core142
 cases r with
 | none =>
   refine br_pos rfl ?_
   unfold ValR address
   rw [← hr]
   exact ⟨rfl, hA⟩
 | some l =>
   have hm : l ∈ a.p.labels := List.mem_of_find?_eq_some hr.symm
   have hl := hl l hm
   have hpr := place_range hn hl
   have hadr : address a.p u.name = some (placeOf a.p l) := by unfold address; rw [← hr]; rfl
   have hv : lbV l = vA [vS s1, vB c1, vI i1] := hv
   have hx := hA.ext
   have hrow : h.row p (0 + 1) [vL K.ca a.p.code.length K.cc, vS [], vI a.p.zero, vI a.p.entry, vL none 0 0] := by
    refine ⟨?_, ?_, ?_, ?_, ?_⟩
    all_goals first | (rw [PA_cell hA.obj]; rfl) | (show h.cell _ _ = _; rw [PA_cell hA.obj]; rfl)
   refine br_neg rfl ⟨p, 0, cell_ext (fun ob => hx b1 ob) h1, K.ca, _, K.cc, [], a.p.zero, a.p.entry, none, 0, 0, hrow, ?_⟩
   rw [← hv]
   refine Tri.mono (address_t (p := a.p) hn (by omega)) ?_
   rintro _ h2 ⟨rfl, rfl⟩
   have lowE : placeOf a.p l < lowM u ↔ placeOf a.p l < u.low := by
    unfold lowM
    split
    · rename_i hk; have := (hu.ent hk).1; omega
    · exact Iff.rfl
   have highE : highM u < placeOf a.p l ↔ u.high < placeOf a.p l := by
    unfold highM
    split
    · rename_i hk; have := (hu.ent hk).2; omega
    · exact Iff.rfl
   have two : placeOf a.p l < u.low ∨ u.high < placeOf a.p l → ValR hb p mS a K u (vI 2) h2 := fun hh => by
    unfold ValR; rw [hadr]; simp only; rw [if_pos hh]; exact ⟨trivial, hA⟩
   refine ⟨_, rfl, cell_ext (fun ob => hx b1 ob) h1, _, cell_ext (fun ob => hx b3 ob) h3, br_split (fun e => two (.inl (lowE.1 (of_decide_eq_true e)))) fun e => ⟨_, cell_ext (fun ob => hx b4 ob) h4, br_split (fun e' => two (.inr (highE.1 (of_decide_eq_true e')))) fun e' => ⟨f, [], y, cell_ext (fun ob => hx b5 ob) h5, ?_⟩⟩⟩
   have e := of_decide_eq_false e
   have e' := of_decide_eq_false e'
   have hno : ¬ (placeOf a.p l < u.low ∨ u.high < placeOf a.p l) := fun hh => hh.elim (fun hh => e (lowE.2 hh)) fun hh => e' (highE.2 hh)
   have fin : ∀ h', ASK hb h' p mS { a with p := putU a.p u (placeOf a.p l) } K → ValR hb p mS a K u (vI 0) h' := fun h' hh => by
    unfold ValR; rw [hadr]; simp only; rw [if_neg hno]; exact ⟨trivial, hh⟩
   rcases hP with ⟨hk, rfl, c, rfl, hc⟩ | ⟨hk, rfl, c, d, rfl, hc, hd⟩ | ⟨hk, rfl, c, d, rfl, hc, hd⟩
   · refine Tri.mono (put109_k hA hc) ?_
     rintro _ h3 ⟨rfl, hA3⟩
     refine ⟨rfl, fin _ ?_⟩
     unfold putU; rw [if_neg (by omega), if_neg (by omega)]; exact hA3
   · refine Tri.mono (put112_k hA hc hd (hu.data hk)) ?_
     rintro _ h3 ⟨rfl, hA3⟩
     refine ⟨rfl, fin _ ?_⟩
     unfold putU; rw [if_neg (by omega), if_pos hk]; exact hA3
   · refine Tri.mono (put115_k hA hc hd (hu.code hk)) ?_
     rintro _ h3 ⟨rfl, hA3⟩
     refine ⟨rfl, fin _ ?_⟩
     unfold putU; rw [if_pos hk]; exact hA3
theorem value1_t {u : Us} {b1 b2 b3 b4 b5 f : Nat} {y : List Value} (hA : ASK hb h p mS a K) (h1 : hb.cell b1 0 = some (vP p 0)) (h2 : hb.cell b2 0 = some (vS u.name)) (h3 : hb.cell b3 0 = some (vI (lowM u))) (h4 : hb.cell b4 0 = some (vI (highM u))) (h5 : hb.cell b5 0 = some (vF f [] y)) (hP : PutAt hb p u.kind u.idx f y)
 (hu : UseOk a.p u) (hl : ∀ l ∈ a.p.labels, 0 ≤ l.off ∧ l.off ≤ 4096) (hn : a.p.code.length ≤ 1000000) :
 Tri Tryz.prog 142 [vP b1 0, vP b2 0, vP b3 0, vP b4 0, vP b5 0] h fun v h' => ValR hb p mS a K u v h' := by
 refine T142 ?_
 unfold R142
 have hx := hA.ext
 have hmb : h.cell p 10 = some (vM K.mb) := by rw [PA_cell hA.obj]; rfl
 obtain ⟨s1, c1, i1, hv⟩ := lbV_is (a.p.labels.find? fun l => l.name == u.name)
 have hcore := core_142 hA h1 h3 h4 h5 hP hu hl hn _ rfl hv
 refine ⟨p, 0, cell_ext (fun ob => hx b1 ob) h1, K.mb, hmb, u.name, cell_ext (fun ob => hx b2 ob) h2, ?_, cell_ext (fun ob => hx b2 ob) h2, hmb, cell_ext (fun ob => hx b1 ob) h1, ?_⟩
 · refine Raw.mono (raw_lookupS und71 rfl (z := vA [vS [], vB false, vI 0]) rfl rfl rfl hA.labs) ?_
   rintro _ h1' ⟨rfl, rfl⟩
   rw [get_labE]
   simp only [if_true, hv]
   exact ⟨_, _, _, _, rfl, cell_ext (fun ob => hx b1 ob) h1, cell_ext (fun ob => hx b1 ob) h1, hcore⟩
 · refine Raw.mono (raw_lookupS und71 rfl (z := vA [vS [], vB false, vI 0]) rfl rfl rfl hA.labs) ?_
   rintro _ h1' ⟨rfl, rfl⟩
   rw [get_labE]
   simp only [if_true, hv]
   exact ⟨_, _, _, _, rfl, cell_ext (fun ob => hx b1 ob) h1, hcore⟩
end
end Go.Proofs.D
namespace Go.Proofs.D
open Go Go.Den Go.As
set_option maxRecDepth 100000
attribute [local irreducible] IntKind.wrap Tri
theorem und23 : Tryz.prog.underlying 23 = some (.slice 80) := rfl
theorem elem80 : ElemT 80 3 := ⟨_, _, rfl, rfl, rfl, rfl, by decide⟩
theorem mem_ents : ∀ (ls : List Lb) (i : Nat) (e : MapEntry), e ∈ ents (labE i ls) → ∃ j l, ls[j]? = some l ∧ e = ⟨vS l.name, lbV l, i + j⟩
 | [], i, e, h => by cases h
 | l :: ls, i, e, h => by
   rcases List.mem_cons.1 h with rfl | h
   · exact ⟨0, l, rfl, rfl⟩
   · obtain ⟨j, l', h1, h2⟩ := mem_ents ls (i + 1) e h
     exact ⟨j + 1, l', by simpa using h1, by rw [h2, show i + (j + 1) = i + 1 + j by omega]⟩
theorem ents_mem : ∀ (ls : List Lb) (i j : Nat) (l : Lb), ls[j]? = some l → (⟨vS l.name, lbV l, i + j⟩ : MapEntry) ∈ ents (labE i ls)
 | [], _, _, _, h => by simp at h
 | l :: ls, i, 0, l', h => by
   have : l = l' := by simpa using h
   subst this; exact List.mem_cons_self ..
 | l :: ls, i, j + 1, l', h => by
   refine List.mem_cons_of_mem _ ?_
   have := ents_mem ls (i + 1) j l' (by simpa using h)
   rwa [show i + 1 + j = i + (j + 1) by omega] at this
theorem ents_born : ∀ (ls : List Lb) (i : Nat), (ents (labE i ls)).map (·.born) = List.range' i ls.length
 | [], _ => rfl
 | l :: ls, i => by
   show i :: (ents (labE (i + 1) ls)).map (·.born) = _
   rw [ents_born ls (i + 1), List.length_cons, List.range'_succ]
def pick (ls : List Lb) (S : List Nat) : List Lb := S.map fun i => ls.getD i ⟨[], false, 0⟩
theorem pick_perm {ls : List Lb} {S : List Nat} (hn : S.Nodup) (hlt : ∀ i ∈ S, i < ls.length) (hall : ∀ i, i < ls.length → i ∈ S) : (pick ls S).Perm ls := by
 have h1 : S.Perm (List.range ls.length) := by
  rw [List.perm_ext_iff_of_nodup hn List.nodup_range]
  intro i
  rw [List.mem_range]
  exact ⟨hlt i, hall i⟩
 have h2 : pick ls (List.range ls.length) = ls := by
  unfold pick
  apply List.ext_getElem?
  intro j
  by_cases hj : j < ls.length
  · simp [hj]
  · simp [hj]
 have := h1.map fun i => ls.getD i ⟨[], false, 0⟩
 unfold pick at *
 rw [h2] at this
 exact this
theorem nodup_names {ls : List Lb} (h : (ls.map (·.name)).Nodup) : ls.Nodup := by
 induction ls with
 | nil => exact List.nodup_nil
 | cons l ls ih =>
   rw [List.map_cons, List.nodup_cons] at h
   exact List.nodup_cons.2 ⟨fun hm => h.1 (List.mem_map_of_mem hm), ih h.2⟩
theorem sort_perm_eq {L ls : List Lb} (hp : L.Perm ls) (hn : ls.Nodup) : sortL L = sortL ls := by
 have hnL := hp.nodup_iff.2 hn
 exact sorted_unique ((sort_perm L).trans (hp.trans (sort_perm ls).symm)) (sortL_sorted hnL) (sortL_sorted hn)
theorem LM.rowAt {e k : Nat} {h0 h : PHeap} {a : OA} {n c : Nat} {css : List (List Value)} (hM : LM e k h0 h a n c css) {j : Nat} {cs : List Value} (hj : css[j]? = some cs) : ∃ b, a = ad b 0 ∧ h.row b (0 + j * k) cs := by
 have hjl := (List.getElem?_eq_some_iff.1 hj).1
 obtain ⟨b, rest, h1, h2, h3, h4, h5⟩ := hM.open (by have := hM.len; omega)
 refine ⟨b, h1, row_lit h2 fun i v hv => ?_⟩
 have := flatten_row (k := k) (css := css) (j := j) (cs := cs) (fun i c hc => hM.each i c hc) hj i v hv
 rw [Nat.zero_add, List.getElem?_append_left (List.getElem?_eq_some_iff.1 this).1]
 exact this
theorem LM.lbs {h0 h : PHeap} {a : OA} {n c : Nat} {L : List Lb} (hM : LM 80 3 h0 h a n c (L.map lbC)) : LbAt h a L := by
 by_cases hL : L = []
 · exact .inl hL
 have hn : 0 < n := by
  have := hM.len
  cases L with
  | nil => exact absurd rfl hL
  | cons x L => simp at this; omega
 obtain ⟨b, rest, h1, h2, _⟩ := hM.open hn
 refine .inr ⟨b, 0, h1, fun j l hj => ?_⟩
 obtain ⟨b', h3, h4⟩ := hM.rowAt (j := j) (cs := lbC l) (by simp [hj])
 rw [h1] at h3; injection h3 with h3; injection h3 with h3
 subst h3; exact h4
theorem LM.ins {h0 h : PHeap} {a : OA} {n c : Nat} {L : List Ins} (hM : LM 58 4 h0 h a n c (inL L)) : InAt h a L := by
 by_cases hL : L = []
 · exact .inl hL
 have hn : 0 < n := by
  have := hM.len
  cases L with
  | nil => exact absurd rfl hL
  | cons x L => simp [inL] at this; omega
 obtain ⟨b, rest, h1, h2, _⟩ := hM.open hn
 refine .inr ⟨b, 0, h1, fun j l hj => ?_⟩
 obtain ⟨b', h3, h4⟩ := hM.rowAt (j := j) (cs := insC l) (by simp [inL, hj])
 rw [h1] at h3; injection h3 with h3; injection h3 with h3
 subst h3; exact h4
def FA (mS : Nat) (ca : OA) (cc : Nat) (q : Pg) (la : OA) (ln lc : Nat) (tl : List Value) : Obj :=
 .cells ⟨[vM mS, vL ca q.code.length cc, vS q.data, vI q.zero, vI q.entry, vL la ln lc] ++ tl⟩ 74 (0, 0)
def emptyV : Value := vA [vL none 0 0, vS [], vI 0, vI 0, vL none 0 0]
def AsmR (h0 : PHeap) (r : Except (Nat × Nat) Pg) (v : Value) (h' : PHeap) : Prop := Ext h0 h' ∧ match r with
 | .error (l, e) => e ≠ 0 ∧ v = vT [emptyV, vI (l : Int), vI (e : Int)]
 | .ok q => ∃ a1 k1 a2 k2, v = vT [vA [vL a1 q.code.length k1, vS q.data, vI q.zero, vI q.entry, vL a2 q.labels.length k2], vI 0, vI 0] ∧ InAt h' a1 q.code ∧ LbAt h' a2 q.labels ∧ okN a1 q.code.length k1 ∧ okN a2 q.labels.length k2
def finS (q : Pg) : Except (Nat × Nat) Pg :=
 let q := { q with labels := sortL q.labels }
 let e := checkP q
 if e ≠ 0 then .error (0, e) else .ok q
def endT (b1 : Nat) (h_13 : PHeap) (Q : Value → PHeap → Prop) : Prop :=
 ∃ (a8 : OA) (n8 k9 : Nat), h_13.cell b1 5 = some (vL a8 n8 k9) ∧
 Tri Tryz.prog 40 [vL a8 n8 k9, vF 41 [] []] h_13 fun v_8 h_14 =>
 v_8 = vT [] ∧
 ∃ (a9 : OA) (n9 k10 : Nat) (l8 : Bs) (i11 i12 : Int) (a10 : OA) (n10 k11 : Nat), h_14.row b1 1 [vL a9 n9 k10, vS l8, vI i11, vI i12, vL a10 n10 k11] ∧
 Tri Tryz.prog 24 [vA [vL a9 n9 k10, vS l8, vI i11, vI i12, vL a10 n10 k11]] h_14 fun v_9 h_15 =>
 ∃ (i13 : Int), v_9 = vI i13 ∧
 br (i13 != 0)
 (Q (vT [vA [vL none 0 0, vS [], vI 0, vI 0, vL none 0 0], vI 0, vI i13]) h_15)
 (∃ (a11 : OA) (n11 k12 : Nat) (l9 : Bs) (i14 i15 : Int) (a12 : OA) (n12 k13 : Nat), h_15.row b1 1 [vL a11 n11 k12, vS l9, vI i14, vI i15, vL a12 n12 k13] ∧
 Q (vT [vA [vL a11 n11 k12, vS l9, vI i14, vI i15, vL a12 n12 k13], vI 0, vI 0]) h_15)
section
variable {h0 hb h : PHeap} {p mS : Nat}
theorem FA_row {ca : OA} {cc : Nat} {q : Pg} {la : OA} {ln lc : Nat} {tl : List Value} (hp : h p = some (FA mS ca cc q la ln lc tl)) : h.row p 1 [vL ca q.code.length cc, vS q.data, vI q.zero, vI q.entry, vL la ln lc] :=
 ⟨(cell_of hp 1).trans rfl, (cell_of hp 2).trans rfl, (cell_of hp 3).trans rfl, (cell_of hp 4).trans rfl, (cell_of hp 5).trans rfl⟩
theorem end_13 {ca : OA} {cc : Nat} {q : Pg} {la : OA} {lc : Nat} {tl : List Value} {L : List Lb} (x0 : Ext h0 hb) (hO : OpTab hb) (hx : Ext hb h) (hpn : hb p = none) (hp : h p = some (FA mS ca cc q la L.length lc tl)) (hM : LM 80 3 hb h la L.length lc (L.map lbC)) (hI : InAt hb ca q.code) (hc : okN ca q.code.length cc)
 (hL : L.Perm q.labels) (hnd : (q.labels.map (·.name)).Nodup) (hn : q.code.length ≤ 1000000) (hd : q.data.length ≤ 1000000) (hl : q.labels.length ≤ 1000000) (ho : ∀ l ∈ q.labels, 0 ≤ l.off ∧ l.off ≤ 4096) (he : -10000000000 ≤ q.entry ∧ q.entry ≤ 10000000000) :
 endT p h fun v h' => AsmR h0 (finS q) v h' := by
 unfold endT
 have hnd' := nodup_names hnd
 have hndL := hL.nodup_iff.2 hnd'
 have hsl : sortL L = sortL q.labels := sort_perm_eq hL hnd'
 have hlen : L.length = q.labels.length := hL.length_eq
 have hslen : (sortL L).length = L.length := (sort_perm L).length_eq
 refine ⟨la, L.length, lc, (FA_row hp).2.2.2.2, ?_⟩
 have rest : ∀ h14, Ext hb h14 → h14 p = some (FA mS ca cc q la L.length lc tl) → LM 80 3 hb h14 la L.length lc ((sortL L).map lbC) →
  ∃ (a9 : OA) (n9 k10 : Nat) (l8 : Bs) (i11 i12 : Int) (a10 : OA) (n10 k11 : Nat), h14.row p 1 [vL a9 n9 k10, vS l8, vI i11, vI i12, vL a10 n10 k11] ∧
  Tri Tryz.prog 24 [vA [vL a9 n9 k10, vS l8, vI i11, vI i12, vL a10 n10 k11]] h14 fun v_9 h_15 =>
  ∃ (i13 : Int), v_9 = vI i13 ∧
  br (i13 != 0)
  (AsmR h0 (finS q) (vT [vA [vL none 0 0, vS [], vI 0, vI 0, vL none 0 0], vI 0, vI i13]) h_15)
  (∃ (a11 : OA) (n11 k12 : Nat) (l9 : Bs) (i14 i15 : Int) (a12 : OA) (n12 k13 : Nat), h_15.row p 1 [vL a11 n11 k12, vS l9, vI i14, vI i15, vL a12 n12 k13] ∧
  AsmR h0 (finS q) (vT [vA [vL a11 n11 k12, vS l9, vI i14, vI i15, vL a12 n12 k13], vI 0, vI 0]) h_15) := fun h14 x14 hp14 hM14 => by
  refine ⟨_, _, _, _, _, _, _, _, _, FA_row hp14, ?_⟩
  have hl2 : (sortL q.labels).length = L.length := by rw [← hsl]; exact hslen
  rw [← hl2]
  have hlb := hM14.lbs
  rw [hsl] at hlb
  refine Tri.mono (check_t (p := { q with labels := sortL q.labels }) (hO.ext x14) (hI.ext x14) hlb hn hd (by show (sortL q.labels).length ≤ _; omega) (fun l hm => ?_) (by show _ ≤ q.entry ∧ q.entry ≤ _; omega)) ?_
  · have := ho l ((sort_perm q.labels).subset hm); omega
  rintro _ h15 ⟨rfl, x15⟩
  refine ⟨_, rfl, br_split (fun e => ?_) fun e => ?_⟩
  · have e : checkP { q with labels := sortL q.labels } ≠ 0 := by simpa using e
    refine ⟨x0.trans (x14.trans x15), ?_⟩
    unfold finS
    simp only
    rw [if_pos e]
    exact ⟨e, rfl⟩
  · have e : checkP { q with labels := sortL q.labels } = 0 := by simpa using e
    have hok := hM14.okN
    refine ⟨_, _, _, _, _, _, _, _, _, FA_row (x15 _ _ hp14), ?_⟩
    refine ⟨x0.trans (x14.trans x15), ?_⟩
    unfold finS
    simp only
    rw [if_neg (by simp [e])]
    refine ⟨_, _, _, _, ?_, (hI.ext x14).ext x15, hlb.ext x15, hc, by rw [hl2]; exact hok⟩
    rw [hl2]
 by_cases hL0 : L = []
 · subst hL0
   refine Tri.mono sort_none ?_
   rintro _ h14 ⟨rfl, rfl⟩
   exact ⟨rfl, rest _ hx hp hM⟩
 · have hn0 : 0 < L.length := List.length_pos_iff.2 hL0
   obtain ⟨b, rst, hla, hbk, hr, hcc, _⟩ := hM.open hn0
   have hbp : b ≠ p := hM.ne hp (notE_cells (by decide) _ _) b hla
   subst hla
   refine Tri.mono (sort_t hbk (by omega) hndL) ?_
   rintro _ h14 ⟨rfl, rfl⟩
   refine ⟨rfl, rest _ (fun q' o hq => ?_) ?_ ?_⟩
   · rw [put_ne fun e => by subst e; rw [(hM.own q' rfl).1] at hq; cases hq]; exact hx _ _ hq
   · rw [put_ne (Ne.symm hbp)]; exact hp
   · exact hM.write hbk hr hcc hn0 (by rw [List.length_map, hslen]) fun cs hcs => by obtain ⟨x, _, rfl⟩ := List.mem_map.1 hcs; rfl
end
end Go.Proofs.D
namespace Go.Proofs.D
open Go Go.Den Go.As
set_option maxRecDepth 100000
attribute [local irreducible] IntKind.wrap Tri
theorem nodup_le : ∀ (n : Nat) (S : List Nat), S.Nodup → (∀ i ∈ S, i < n) → S.length ≤ n
 | 0, S, _, h => by
   cases S with
   | nil => simp
   | cons x S => exact absurd (h x (List.mem_cons_self ..)) (Nat.not_lt_zero _)
 | n + 1, S, hn, h => by
   have := nodup_le n (S.erase n) (hn.erase n) fun i hi => by
    have h1 := (hn.mem_erase_iff).1 hi
    have := h i h1.2
    have := h1.1
    omega
   rw [List.length_erase] at this
   split at this <;> omega
section
variable {h0 hb h : PHeap} {p mS : Nat}
def loopT (b1 p1 : Nat) (X : List Value) (h_11 : PHeap) (Q : Value → PHeap → Prop) : Prop :=
 ∃ (I_3 : Nat → PHeap → Prop), (∃ (m11 : Nat), I_3 m11 h_11) ∧
 ∀ (m10 : Nat) (h_12 : PHeap), I_3 m10 h_12 →
 Raw Tryz.prog (execOp (rho [(80, vP p1 0)]) (mkO o13_10 0)) h_12 fun v_7 h_13 =>
 ((v_7 = vT [vB false] ∧ endT b1 h_13 Q) ∨
 (∃ (k8 u1 : Value), v_7 = vT [vB true, k8, u1] ∧
 Raw Tryz.prog (execOp (rho [(80, vP p1 0)]) (mkO o13_12 0)) h_13 fun v_10 h_16 =>
 ∃ (l10 l11 : Bs) (c1 : Bool) (i16 : Int), v_10 = vT [vS l10, vA [vS l11, vB c1, vI i16]] ∧
 ∃ (a13 : OA) (n13 k14 : Nat), h_16.cell b1 5 = some (vL a13 n13 k14) ∧
 ∀ (b4 : Nat), h_16 b4 = none → ∀ (h_17 : PHeap), h_17 = h_16.put b4 (.cells ⟨[vS l11, vB c1, vI i16]⟩ 80) →
 (h_17.cell b1 5 = some (vL a13 n13 k14)) ∧
 Raw Tryz.prog (execOp (rho [(90, vL a13 n13 k14), (92, vL (ad b4 0) 1 1)]) (mkO o13_14 23)) h_17 fun v_11 h_18 =>
 ∃ (a14 : OA) (n14 k15 : Nat), v_11 = vL a14 n14 k15 ∧
 ∃ (l12 : List Value) (t3 : TypeId) (z3 : Nat × Nat), h_18 b1 = some (.cells ⟨l12⟩ t3 z3) ∧ (5 + 1 ≤ l12.length ∧ z3.2 ≤ 5) ∧
 ∀ (h_19 : PHeap), h_19 = h_18.put b1 (.cells ⟨splice l12 5 [vL a14 n14 k15]⟩ t3 z3) →
 ∃ (m12 : Nat), m12 < m10 ∧ I_3 m12 h_19 ∧
 tv X ∧ True))
theorem loop_13 {X : List Value} {ca : OA} {cc r mb : Nat} {q : Pg} {tl : List Value} (x0 : Ext h0 hb) (hO : OpTab hb) (hx : Ext hb h) (hpn : hb p = none) (hp : h p = some (FA mS ca cc q none 0 0 tl)) (hI : InAt hb ca q.code) (hc : okN ca q.code.length cc)
 (hrn : hb r = none) (hrp : r ≠ p) (hr : h r = some (.mapIter (some mb) q.labels.length #[] q.labels.length)) (hm : hb mb = some (.map ⟨ents (labE 0 q.labels)⟩ q.labels.length))
 (hnd : (q.labels.map (·.name)).Nodup) (hn : q.code.length ≤ 1000000) (hd : q.data.length ≤ 1000000) (hl : q.labels.length ≤ 1000000) (ho : ∀ l ∈ q.labels, 0 ≤ l.off ∧ l.off ≤ 4096) (he : -10000000000 ≤ q.entry ∧ q.entry ≤ 10000000000) :
 loopT p r X h fun v h' => AsmR h0 (finS q) v h' := by
 unfold loopT
 refine ⟨fun m h' => ∃ (S : List Nat) (la : OA) (lc : Nat), S.length + m = q.labels.length ∧ S.Nodup ∧ (∀ i ∈ S, i < q.labels.length) ∧ Ext hb h' ∧ h' r = some (.mapIter (some mb) q.labels.length ⟨S⟩ q.labels.length) ∧ h' p = some (FA mS ca cc q la S.length lc tl) ∧ LM 80 3 hb h' la S.length lc ((pick q.labels S).map lbC),
  ⟨q.labels.length, [], none, 0, by simp, List.nodup_nil, fun i hi => (List.not_mem_nil hi).elim, hx, hr, hp, LM.nil⟩, ?_⟩
 rintro m h1 ⟨S, la, lc, hm1, hSn, hSlt, hx1, hr1, hp1, hM⟩
 have hes : ∀ e ∈ (⟨ents (labE 0 q.labels)⟩ : Array MapEntry).toList, e.born < q.labels.length := fun e hem => by
  obtain ⟨j, l, h1, rfl⟩ := mem_ents _ _ _ hem
  have := (List.getElem?_eq_some_iff.1 h1).1
  simp; omega
 refine Raw.mono (raw_next rfl hr1 (hx1 _ _ hm) hes (Nat.le_refl _)) ?_
 rintro v h2 (⟨h0', rfl, rfl⟩ | ⟨e, hem, rfl, rfl⟩)
 · left
   refine ⟨rfl, ?_⟩
   have hall : ∀ i, i < q.labels.length → i ∈ S := fun i hi => by
    by_cases hiS : i ∈ S
    · exact hiS
    have hmem := ents_mem q.labels 0 i q.labels[i] (by simp [hi])
    rw [Nat.zero_add] at hmem
    have : (⟨vS q.labels[i].name, lbV q.labels[i], i⟩ : MapEntry) ∈ leftOf ⟨ents (labE 0 q.labels)⟩ ⟨S⟩ := by
     unfold leftOf
     rw [Array.mem_filter]
     refine ⟨Array.mem_def.2 hmem, ?_⟩
     simp [hiS]
    have hnil : leftOf ⟨ents (labE 0 q.labels)⟩ ⟨S⟩ = #[] := Array.eq_empty_of_size_eq_zero h0'
    rw [hnil] at this
    exact absurd this (Array.not_mem_empty _)
   have hpl : (pick q.labels S).length = S.length := by simp [pick]
   rw [← hpl] at hp1 hM
   exact end_13 x0 hO hx1 hpn hp1 hM hI hc (pick_perm hSn hSlt hall) hnd hn hd hl ho he
 · right
   obtain ⟨hem1, hem2⟩ := mem_left hem
   obtain ⟨j, l, hj, rfl⟩ := mem_ents _ _ _ hem1
   rw [Nat.zero_add] at *
   have hjS : j ∉ S := fun h => by
    have : (⟨S⟩ : Array Nat).contains j = true := by simp [h]
    rw [this] at hem2; cases hem2
   have hjl := (List.getElem?_eq_some_iff.1 hj).1
   have hpush : (⟨S⟩ : Array Nat).push j = ⟨S ++ [j]⟩ := by apply Array.toList_inj.1; simp
   have hlt : S.length < q.labels.length := by
    have h1 : (S ++ [j]).Nodup := List.nodup_append.2 ⟨hSn, by simp, fun x hx y hy hxy => by rw [List.mem_singleton.1 hy] at hxy; subst hxy; exact hjS hx⟩
    have h2 := nodup_le _ _ h1 fun i hi => by
     rcases List.mem_append.1 hi with hi | hi
     · exact hSlt i hi
     · rw [List.mem_singleton.1 hi]; exact hjl
    rw [List.length_append] at h2
    simp only [List.length_cons, List.length_nil] at h2; omega
   refine ⟨_, _, rfl, ?_⟩
   have hrn2 : NotE 80 (.mapIter (some mb) q.labels.length ((⟨S⟩ : Array Nat)) q.labels.length) := fun l z he => by cases he
   have hM2 := hM.put (o' := .mapIter (some mb) q.labels.length ((⟨S⟩ : Array Nat).push j) q.labels.length) hr1 hrn2
   have hx2 : Ext hb (h1.put r (.mapIter (some mb) q.labels.length ((⟨S⟩ : Array Nat).push j) q.labels.length)) := fun b o hb' => by
    rw [put_ne fun e => by subst e; rw [hrn] at hb'; cases hb']; exact hx1 _ _ hb'
   have hp2 : (h1.put r (.mapIter (some mb) q.labels.length ((⟨S⟩ : Array Nat).push j) q.labels.length)) p = some (FA mS ca cc q la S.length lc tl) := by
    rw [put_ne (Ne.symm hrp)]; exact hp1
   have hr2 : (h1.put r (.mapIter (some mb) q.labels.length ((⟨S⟩ : Array Nat).push j) q.labels.length)) r = some (.mapIter (some mb) q.labels.length ((⟨S⟩ : Array Nat).push j) q.labels.length) := put_same _ _ _
   generalize (h1.put r (.mapIter (some mb) q.labels.length ((⟨S⟩ : Array Nat).push j) q.labels.length)) = h2 at *
   have hfind : (⟨ents (labE 0 q.labels)⟩ : Array MapEntry).find? (·.born == j) = some ⟨vS l.name, lbV l, j⟩ := by
    rw [← Array.find?_toList]
    exact find_born ⟨vS l.name, lbV l, j⟩ _ (by rw [ents_born]; exact List.nodup_range') hem1
   refine Raw.mono (raw_entry rfl hr2 (hx2 _ _ hm) hfind) ?_
   rintro _ h3 ⟨rfl, rfl⟩
   refine ⟨l.name, l.name, l.data, l.off, rfl, la, S.length, lc, (FA_row hp2).2.2.2.2, ?_⟩
   intro b4 hb4 h4 hh4
   have x4 := Put.ext hh4 hb4
   have hp4 := x4 _ _ hp2
   have hr4 := x4 _ _ hr2
   refine ⟨(FA_row hp4).2.2.2.2, ?_⟩
   have hSlen : S.length ≤ q.labels.length := by omega
   refine Raw.mono (LM.push und23 elem80 rfl rfl rfl rfl rfl hx2 hM2 hb4 hh4 rfl rfl (by omega)) ?_
   rintro _ h5 ⟨b5, cap, rfl, hx5, hM5, hg⟩
   have hM4 := hM2.ext x4
   have hp5 : h5 p = h4 p := hg.ne hM4 hp4 (notE_cells (by decide) _ _)
   have hr5 : h5 r = h4 r := hg.ne hM4 hr4 (fun l z he => by cases he)
   refine ⟨_, _, _, rfl, _, _, _, (by rw [hp5]; exact hp4), ⟨by simp, Nat.zero_le _⟩, ?_⟩
   rintro h6 rfl
   refine ⟨m - 1, ?_, ⟨S ++ [j], ad b5 0, cap, ?_, ?_, ?_, ?_, ?_, ?_, ?_⟩, rfl, trivial⟩
   · omega
   · rw [List.length_append]; simp only [List.length_cons, List.length_nil]; omega
   · exact List.nodup_append.2 ⟨hSn, by simp, fun x hx y hy hxy => by rw [List.mem_singleton.1 hy] at hxy; subst hxy; exact hjS hx⟩
   · intro i hi
     rcases List.mem_append.1 hi with hi | hi
     · exact hSlt i hi
     · rw [List.mem_singleton.1 hi]; exact hjl
   · intro b o hb'
     rw [put_ne fun e => by subst e; rw [hpn] at hb'; cases hb']; exact hx5 _ _ hb'
   · rw [put_ne hrp, hr5, hr4, hpush]
   · rw [put_same]; simp [FA, splice]
   · have hl2 : (S ++ [j]).length = S.length + 1 := by simp
     have hpk : (pick q.labels (S ++ [j])).map lbC = (pick q.labels S).map lbC ++ [lbC l] := by
      simp [pick, List.getD_eq_getElem?_getD, hj]
     rw [hl2, hpk]
     exact hM5.put (by rw [hp5]; exact hp4) (notE_cells (by decide) _ _)
end
end Go.Proofs.D
namespace Go.Proofs.D
open Go Go.Den Go.As
set_option maxRecDepth 100000
attribute [local irreducible] IntKind.wrap Tri
section
variable {h0 hb h : PHeap} {p mS : Nat} {a : As.St} {K : AK}
def usesT (b1 : Nat) (a2 : OA) (n2 : Nat) (k2 : Nat) (l2 : Bs) (i2 : Int) (i3 : Int) (a3 : OA) (n3 : Nat) (k3 : Nat) (h_5 : PHeap) (Q : Value → PHeap → Prop) : Prop :=
 (∃ (a4 : OA) (n4 k4 : Nat), h_5.cell b1 12 = some (vL a4 n4 k4) ∧
 ∃ (I_2 : Nat → Int → OA → Nat → Nat → Bs → Int → Int → OA → Nat → Nat → PHeap → Prop), (∃ (m7 : Nat), I_2 m7 (0 : Int) a2 n2 k2 l2 i2 i3 a3 n3 k3 h_5) ∧
 ∀ (m6 : Nat) (i6 : Int) (a5 : OA) (n5 : Nat) (k5 : Nat) (l5 : Bs) (i7 : Int) (i8 : Int) (a6 : OA) (n6 : Nat) (k6 : Nat) (h_8 : PHeap), I_2 m6 i6 a5 n5 k5 l5 i7 i8 a6 n6 k6 h_8 →
 br (decide (i6 < ((n4 : Nat) : Int)))
 (∃ (b3 o2 : Nat), a4 = some ⟨b3, o2, none⟩ ∧ (0 ≤ i6 ∧ i6 < n4) ∧
 ∃ (i9 : Int) (f1 : Nat) (x1 y1 : List Value), h_8.row b3 (o2 + (i6).toNat * 2) [vI i9, vF f1 x1 y1] ∧
 Tri Tryz.prog f1 (x1 ++ [] ++ y1) h_8 fun v_5 h_9 =>
 ∃ (i10 : Int), v_5 = vI i10 ∧
 br (i10 != 0)
 ((tv [vI i9]) ∧
 Q (vT [vA [vL none 0 0, vS [], vI 0, vI 0, vL none 0 0], vI i9, vI i10]) h_9)
 (∃ (m8 : Nat), m8 < m6 ∧ I_2 m8 (IntKind.i64.wrap (i6 + 1)) a5 n5 k5 l5 i7 i8 a6 n6 k6 h_9 ∧
 True))
 (∃ (a7 : OA) (n7 k7 : Nat), h_8.cell b1 6 = some (vL a7 n7 k7) ∧
 ∃ (l6 : Bs), BytesAt h_8 a7 n7 l6 ∧
 ∃ (l7 : List Value) (t2 : TypeId) (z2 : Nat × Nat), h_8 b1 = some (.cells ⟨l7⟩ t2 z2) ∧ (2 + 1 ≤ l7.length ∧ z2.2 ≤ 2) ∧
 ∀ (h_10 : PHeap), h_10 = h_8.put b1 (.cells ⟨splice l7 2 [vS l6]⟩ t2 z2) →
 ∃ (m9 : Nat), h_10.cell b1 10 = some (vM m9) ∧
 Raw Tryz.prog (execOp (rho [(79, vM m9)]) (mkO o13_9 0)) h_10 fun v_6 h_11 =>
 ∃ (p1 o3 : Nat), v_6 = vP p1 o3 ∧
 ∃ (I_3 : Nat → PHeap → Prop), (∃ (m11 : Nat), I_3 m11 h_11) ∧
 ∀ (m10 : Nat) (h_12 : PHeap), I_3 m10 h_12 →
 Raw Tryz.prog (execOp (rho [(80, vP p1 o3)]) (mkO o13_10 0)) h_12 fun v_7 h_13 =>
 ((v_7 = vT [vB false] ∧ endT b1 h_13 Q) ∨
 (∃ (k8 u1 : Value), v_7 = vT [vB true, k8, u1] ∧
 Raw Tryz.prog (execOp (rho [(80, vP p1 o3)]) (mkO o13_12 0)) h_13 fun v_10 h_16 =>
 ∃ (l10 l11 : Bs) (c1 : Bool) (i16 : Int), v_10 = vT [vS l10, vA [vS l11, vB c1, vI i16]] ∧
 ∃ (a13 : OA) (n13 k14 : Nat), h_16.cell b1 5 = some (vL a13 n13 k14) ∧
 ∀ (b4 : Nat), h_16 b4 = none → ∀ (h_17 : PHeap), h_17 = h_16.put b4 (.cells ⟨[vS l11, vB c1, vI i16]⟩ 80) →
 (h_17.cell b1 5 = some (vL a13 n13 k14)) ∧
 Raw Tryz.prog (execOp (rho [(90, vL a13 n13 k14), (92, vL (ad b4 0) 1 1)]) (mkO o13_14 23)) h_17 fun v_11 h_18 =>
 ∃ (a14 : OA) (n14 k15 : Nat), v_11 = vL a14 n14 k15 ∧
 ∃ (l12 : List Value) (t3 : TypeId) (z3 : Nat × Nat), h_18 b1 = some (.cells ⟨l12⟩ t3 z3) ∧ (5 + 1 ≤ l12.length ∧ z3.2 ≤ 5) ∧
 ∀ (h_19 : PHeap), h_19 = h_18.put b1 (.cells ⟨splice l12 5 [vL a14 n14 k15]⟩ t3 z3) →
 ∃ (m12 : Nat), m12 < m10 ∧ I_3 m12 h_19 ∧
 tv [vL a5 n5 k5, vS l5, vI i7, vI i8, vL a6 n6 k6] ∧ True))))
def passS (a : As.St) : Except (Nat × Nat) Pg := match resolveS a.p a.uses with
 | .error e => .error e
 | .ok q => finS q
structure SameSz (p q : Pg) : Prop where
 code : q.code.length = p.code.length
 data : q.data.length = p.data.length
 labels : q.labels = p.labels
 ent : -10000000000 ≤ q.entry ∧ q.entry ≤ 10000000000
theorem SameSz.put {p q : Pg} {u : Us} {n : Int} (hs : SameSz p q) (hu : UseOk q u) (hn : 0 ≤ n ∧ n ≤ 5000000) : SameSz p (putU q u n) := by
 unfold putU
 split
 · exact ⟨by simp only [setC, List.length_modify]; exact hs.code, hs.data, hs.labels, hs.ent⟩
 · split
   · rename_i hk
     have := hu.data hk
     refine ⟨hs.code, ?_, hs.labels, hs.ent⟩
     have : (putW q.data u.idx n).length = q.data.length := by simp [putW, wordOf_len]; omega
     rw [this]; exact hs.data
   · exact ⟨hs.code, hs.data, hs.labels, by show _ ≤ n ∧ n ≤ _; omega⟩
theorem uses_13 {a2 : OA} {n2 k2 : Nat} {l2 : Bs} {i2 i3 : Int} {a3 : OA} {n3 k3 : Nat} (x0 : Ext h0 hb) (hO : OpTab hb) (hA : ASK hb h p mS a K) (hL : Lim a) (hV : Inv a) :
 usesT p a2 n2 k2 l2 i2 i3 a3 n3 k3 h fun v h' => AsmR h0 (passS a) v h' := by
 unfold usesT
 have hul : a.uses.length ≤ 10000 := by
  have := hL.uses; have := hL.code; have := hL.data
  have : a.hasEntry.toNat ≤ 1 := by cases a.hasEntry <;> decide
  omega
 refine ⟨K.ua, a.uses.length, K.uc, (by rw [PA_cell hA.obj]; rfl), fun m i _ _ _ _ _ _ _ _ _ h' => ∃ (j : Nat) (a' : As.St), i = (j : Int) ∧ j + m = a.uses.length ∧ ASK hb h' p mS a' K ∧ a'.uses = a.uses ∧ SameSz a.p a'.p ∧ resolveS a.p a.uses = resolveS a'.p (a.uses.drop j),
  ⟨a.uses.length, 0, a, rfl, by omega, hA, rfl, ⟨rfl, rfl, rfl, hV.ent⟩, rfl⟩, ?_⟩
 rintro m _ a5 n5 k5 l5 i7 i8 a6 n6 k6 h1 ⟨j, a', rfl, hjm, hA1, hu1, hsz, hres⟩
 refine br_split (fun e => ?_) fun e => ?_
 · have hlt : j < a.uses.length := by have := of_decide_eq_true e; omega
   have hg : a.uses[j]? = some a.uses[j] := by simp [hlt]
   have hdr := List.drop_eq_getElem_cons hlt
   have hmem := List.getElem_mem hlt
   rw [hdr, resolve_cons] at hres
   generalize a.uses[j] = u at *
   have hU := hA1.useAt
   rw [hu1] at hU
   have hlt2 : j < K.ul.length := by rw [← hU.1]; exact hlt
   have hg2 : K.ul[j]? = some K.ul[j] := by simp [hlt2]
   have hAt := hU.2 j u _ hg hg2
   obtain ⟨b, hba, hrow⟩ := hA1.uses.rowAt hg2
   generalize K.ul[j] = cs at *
   obtain ⟨b1, b2, b3, b4, b5, f, y, rfl, d1, d2, d3, d4, d5, hP⟩ := hAt
   have huo : UseOk a'.p u := (hV.uses u hmem).mono (by rw [hsz.code]; exact Nat.le_refl _) (by rw [hsz.data]; exact Nat.le_refl _)
   have hlb : ∀ l ∈ a'.p.labels, 0 ≤ l.off ∧ l.off ≤ 4096 := by rw [hsz.labels]; exact hV.labs
   have hcl : a'.p.code.length ≤ 1000000 := by rw [hsz.code]; have := hL.code; omega
   refine ⟨b, 0, hba, ⟨by omega, by omega⟩, _, _, _, _, (by rw [Int.toNat_natCast]; exact hrow), ?_⟩
   refine Tri.mono (value1_t hA1 d1 d2 d3 d4 d5 hP huo hlb hcl) ?_
   intro v h2 hR
   unfold ValR at hR
   cases had : address a'.p u.name with
   | none =>
     rw [had] at hR hres
     obtain ⟨rfl, hA2⟩ := hR
     refine ⟨_, rfl, br_pos rfl ⟨rfl, x0.trans hA2.ext, ?_⟩⟩
     unfold passS
     rw [hres]
     exact ⟨by decide, rfl⟩
   | some n =>
     rw [had] at hR hres
     simp only at hR hres
     by_cases hr : n < u.low ∨ u.high < n
     · rw [if_pos hr] at hR hres
       obtain ⟨rfl, hA2⟩ := hR
       refine ⟨_, rfl, br_pos rfl ⟨rfl, x0.trans hA2.ext, ?_⟩⟩
       unfold passS
       rw [hres]
       exact ⟨by decide, rfl⟩
     · rw [if_neg hr] at hR hres
       obtain ⟨rfl, hA2⟩ := hR
       have hn : 0 ≤ n ∧ n ≤ 5000000 := by
        unfold address at had
        simp only [Option.map_eq_some_iff] at had
        obtain ⟨l, h1, rfl⟩ := had
        exact place_range hcl (hlb l (List.mem_of_find?_eq_some h1))
       refine ⟨_, rfl, br_neg rfl ⟨m - 1, by omega, ⟨j + 1, _, ?_, by omega, hA2, hu1, hsz.put huo hn, hres⟩, trivial⟩⟩
       rw [wrap64 (by omega) (by omega)]; omega
 · have hj : j = a.uses.length := by have := of_decide_eq_false e; omega
   subst hj
   rw [List.drop_length] at hres
   have hres : resolveS a.p a.uses = .ok a'.p := hres
   have hp2 : passS a = finS a'.p := by unfold passS; rw [hres]
   rw [hp2]
   refine ⟨K.da, a'.p.data.length, K.dc, (by rw [PA_cell hA1.obj]; rfl), a'.p.data, hA1.data.bytes, _, _, _, hA1.obj, ⟨by simp, Nat.zero_le _⟩, ?_⟩
   rintro h2 rfl
   have hcA : (Obj.cells ⟨splice [vM mS, vL K.ca a'.p.code.length K.cc, vS [], vI a'.p.zero, vI a'.p.entry, vL none 0 0, vL K.da a'.p.data.length K.dc, vB a'.inData, vB a'.hasEntry, vB a'.hasZero, vM K.mb, vI a'.line, vL K.ua a'.uses.length K.uc] 2 [vS a'.p.data]⟩ 74 (0, 0)) =
    FA mS K.ca K.cc a'.p none 0 0 [vL K.da a'.p.data.length K.dc, vB a'.inData, vB a'.hasEntry, vB a'.hasZero, vM K.mb, vI a'.line, vL K.ua a'.uses.length K.uc] := rfl
   rw [hcA]
   generalize htl : [vL K.da a'.p.data.length K.dc, vB a'.inData, vB a'.hasEntry, vB a'.hasZero, vM K.mb, vI (a'.line : Int), vL K.ua a'.uses.length K.uc] = tl
   have hmbp := hA1.mbp
   have c10 : (h1.put p (FA mS K.ca K.cc a'.p none 0 0 tl)).cell p 10 = some (vM K.mb) := by
    rw [← htl]; exact (cell_of (put_same _ _ _) 10).trans rfl
   refine ⟨K.mb, c10, ?_⟩
   have hlen : a'.p.labels.length ≤ 1024 := by rw [hsz.labels]; exact hL.labels
   refine Raw.mono (raw_range und71 rfl (by rw [put_ne hmbp]; exact hA1.labs)) ?_
   rintro _ h3 ⟨r, hrn, rfl, rfl⟩
   refine ⟨r, 0, rfl, ?_⟩
   have hrp : r ≠ p := fun e => by subst e; rw [put_same] at hrn; cases hrn
   have hrn1 : h1 r = none := by rw [put_ne hrp] at hrn; exact hrn
   let hb1 : PHeap := fun q => if q = p then none else h1 q
   have g1 : ∀ q, q ≠ p → hb1 q = h1 q := fun q hq => if_neg hq
   have gp : hb1 p = none := if_pos rfl
   have xb : Ext hb hb1 := fun q o hq => by
    rw [g1 q fun e => by subst e; rw [hA1.new] at hq; cases hq]; exact hA1.ext _ _ hq
   have hIn : InAt hb1 K.ca a'.p.code := by
    have := LM.keep (h' := hb1) (fun b hb => g1 b (hA1.code.ne hA1.obj (notP 58 (by decide)) b hb)) hA1.code
    exact this.ins
   refine loop_13 (X := _) (mS := mS) (tl := tl) (mb := K.mb) (x0.trans xb) (hO.ext xb) (fun q o hq => ?_) gp ?_ hIn hA1.code.okN (by rw [g1 r hrp]; exact hrn1) hrp (put_same _ _ _) (by rw [g1 _ hmbp]; exact hA1.labs) (by rw [hsz.labels]; exact hV.nd) (by rw [hsz.code]; have := hL.code; omega) (by rw [hsz.data]; have := hL.data; omega) (by omega) (by rw [hsz.labels]; exact hV.labs) hsz.ent
   · have hqp : q ≠ p := fun e => by subst e; rw [gp] at hq; cases hq
     have hqr : q ≠ r := fun e => by subst e; rw [g1 q hqp, hrn1] at hq; cases hq
     rw [g1 q hqp] at hq
     rw [put_ne hqr, put_ne hqp]; exact hq
   · rw [put_ne (Ne.symm hrp), put_same]
end
end Go.Proofs.D
namespace Go.As
theorem split_each : ∀ (s : Bytes), ∀ x ∈ splitAt10 s, x.length ≤ s.length := by
 intro s x hx
 have := split_sum s
 have h2 : ∀ (l : List Nat), ∀ n ∈ l, n ≤ l.sum := by
  intro l
  induction l with
  | nil => intro n hn; cases hn
  | cons m l ih =>
    intro n hn
    rw [List.sum_cons]
    rcases List.mem_cons.1 hn with rfl | hn
    · omega
    · have := ih n hn; omega
 have := h2 _ x.length (List.mem_map_of_mem hx)
 omega
theorem split_count : ∀ (s : Bytes), (splitAt10 s).length ≤ s.length + 1
 | [] => by simp [splitAt10]
 | c :: r => by
   have ih := split_count r
   rw [splitAt10]
   split
   · simp only [List.length_cons]; omega
   · cases hs : splitAt10 r with
     | nil => simp
     | cons x l => rw [hs] at ih; simp only [List.length_cons] at *; omega
theorem lim0 : Lim st0 := ⟨by decide, by decide, by decide, by decide⟩
theorem inv0 : Inv st0 := ⟨fun _ h => (List.not_mem_nil h).elim, fun _ h => (List.not_mem_nil h).elim, List.nodup_nil, by decide⟩
end Go.As
namespace Go.Proofs.D
open Go Go.Den Go.As
set_option maxRecDepth 100000
attribute [local irreducible] IntKind.wrap Tri
theorem assemble_pass (s : Bytes) : assembleS s = if 65536 < s.length then .error (0, 5) else match linesS As.st0 (splitAt10 s) with
 | .error e => .error e
 | .ok a => passS a := rfl
theorem asm_t {h : PHeap} (s : Bytes) (hO : OpTab h) (hM : MaxLen h) : Tri Tryz.prog 13 [vS s] h fun v h' => AsmR h (assembleS s) v h' := by
 refine T13 ?_
 unfold R13
 refine br_split (fun e => ?_) fun e => ?_
 · have e := of_decide_eq_true e
   rw [assemble_pass, if_pos (by omega)]
   exact ⟨Ext.refl _, by decide, rfl⟩
 have hs : s.length ≤ 65536 := by have := of_decide_eq_false e; omega
 have hpass : assembleS s = match linesS As.st0 (splitAt10 s) with
  | .error e => .error e
  | .ok a => passS a := by rw [assemble_pass, if_neg (by omega)]
 refine Tri.mono (statements_t hO) ?_
 rintro _ h1 ⟨m1, rfl, x1, hS⟩
 refine ⟨m1, rfl, ?_⟩
 refine Raw.mono (raw_makeMap (Q := fun v h' => ∃ m, v = vM m ∧ h1 m = none ∧ h' = h1.put m (.map ⟨ents []⟩ 0)) fun b hb => ⟨b, rfl, hb, rfl⟩) ?_
 rintro _ h2 ⟨m2, rfl, hm2, hh2⟩
 refine ⟨m2, rfl, ?_⟩
 intro b1 hb1 h3 hh3
 have x2 := Put.ext hh2 hm2
 have x3 := Put.ext hh3 hb1
 have hK3 : ASK h1 h3 b1 m1 { As.st0 with line := 0 } ⟨none, 0, none, 0, none, 0, m2, []⟩ :=
  ⟨x2.trans x3, x2.dom _ hb1, Put.at hh3, LM.nil, LM.nil, LM.nil, ⟨rfl, fun j u cs h1 _ => by simp [As.st0] at h1⟩, hm2, x3 _ _ (Put.at hh2)⟩
 refine Tri.mono (split_t s (by omega) (hM.ext (x1.trans (x2.trans x3)))) ?_
 rintro _ h4 ⟨b2, hb2, rfl, hh4⟩
 have x4 := Put.ext hh4 hb2
 obtain ⟨hb4, y4, hA4, hin⟩ := AS.rebase x4 ⟨_, hK3⟩
 have hlines := hin b2 _ hb2 (Put.at hh4)
 have hcnt := split_count s
 have hlen := split_each s
 generalize splitAt10 s = lines at *
 refine ⟨_, _, _, rfl, ?_⟩
 refine ⟨fun m i _ _ _ _ _ _ _ _ _ h' => ∃ (j : Nat) (a : As.St) (l0 : Nat) (hb' : PHeap), i = (j : Int) ∧ j + m = lines.length ∧ Ext hb4 hb' ∧ AS hb' h' b1 m1 { a with line := l0 } ∧ a.line = j + 1 ∧ Lim a ∧ As.Inv a ∧ linesS As.st0 lines = linesS a (lines.drop j),
  ⟨lines.length, 0, As.st0, 0, hb4, rfl, by omega, Ext.refl _, hA4, rfl, lim0, inv0, rfl⟩, ?_⟩
 rintro m _ a2 n2 k2 l2 i2 i3 a3 n3 k3 h5 ⟨j, a, l0, hb', rfl, hjm, y5, hA5, hline, hLim, hInv, hres⟩
 have yb : Ext h hb' := x1.trans (y4.trans y5)
 refine br_split (fun e => ?_) fun e => ?_
 · have hlt : j < lines.length := by have := of_decide_eq_true e; omega
   have hg : lines[j]? = some lines[j] := by simp [hlt]
   have hdr := List.drop_eq_getElem_cons hlt
   have hll := hlen _ (List.getElem_mem hlt)
   rw [hdr, linesS] at hres
   generalize lines[j] = l at *
   refine ⟨b2, 0, rfl, ⟨by omega, by omega⟩, l, ?_, ?_⟩
   · rw [Int.toNat_natCast, Nat.zero_add, Nat.mul_one]
     refine cell_ext (fun ob => hA5.ext b2 ob) (cell_ext (fun ob => y5 b2 ob) ?_)
     rw [cell_of hlines]
     simp [hg]
   obtain ⟨K, hK⟩ := hA5
   refine ⟨_, _, _, hK.obj, ⟨by simp, Nat.zero_le _⟩, ?_⟩
   rintro h6 rfl
   have hw : IntKind.i64.wrap ((j : Int) + 1) = (a.line : Int) := by rw [wrap64 (by omega) (by omega), hline]; omega
   rw [hw]
   have hA6 : AS hb' (h5.put b1 (.cells ⟨splice [vM m1, vL K.ca a.p.code.length K.cc, vS [], vI a.p.zero, vI a.p.entry, vL none 0 0, vL K.da a.p.data.length K.dc, vB a.inData, vB a.hasEntry, vB a.hasZero, vM K.mb, vI l0, vL K.ua a.uses.length K.uc] 11 [vI (a.line : Int)]⟩ 74 (0, 0))) b1 m1 a :=
    ⟨K, hK.set (a' := a) rfl rfl rfl rfl rfl⟩
   refine Tri.mono (read_t (s := l) hA6 (hO.ext yb) (hS.ext (y4.trans y5)) (by omega) hLim) ?_
   intro v h7 hR
   cases hl : lineS a l with
   | error e =>
     rw [hl] at hR hres
     obtain ⟨rfl, g1, g2, g3⟩ := hR
     refine ⟨_, rfl, br_pos (by simp; omega) ⟨_, g3, g3, yb.trans g2, ?_⟩⟩
     rw [hpass, hres]
     exact ⟨g1, rfl⟩
   | ok a' =>
     rw [hl] at hR hres
     obtain ⟨rfl, hb7, g1, g2⟩ := hR
     obtain ⟨q1, q2⟩ := line_lim hLim (by omega) hl
     have q3 := line_inv hLim hInv (by omega) hl
     refine ⟨_, rfl, br_neg rfl ⟨m - 1, by omega, ⟨j + 1, { a' with line := a.line + 1 }, a'.line, hb7, ?_, by omega, y5.trans g1, g2, by simp only; omega, ⟨q1.code, q1.data, q1.labels, q1.uses⟩, ⟨q3.uses, q3.labs, q3.nd, q3.ent⟩, hres⟩, trivial⟩⟩
     omega
 · have hj : j = lines.length := by have := of_decide_eq_false e; omega
   subst hj
   rw [List.drop_length] at hres
   have hr : assembleS s = passS { a with line := l0 } := by rw [hpass, hres]; rfl
   rw [hr]
   obtain ⟨K, hK⟩ := hA5
   exact uses_13 yb (hO.ext yb) hK ⟨hLim.code, hLim.data, hLim.labels, hLim.uses⟩ ⟨hInv.uses, hInv.labs, hInv.nd, hInv.ent⟩
end Go.Proofs.D
namespace Go.As
def tx1 : Bytes := [115, 101, 116, 32, 114, 49, 44, 32, 120, 10, 46, 100, 97, 116, 97, 10, 120, 58, 32, 46, 98, 121, 116, 101, 32, 53]
def tx2 : Bytes := [97, 58, 32, 106, 117, 109, 112, 32, 97, 44, 32, 49]
def tx3 : Bytes := [106, 117, 109, 112, 32, 98]
def tx4 : Bytes := [115, 101, 116, 32, 114, 49, 44, 32, 51, 50, 55, 54, 56]
theorem as1 : assembleS tx1 = .ok ⟨[⟨2, 1, 0, 64⟩], [5], 0, 0, [⟨[120], true, 0⟩]⟩ := by kernel_rfl
theorem as2 : assembleS tx2 = .error (1, 30) := by kernel_rfl
theorem as3 : assembleS tx3 = .error (1, 37) := by kernel_rfl
theorem as4 : assembleS tx4 = .error (1, 2) := by kernel_rfl
end Go.As
namespace Go.Proofs.D
open Go Go.Den Go.As
set_option maxRecDepth 100000
attribute [local irreducible] IntKind.wrap Tri
theorem known_t {h : PHeap} (hO : OpTab h) (hM : MaxLen h) : Tri Tryz.prog 15 [] h fun v h' => v = vB true ∧ Ext h h' := by
 refine T15 ?_
 unfold R15
 refine Tri.mono (asm_t tx1 hO hM) ?_
 rintro v h1 ⟨x1, hr⟩
 rw [as1] at hr
 obtain ⟨a1, k1, a2, k2, rfl, hI, hL, _, _⟩ := hr
 refine ⟨_, _, _, _, _, _, _, _, _, _, _, rfl, ?_⟩
 refine Tri.mono (asm_t tx2 (hO.ext x1) (hM.ext x1)) ?_
 rintro v h2 ⟨x2, hr⟩
 rw [as2] at hr
 obtain ⟨_, rfl⟩ := hr
 refine ⟨_, _, _, _, _, _, _, _, _, _, _, rfl, ?_⟩
 have x12 := x1.trans x2
 refine Tri.mono (asm_t tx3 (hO.ext x12) (hM.ext x12)) ?_
 rintro v h3 ⟨x3, hr⟩
 rw [as3] at hr
 obtain ⟨_, rfl⟩ := hr
 refine ⟨_, _, _, _, _, _, _, _, _, _, _, rfl, ?_⟩
 have x13 := x12.trans x3
 refine Tri.mono (asm_t tx4 (hO.ext x13) (hM.ext x13)) ?_
 rintro v h4 ⟨x4, hr⟩
 rw [as4] at hr
 obtain ⟨_, rfl⟩ := hr
 refine ⟨_, _, _, _, _, _, _, _, _, _, _, rfl, br_pos rfl (br_pos rfl ?_)⟩
 have x24 := (x2.trans x3).trans x4
 obtain ⟨b, o, ha, hrow⟩ := (hI.ext x24).get (j := 0) rfl
 obtain ⟨b', o', ha', hrow'⟩ := (hL.ext x24).get (j := 0) rfl
 rw [Nat.zero_mul, Nat.add_zero] at hrow hrow'
 refine ⟨b, o, ha, by decide, _, hrow.2.2.2, br_pos rfl (br_pos rfl (br_pos rfl ⟨b', o', ha', by decide, _, _, _, hrow', true, pureVal_run _ (by kernel_rfl), br_pos rfl (br_pos rfl (br_pos rfl (br_pos rfl ⟨rfl, x13.trans x4⟩)))⟩))⟩
end Go.Proofs.D
namespace Go.Fr
open Go Go.Den Go.ChangeShapes Go.RowKit
def Kept (w w' : World) : Prop := w'.os = w.os ∧ w'.output = w.output ∧ w.heap.size ≤ w'.heap.size ∧ ∀ k, k < w.heap.size → w'.heap[k]? = w.heap[k]?
theorem calls_of_tri {P : Program} {f : FuncId} {fn : Func} {args : List Value} {Q : Value → Prop} {h : PHeap} (ht : Tri P f args h fun v h' => Q v ∧ ∀ k o, h k = some o → h' k = some o) (hf : P.funcs[f]? = some fn) (hb : fn.body.isSome = true) (hname : (fn.name == "runtime.NumGoroutine") = false) (w : World) (hs : Sub w h) :
 Calls P f args.toArray w fun e w' => ∃ v, e = .returned v ∧ Q v ∧ Kept w w' := by
 have h1 := ht w hs
 unfold CallR at h1
 have hcall : (callFunc f args.toArray).run P w = .ok (.enter f args.toArray) w := by
  unfold callFunc
  have hname' : ¬ fn.name = "runtime.NumGoroutine" := fun e => by rw [e] at hname; simp at hname
  cases hbb : fn.body with
  | none => rw [hbb] at hb; cases hb
  | some c => simp [program, Sem.run, hf, hname', hbb]
 rw [hcall] at h1
 refine Calls.mono h1 fun e w' he => ?_
 cases e with
 | returned v =>
   obtain ⟨h', ⟨hq, hx⟩, hs', hk⟩ := he
   refine ⟨v, rfl, hq, hk.os, hk.output, hk.size, fun k hk' => ?_⟩
   cases hh : h k with
   | none => exact (hk.out k hk' hh).2
   | some o => rw [hs k o hh, hs' k o (hx k o hh)]
 | _ => exact he.elim
def one (w : World) (b : Nat) : PHeap := fun k => if k = b then w.heap[b]? else none
theorem one_sub (w : World) (b : Nat) : Sub w (one w b) := fun k o hk => by
 unfold one at hk; split at hk
 · rename_i e; subst e; exact hk
 · cases hk
theorem one_cell {w : World} {b i : Nat} {v : Value} (h : w.cell? ⟨b, i, none⟩ = some v) : (one w b).cell b i = some v := by
 unfold World.cell? at h
 unfold PHeap.cell one
 rw [if_pos rfl]
 cases hb : w.heap[b]? with
 | none => simp [hb] at h
 | some o =>
   cases o with
   | cells c t z => simpa [hb] using h
   | _ => simp [hb] at h
theorem Kept.but {w w' : World} (h : Kept w w') (may : MemPlace → Prop) : w.keptBut w' may := by
 obtain ⟨h1, h2, h3, h4⟩ := h
 obtain ⟨_, _, r⟩ := World.keptBut_refl w may
 refine ⟨h1, h2, fun i hi => ?_⟩
 have := r i hi
 rw [h4 i hi]
 exact this
theorem Kept.frozen {w w' : World} (h : Kept w w') (b off : Nat) (hb : b < w.heap.size) : w'.frozen? ⟨b, off, none⟩ = w.frozen? ⟨b, off, none⟩ := by
 simp only [World.frozen?, h.2.2.2 b hb]
section
variable {H : Type} {enc : TypeId × Value → H} {P : Program}
theorem post_kept {f : Func} {s : ChangeSpec} {apart fresh handsOn again : Bool} {W W' : World} {args : Array Value} {v : Value} {ds gs : List (DataW H)} {before pa pv : List MemPlace}
 (hW : DataW.Whole enc P f.params.toList s.vars apart W args.toList ds gs before)
 (hres : ∀ (b : Nat) (sp : Nat → Bool) (hd : Bool), DataW.TrodAll enc P W' b sp hd f.resultTypes.toList (v.resultList f.resultTypes.size) (s.fn H (ds ++ gs)).results [])
 (hargs : ∀ sp : Nat → Bool, (∀ p ∈ before, sp p.block = true) → DataW.TrodAll enc P W' 0 sp true f.params.toList args.toList (s.fn H (ds ++ gs)).args pa)
 (hvars : ∀ sp : Nat → Bool, (∀ p ∈ before, sp p.block = true) → DataW.TrodVars enc P W' sp s.vars (s.fn H (ds ++ gs)).vars pv)
 (hps : before = pa ++ pv) (hk : Kept W W')
 (hok : ∀ (j : Nat) (t : TypeId) (r : Value), f.resultTypes[j]? = some t → (v.resultList f.resultTypes.size)[j]? = some r → Value.okWide P W' .any 0 t r) :
 s.post enc P f apart fresh handsOn again W args v W' := by
 have hlt : ∀ p ∈ before, p.block < W.heap.size := fun p hp => hW.lt p hp
 have hold : ∀ p ∈ before, (fun b => decide (b < W.heap.size)) p.block = true := fun p hp => by simpa using hlt p hp
 refine ⟨ds, gs, before, [], pa, pv, hW, hres _ _ _, hargs _ hold, hvars _ hold, World.keptBut_mono (fun p hp => ⟨hp, ?_⟩) (hk.but _), fun _ => ?_⟩
 · rw [hps, List.mem_append] at hp
   exact Or.inr hp
 · obtain ⟨_, _, _, _, _, hz, hn⟩ := hW
   refine ⟨hok, _, _, ([] ++ pa) ++ pv, ⟨[] ++ pa, pv, trodAll_append (hargs _ (fun _ _ => rfl)) (hres _ _ _), hvars _ (fun _ _ => rfl), rfl, ?_, ?_⟩, ?_⟩
   · intro b off hp
     have hp' : MemPlace.cell b off ∈ before := by rw [hps]; simpa using hp
     rw [hk.frozen b off (hlt _ hp')]
     exact hz b off hp'
   · intro ha
     have := hn ha
     rw [hps] at this
     simpa using this
   · intro p hp _
     rw [hps]
     simpa using hp
end
end Go.Fr
namespace Go.Fr
open Go Go.Den Go.ChangeShapes Go.RowKit Go.As Go.Proofs
set_option maxRecDepth 100000
def all (w : World) : PHeap := fun k => w.heap[k]?
theorem all_sub (w : World) : Sub w (all w) := fun _ _ hk => hk
theorem all_cell {w : World} {b i : Nat} {v : Value} (h : w.cell? ⟨b, i, none⟩ = some v) : (all w).cell b i = some v := by
 have := one_cell h
 unfold PHeap.cell at this ⊢
 have e : all w b = one w b b := by unfold all one; rw [if_pos rfl]
 rw [e]; exact this
def usesL : List Bool := [false, false, false, true, false, false, false, false, false, false, false, false, false, false, false, false, false, false, true, false, true, false, true, true, false, true, false]
def setsL : List Bool := [false, true, true, true, true, true, true, true, true, true, true, true, true, true, true, true, true, true, false, true, false, false, false, false, true, false, false]
def opRow (op : Nat) : DataW Unit := .agg [.lit (.string (wordT op)), .lit (.int .i64 (form op)), .lit (.int .i64 (Go.Proofs.D.lims op).1), .lit (.int .i64 (Go.Proofs.D.lims op).2), .lit (.bool (usesL.getD op false)), .lit (.bool (setsL.getD op false))]
theorem ops_tab : (YteegmpghbhmekaaGreatDoor.Rows.laid_replevin_instr_operations : DataW Unit) = .agg ((List.range 27).map opRow) := by kernel_rfl
section
variable {enc : TypeId × Value → Unit} {w : World} {base : Nat} {sp : Nat → Bool} {held : Bool}
theorem row_six {fuel : Nat} {seg : List Value} {op : Nat} {p : List MemPlace} (h : DataW.trod enc Tryz.prog w base sp held fuel 147 seg = some (opRow op, p)) :
 seg = [vS (wordT op), vI (form op), vI (Go.Proofs.D.lims op).1, vI (Go.Proofs.D.lims op).2, vB (usesL.getD op false), vB (setsL.getD op false)] := by
 cases fuel with
 | zero => simp [DataW.trod] at h
 | succ fuel =>
   have c9 : Tryz.prog.cellsOf 9 = 1 := by kernel_rfl
   have c3 : Tryz.prog.cellsOf 3 = 1 := by kernel_rfl
   have c4 : Tryz.prog.cellsOf 4 = 1 := by kernel_rfl
   have c147 : Tryz.prog.cellsOf 147 = 6 := by kernel_rfl
   simp only [DataW.trod, Tryz.underlying147, c147] at h
   split at h
   · rename_i hl
     obtain ⟨xs, hm, hx⟩ := Option.map_eq_some_iff.1 h
     have hxs := congrArg Prod.fst hx
     simp only [opRow, DataW.agg.injEq] at hxs
     have fld : ∀ (j : Nat) (y : DataW Unit), (xs.map (·.1))[j]? = some y → ∃ b, xs[j]? = some b ∧ b.1 = y := fun j y hy => by
      rw [List.getElem?_map, Option.map_eq_some_iff] at hy
      exact hy
     rw [hxs] at fld
     match seg, hl with
     | [x0, x1, x2, x3, x4, x5], _ =>
       obtain ⟨b0, g0, f0⟩ := Lib.mapM_at hm 0 _ rfl
       obtain ⟨b1, g1, f1⟩ := Lib.mapM_at hm 1 _ rfl
       obtain ⟨b2, g2, f2⟩ := Lib.mapM_at hm 2 _ rfl
       obtain ⟨b3, g3, f3⟩ := Lib.mapM_at hm 3 _ rfl
       obtain ⟨b4, g4, f4⟩ := Lib.mapM_at hm 4 _ rfl
       obtain ⟨b5, g5, f5⟩ := Lib.mapM_at hm 5 _ rfl
       obtain ⟨a0, k0, l0⟩ := fld 0 _ rfl
       obtain ⟨a1, k1, l1⟩ := fld 1 _ rfl
       obtain ⟨a2, k2, l2⟩ := fld 2 _ rfl
       obtain ⟨a3, k3, l3⟩ := fld 3 _ rfl
       obtain ⟨a4, k4, l4⟩ := fld 4 _ rfl
       obtain ⟨a5, k5, l5⟩ := fld 5 _ rfl
       rw [g0] at k0; rw [g1] at k1; rw [g2] at k2; rw [g3] at k3; rw [g4] at k4; rw [g5] at k5
       injection k0 with k0; injection k1 with k1; injection k2 with k2; injection k3 with k3; injection k4 with k4; injection k5 with k5
       subst k0; subst k1; subst k2; subst k3; subst k4; subst k5
       simp only [c9, c3, c4] at f0 f1 f2 f3 f4 f5
       obtain ⟨s, e0, rfl, _⟩ := DataW.trod_string Tryz.underlying9 f0
       obtain ⟨n1, e1, rfl, _⟩ := DataW.trod_int Tryz.underlying3 f1
       obtain ⟨n2, e2, rfl, _⟩ := DataW.trod_int Tryz.underlying3 f2
       obtain ⟨n3, e3, rfl, _⟩ := DataW.trod_int Tryz.underlying3 f3
       obtain ⟨n4, e4, rfl⟩ := DataW.trod_bool Tryz.underlying4 f4
       obtain ⟨n5, e5, rfl⟩ := DataW.trod_bool Tryz.underlying4 f5
       simp only [DataW.lit.injEq, Lit.string.injEq, Lit.int.injEq, Lit.bool.injEq, true_and] at l0 l1 l2 l3 l4 l5
       simp only [List.drop_zero, List.drop_succ_cons, List.take_succ_cons, List.take_zero, List.cons.injEq, and_true] at e0 e1 e2 e3 e4 e5
       subst e0; subst e1; subst e2; subst e3; subst e4; subst e5
       subst l1; subst l2; subst l3; subst l4; subst l5
       have hs : (Value.string s) = vS (wordT op) := by rw [← l0]
       rw [hs]
   · cases h
theorem ops_cells {fuel : Nat} {cs : List Value} {p : List MemPlace} (h : DataW.trod enc Tryz.prog w base sp held fuel 148 cs = some (.agg ((List.range 27).map opRow), p)) : ∀ op, op < 27 → (cs.drop (op * 6)).take 6 = [vS (wordT op), vI (form op), vI (Go.Proofs.D.lims op).1, vI (Go.Proofs.D.lims op).2, vB (usesL.getD op false), vB (setsL.getD op false)] := by
 intro op hop
 cases fuel with
 | zero => simp [DataW.trod] at h
 | succ fuel =>
   have c147 : Tryz.prog.cellsOf 147 = 6 := by kernel_rfl
   simp only [DataW.trod, Tryz.underlying148, c147] at h
   split at h
   · obtain ⟨xs, hm, hx⟩ := Option.map_eq_some_iff.1 h
     have hxs := congrArg Prod.fst hx
     simp only [DataW.agg.injEq] at hxs
     obtain ⟨b, g, f⟩ := Lib.mapM_at hm op op (by simp [hop])
     have hb : (xs.map (·.1))[op]? = some (opRow op) := by rw [hxs]; simp [hop]
     rw [List.getElem?_map, g] at hb
     injection hb with hb
     obtain ⟨d, q⟩ := b
     simp only at hb
     subst hb
     exact row_six f
   · cases h
end
theorem op_all {W : World} {rest : List (String × DataW Unit)} (h : laidMet Tryz.prog (("replevin/instr.operations", YteegmpghbhmekaaGreatDoor.Rows.laid_replevin_instr_operations) :: rest) W) : Go.Proofs.D.OpTab (all W) := by
 rw [ops_tab] at h
 obtain ⟨ps, ⟨g', t', cs, fuel, p, q, hg', ht', hvar, hd, _, _⟩, _⟩ := h
 obtain rfl := Option.some.inj ((show Tryz.prog.globalNamed "replevin/instr.operations" = some 0 by kernel_rfl).symm.trans hg')
 obtain rfl := Option.some.inj ((show (Tryz.prog.globals[0]?).map (·.type) = some 148 by kernel_rfl).symm.trans ht')
 have hc := ops_cells hd
 unfold World.var? at hvar
 rw [hg'] at hvar
 simp only [Option.bind_some] at hvar
 intro op hop
 refine ⟨usesL.getD op false, setsL.getD op false, ?_⟩
 cases hb : W.heap[0]? with
 | none => rw [hb] at hvar; simp at hvar
 | some o =>
   rw [hb] at hvar
   cases o with
   | cells c t z =>
     simp only [Option.some.injEq] at hvar
     have hall : all W 0 = some (.cells ⟨c.toList⟩ t z) := by unfold all; rw [hb]
     refine Go.Proofs.D.row_lit hall fun j v hj => ?_
     have := hc op hop
     rw [← hvar] at this
     have hj6 : j < 6 := by have := (List.getElem?_eq_some_iff.1 hj).1; simpa using this
     have h2 : ((c.toList.drop (op * 6)).take 6)[j]? = some v := by rw [this]; exact hj
     rw [List.getElem?_take, if_pos hj6, List.getElem?_drop] at h2
     exact h2
   | _ => simp at hvar
theorem max_all {W : World} (h : W.ShapedOpen Tryz.prog) : Go.Proofs.D.MaxLen (all W) := by
 obtain ⟨m, hm⟩ := Go.Proofs.cell_of_shapedOpen_int (g := 1) (zero := #[.int .i64 0]) (t := 3) h (of_decide_eq_true (by kernel_rfl)) (by kernel_rfl) rfl (by kernel_rfl) (by kernel_rfl) Tryz.underlying3
 exact ⟨m, all_cell hm⟩
end Go.Fr
