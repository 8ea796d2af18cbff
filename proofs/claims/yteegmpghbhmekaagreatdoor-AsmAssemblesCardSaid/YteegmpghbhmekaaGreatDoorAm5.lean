import Derived.Test.YteegmpghbhmekaaGreatDoorAm4
import Derived.Laws.CopyRow
import Derived.Laws.IdiomStrings
namespace Go.As
end Go.As
namespace Go.As
theorem word_ne {c : UInt8} (h : wordB c = true) : c ≠ 59 ∧ ¬ (c = 32 ∨ c = 9) ∧ c ≠ 44 ∧ c ≠ 58 ∧ c ≠ 34 := by
 refine ⟨?_, ?_, ?_, ?_, ?_⟩
 · rintro rfl; exact absurd h (by decide)
 · rintro (rfl | rfl) <;> exact absurd h (by decide)
 · rintro rfl; exact absurd h (by decide)
 · rintro rfl; exact absurd h (by decide)
 · rintro rfl; exact absurd h (by decide)
end Go.As
namespace Go.As
end Go.As
namespace Go.As
structure Tail (x : Bytes) : Prop where
 none : ∀ f, x.length < f → tokensS f x = some []
 head : ∀ c r, x = c :: r → wordB c = false
theorem drop_len : ∀ l : Bytes, (l.dropWhile wordB).length ≤ l.length
 | [] => Nat.le_refl _
 | c :: l => by
   have := drop_len l
   cases hc : wordB c <;> simp [List.dropWhile, hc]; omega
theorem Tail.blank {c : UInt8} {x : Bytes} (hc : c = 32 ∨ c = 9) (hx : Tail x) : Tail (c :: x) := by
 refine ⟨fun f h => ?_, fun c' r' h => by injection h with h _; subst h; rcases hc with rfl | rfl <;> decide⟩
 obtain ⟨f, rfl⟩ : ∃ k, f = k + 1 := ⟨f - 1, by simp at h; omega⟩
 rw [tokensS, if_neg (by rcases hc with rfl | rfl <;> decide), if_pos hc]
 exact hx.none f (by simpa using h)
theorem Tail.nil : Tail [] := ⟨fun f h => by obtain ⟨f, rfl⟩ : ∃ k, f = k + 1 := ⟨f - 1, by simp at h; omega⟩; rfl, fun c r h => by cases h⟩
end Go.As
namespace Go.As
theorem split_ne : ∀ s : Bytes, ∃ h t, splitAt10 s = h :: t
 | [] => ⟨_, _, rfl⟩
 | c :: r => by
   rw [splitAt10]
   split
   · exact ⟨_, _, rfl⟩
   · obtain ⟨h, t, e⟩ := split_ne r
     rw [e]; exact ⟨_, _, rfl⟩
end Go.As
namespace Go.As
theorem ite_ok {e : Nat} {q p : Pg} (h : (if e ≠ 0 then (Except.error (0, e) : Except (Nat × Nat) Pg) else .ok q) = .ok p) : e = 0 ∧ q = p := by
 by_cases h0 : e = 0
 · rw [if_neg (fun h => h h0)] at h
   exact ⟨h0, by injection h⟩
 · rw [if_pos h0] at h; cases h
theorem assemble_ok {s : Bytes} {p : Pg} (h : assembleS s = .ok p) : checkP p = 0 := by
 unfold assembleS at h
 split at h
 · cases h
 split at h
 · cases h
 split at h
 · cases h
 · obtain ⟨h1, h2⟩ := ite_ok h
   rw [← h2]; exact h1
end Go.As
namespace Go.As
theorem decN_app (a : Bytes) (c : UInt8) : decN (a ++ [c]) = 10 * decN a + (c.toNat - 48) := by simp [decN, List.foldl_append]
theorem escB_len : ∀ {r : Bytes} {b : UInt8} {r' : Bytes}, escB r = some (b, r') → r'.length < r.length := by
 intro r b r' h
 unfold escB at h
 split at h
 all_goals first | (simp only [Option.some.injEq, Prod.mk.injEq] at h; obtain ⟨_, rfl⟩ := h; simp) | skip
 · split at h
   · simp only [Option.some.injEq, Prod.mk.injEq] at h; obtain ⟨_, rfl⟩ := h; simp; omega
   · cases h
 · cases h
theorem unq_len : ∀ {f : Nat} {r x r' : Bytes}, unq f r = some (x, r') → r'.length < r.length
 | 0, _, _, _, h => by simp [unq] at h
 | f + 1, [], _, _, h => by simp [unq] at h
 | f + 1, c :: r, x, r', h => by
   rw [unq] at h
   split at h
   · simp only [Option.some.injEq, Prod.mk.injEq] at h; obtain ⟨_, rfl⟩ := h; simp
   split at h
   · split at h
     · cases h
     · rename_i b r2 he
       have h1 := escB_len he
       simp only [Option.map_eq_some_iff] at h
       obtain ⟨⟨y, r3⟩, h2, h3⟩ := h
       have := unq_len h2
       simp only [Prod.mk.injEq] at h3
       obtain ⟨_, rfl⟩ := h3
       simp; omega
   split at h
   · cases h
   · simp only [Option.map_eq_some_iff] at h
     obtain ⟨⟨y, r3⟩, h2, h3⟩ := h
     have := unq_len h2
     simp only [Prod.mk.injEq] at h3
     obtain ⟨_, rfl⟩ := h3
     simp; omega
theorem tok_fuel : ∀ (f g : Nat) (s : Bytes), s.length < f → s.length < g → tokensS f s = tokensS g s := by
 intro f
 induction f with
 | zero => intro g s h; omega
 | succ f ih =>
   intro g s hf hg
   obtain ⟨g, rfl⟩ : ∃ k, g = k + 1 := ⟨g - 1, by omega⟩
   match s, hf, hg with
   | [], _, _ => rfl
   | c :: r, hf, hg =>
     simp only [List.length_cons] at hf hg
     have hr := ih g r (by omega) (by omega)
     have hd : (c :: r).dropWhile wordB = (c :: r).dropWhile wordB := rfl
     rw [tokensS, tokensS, hr]
     by_cases h34 : c = 34
     · rw [if_pos h34, if_pos h34]
       cases hu : unq (r.length + 1) r with
       | none => rfl
       | some x =>
         obtain ⟨x, r'⟩ := x
         have := unq_len hu
         simp only [ih g r' (by omega) (by omega)]
     rw [if_neg h34, if_neg h34]
     cases hw : wordB c with
     | false => rfl
     | true =>
       have hd : (c :: r).dropWhile wordB = r.dropWhile wordB := by simp [List.dropWhile, hw]
       have hlen := drop_len r
       rw [hd, ih g (r.dropWhile wordB) (by omega) (by omega)]
def Stop (r : Bytes) : Prop := ∀ c t, r = c :: t → wordB c = false
theorem while_stop {r : Bytes} (hr : Stop r) : ∀ s : Bytes, s.all wordB = true → (s ++ r).takeWhile wordB = s ∧ (s ++ r).dropWhile wordB = r
 | [], _ => by
   cases r with
   | nil => exact ⟨rfl, rfl⟩
   | cons c r => have := hr c r rfl; simp [List.takeWhile, List.dropWhile, this]
 | c :: s, h => by
   simp only [List.all_cons, Bool.and_eq_true] at h
   obtain ⟨h1, h2⟩ := while_stop hr s h.2
   simp only [List.cons_append, List.takeWhile, List.dropWhile, h.1, h1, h2, and_self]
theorem tokL_word {w r : Bytes} (hw : w.all wordB = true) (hn : w ≠ []) (hr : Stop r) : tokensL (w ++ r) = (tokensL r).map fun l => ⟨1, w⟩ :: l := by
 obtain ⟨h1, h2⟩ := while_stop hr w hw
 match w, hn, hw, h1, h2 with
 | c :: w, _, hw, h1, h2 =>
   simp only [List.all_cons, Bool.and_eq_true] at hw
   obtain ⟨n1, n2, n3, n4, n5⟩ := word_ne hw.1
   unfold tokensL
   rw [List.cons_append] at h1 h2 ⊢
   rw [tokensS, if_neg n1, if_neg n2, if_neg n3, if_neg n4, if_neg n5, if_pos hw.1, h1, h2]
   rw [tok_fuel _ (r.length + 1) r (by simp; omega) (by omega)]
theorem tokL_sp {c : UInt8} (hc : c = 32 ∨ c = 9) (r : Bytes) : tokensL (c :: r) = tokensL r := by
 unfold tokensL
 rw [tokensS, if_neg (by rcases hc with rfl | rfl <;> decide), if_pos hc]; rfl
theorem tokL_comma (r : Bytes) : tokensL (44 :: r) = (tokensL r).map fun l => ⟨3, [44]⟩ :: l := by
 unfold tokensL
 rw [tokensS, if_neg (by decide), if_neg (by decide), if_pos rfl]; rfl
theorem tokL_colon (r : Bytes) : tokensL (58 :: r) = (tokensL r).map fun l => ⟨4, [58]⟩ :: l := by
 unfold tokensL
 rw [tokensS, if_neg (by decide), if_neg (by decide), if_neg (by decide), if_pos rfl]; rfl
def wordT (op : Nat) : Bytes := wordsB.getD op []
theorem word_all : ∀ n : Fin 27, (wordT n.val).all wordB = true ∧ wordT n.val ≠ [] ∧ wordsB.findIdx? (· == wordT n.val) = some n.val ∧ (wordT n.val).length ≤ 6 := by decide +kernel
theorem ite_zero {c : Prop} [Decidable c] {n m : Nat} (h : (if c then n + 1 else m) = 0) : ¬ c ∧ m = 0 := by
 by_cases hc : c
 · rw [if_pos hc] at h; cases h
 · rw [if_neg hc] at h; exact ⟨hc, h⟩
theorem form_le (op : Nat) : form op ≤ 6 := by
 unfold form
 repeat' split
 all_goals omega
end Go.As
namespace Go.Proofs.D
open Go Go.Den Go.As
set_option maxRecDepth 100000
attribute [local irreducible] IntKind.wrap Tri
section
variable (h : PHeap) (c : UInt8) (s : Bytes)
theorem letter_t : Tri Tryz.prog 49 [vU (c.toNat : Int)] h fun v h' => v = vB (letterB c) ∧ h' = h := by
 refine T49 ?_
 unfold R49
 refine br_split (fun e1 => br_split (fun e2 => ?_) fun e2 => br_split (fun e3 => ?_) fun e3 => ?_) fun e1 => br_split (fun e3 => ?_) fun e3 => ?_ <;>
 · refine ⟨congrArg _ ?_, rfl⟩
   simp only [decide_eq_true_eq, decide_eq_false_iff_not] at *
   unfold letterB
   rw [Bool.eq_iff_iff]; simp; omega
theorem digit_t : Tri Tryz.prog 53 [vU (c.toNat : Int)] h fun v h' => v = vB (digitB c) ∧ h' = h := by
 refine T53 ?_
 unfold R53
 refine br_split (fun e1 => ?_) fun e1 => ?_ <;>
 · refine ⟨congrArg _ ?_, rfl⟩
   simp only [decide_eq_true_eq, decide_eq_false_iff_not] at *
   unfold digitB
   rw [Bool.eq_iff_iff]; simp; omega
theorem hex_t : Tri Tryz.prog 163 [vU (c.toNat : Int)] h fun v h' => v = vB (hexB c) ∧ h' = h := by
 refine T163 ?_
 unfold R163
 refine Tri.mono (digit_t h c) ?_
 rintro _ h ⟨rfl, rfl⟩
 refine ⟨_, rfl, br_split (fun e1 => ⟨by simp [hexB, e1], rfl⟩) fun e1 => br_split (fun e2 => ?_) fun e2 => ?_⟩ <;>
 · refine ⟨congrArg _ ?_, rfl⟩
   simp only [decide_eq_true_eq, decide_eq_false_iff_not] at *
   unfold hexB
   rw [e1, Bool.eq_iff_iff]; simp; omega
theorem u8_beq (c d : UInt8) : (((c.toNat : Nat) : Int) == ((d.toNat : Nat) : Int)) = (c == d) := by
 rw [Bool.eq_iff_iff]
 simp only [beq_iff_eq]
 constructor
 · intro h; exact UInt8.toNat_inj.1 (by omega)
 · rintro rfl; rfl
theorem u8_bne (c d : UInt8) : (((c.toNat : Nat) : Int) != ((d.toNat : Nat) : Int)) = (c != d) := by
 unfold bne; rw [u8_beq]
theorem u8_is {c d : UInt8} (e : (((c.toNat : Nat) : Int) == ((d.toNat : Nat) : Int)) = true) : c = d := by
 rw [u8_beq] at e; simpa using e
theorem u8_not {c d : UInt8} (e : (((c.toNat : Nat) : Int) == ((d.toNat : Nat) : Int)) = false) : c ≠ d := by
 rw [u8_beq] at e; simpa using e
theorem u8_k (c d : UInt8) {b : Bool} (e : (((c.toNat : Nat) : Int) == ((d.toNat : Nat) : Int)) = b) : (c == d) = b := (u8_beq c d).symm.trans e
theorem u8_kn (c d : UInt8) {b : Bool} (e : (((c.toNat : Nat) : Int) != ((d.toNat : Nat) : Int)) = b) : (c == d) = !b := by
 rw [u8_bne] at e; unfold bne at e; rw [← e]; simp
theorem not_t {b : Bool} (e : (!b) = false) : b = true := by simpa using e
theorem not_f {b : Bool} (e : (!b) = true) : b = false := by simpa using e
theorem word_t : Tri Tryz.prog 120 [vU (c.toNat : Int)] h fun v h' => v = vB (wordB c) ∧ h' = h := by
 refine T120 ?_
 unfold R120
 refine Tri.mono (letter_t h c) ?_
 rintro _ h ⟨rfl, rfl⟩
 refine ⟨_, rfl, br_split (fun e1 => ⟨by simp [wordB, e1], rfl⟩) fun e1 => ?_⟩
 refine Tri.mono (digit_t h c) ?_
 rintro _ h ⟨rfl, rfl⟩
 refine ⟨_, rfl, br_split (fun e2 => ⟨by simp [wordB, e2], rfl⟩) fun e2 => br_split (fun e3 => ?_) fun e3 => br_split (fun e4 => ?_) fun e4 => ?_⟩
 · have := u8_is (d := 95) e3; subst this; exact ⟨rfl, rfl⟩
 · have := u8_is (d := 46) e4; subst this; exact ⟨rfl, rfl⟩
 · refine ⟨congrArg _ ((u8_beq c 45).trans ?_), rfl⟩
   unfold wordB
   rw [e1, e2, u8_k c 95 e3, u8_k c 46 e4]; simp
theorem lab_t : Tri Tryz.prog 52 [vU (c.toNat : Int)] h fun v h' => v = vB (letterB c || digitB c || c == 95 || c == 46) ∧ h' = h := by
 refine T52 ?_
 unfold R52
 refine Tri.mono (letter_t h c) ?_
 rintro _ h ⟨rfl, rfl⟩
 refine ⟨_, rfl, br_split (fun e1 => ⟨by simp [e1], rfl⟩) fun e1 => ?_⟩
 refine Tri.mono (digit_t h c) ?_
 rintro _ h ⟨rfl, rfl⟩
 refine ⟨_, rfl, br_split (fun e2 => ⟨by simp [e2], rfl⟩) fun e2 => br_split (fun e3 => ?_) fun e3 => ?_⟩
 · have := u8_is (d := 95) e3; subst this; exact ⟨rfl, rfl⟩
 · refine ⟨congrArg _ ((u8_beq c 46).trans ?_), rfl⟩
   rw [e1, e2, u8_k c 95 e3]; simp
theorem regB_cases (s : Bytes) : (∃ d, s = [114, d] ∧ 48 ≤ d.toNat ∧ d.toNat ≤ 55 ∧ regB s = some (d.toNat - 48)) ∨ (regB s = none ∧ ¬ ∃ d, s = [114, d] ∧ 48 ≤ d.toNat ∧ d.toNat ≤ 55) := by
 unfold regB
 split
 · rename_i d
   by_cases h : 48 ≤ d.toNat ∧ d.toNat ≤ 55
   · rw [if_pos h]; exact .inl ⟨d, rfl, h.1, h.2, rfl⟩
   · rw [if_neg h]; exact .inr ⟨rfl, fun ⟨d', h1, h2⟩ => by injection h1 with _ h1; injection h1 with h1 _; subst h1; exact h h2⟩
 · rename_i hn; exact .inr ⟨rfl, fun ⟨d', h1, _⟩ => hn d' h1⟩
theorem reg_val {d : UInt8} (h1 : 48 ≤ d.toNat) (h2 : d.toNat ≤ 55) : IntKind.i64.wrap (IntKind.u8.wrap ((d.toNat : Int) - 48)) = ((d.toNat - 48 : Nat) : Int) := by
 have : ∀ n : Fin 256, 48 ≤ n.val → n.val ≤ 55 → IntKind.i64.wrap (IntKind.u8.wrap ((n.val : Int) - 48)) = ((n.val - 48 : Nat) : Int) := by decide +kernel
 exact this ⟨d.toNat, d.toNat_lt⟩ h1 h2
def regV (s : Bytes) : Value := match regB s with
 | some r => vT [vI r, vB true]
 | none => vT [vI 0, vB false]
theorem register_t : Tri Tryz.prog 50 [vS s] h fun v h' => v = regV s ∧ h' = h := by
 refine T50 ?_
 unfold R50
 have none : (¬ ∃ d, s = [114, d] ∧ 48 ≤ d.toNat ∧ d.toNat ≤ 55) → vT [vI 0, vB false] = regV s ∧ h = h := fun hn => by
  rcases regB_cases s with ⟨d, h1, h2, h3, _⟩ | ⟨h1, _⟩
  · exact absurd ⟨d, h1, h2, h3⟩ hn
  · unfold regV; rw [h1]; exact ⟨rfl, rfl⟩
 refine br_split (fun e1 => none ?_) fun e1 => ?_
 · rintro ⟨d, rfl, _⟩; exact absurd e1 (by simp)
 obtain ⟨c1, c2, rfl⟩ : ∃ c1 c2, s = [c1, c2] := by
  match s, e1 with
  | [a, b], _ => exact ⟨a, b, rfl⟩
  | [], e1 => simp at e1
  | [_], e1 => simp at e1
  | _ :: _ :: _ :: _, e1 => simp at e1; omega
 refine ⟨by decide, c1, rfl, br_split (fun e2 => none ?_) fun e2 => ?_⟩
 · rintro ⟨d, h1, _⟩; injection h1 with h1 _; subst h1; exact absurd e2 (by decide)
 obtain rfl : c1 = 114 := u8_is (by simpa using e2)
 refine ⟨by decide, c2, rfl, br_split (fun e3 => none ?_) fun e3 => ⟨by decide, c2, rfl, br_split (fun e4 => none ?_) fun e4 => ⟨by decide, c2, rfl, ?_, rfl⟩⟩⟩
 · rintro ⟨d, h1, h2, _⟩; injection h1 with _ h1; injection h1 with h1 _; subst h1
   have := of_decide_eq_true e3; omega
 · rintro ⟨d, h1, _, h2⟩; injection h1 with _ h1; injection h1 with h1 _; subst h1
   have := of_decide_eq_true e4; omega
 · have h1 := of_decide_eq_false e3
   have h2 := of_decide_eq_false e4
   rw [reg_val (by omega) (by omega)]
   have hr : regB [114, c2] = some (c2.toNat - 48) := if_pos ⟨by omega, by omega⟩
   unfold regV
   rw [hr]
theorem all_t {f : Nat} {x y : List Value} (p : UInt8 → Bool) (hf : ∀ c : UInt8, Tri Tryz.prog f (x ++ [vU (c.toNat : Int)] ++ y) h fun v h' => v = vB (p c) ∧ h' = h) (hs : s.length ≤ 1000000000) :
 Tri Tryz.prog 51 [vS s, vF f x y] h fun v h' => v = vB (s.all p) ∧ h' = h := by
 refine T51 ?_
 unfold R51
 refine ⟨fun m i h' => ∃ j : Nat, i = j ∧ j + m = s.length ∧ h' = h ∧ (s.take j).all p = true, ⟨s.length, 0, rfl, by omega, rfl, by simp⟩, ?_⟩
 rintro m _ h1 ⟨j, rfl, hm, rfl, hj⟩
 refine br_split (fun e => ?_) fun e => ?_
 · have hlt : j < s.length := by have := of_decide_eq_true e; omega
   refine ⟨by omega, s[j], by simp [hlt], ?_⟩
   refine Tri.mono (hf _) ?_
   rintro _ h ⟨rfl, rfl⟩
   have ht := List.take_append_getElem hlt
   refine ⟨_, rfl, br_split (fun e2 => ?_) fun e2 => ⟨m - 1, by omega, ⟨j + 1, ?_, by omega, rfl, ?_⟩, trivial⟩⟩
   · refine ⟨congrArg _ (Eq.symm ?_), rfl⟩
     rw [List.all_eq_false]
     exact ⟨s[j], List.getElem_mem hlt, by simpa using e2⟩
   · rw [wrap64 (by omega) (by omega)]; rfl
   · rw [← ht, List.all_append, hj]; simpa using e2
 · have hj' : j = s.length := by have := of_decide_eq_false e; omega
   subst hj'
   rw [List.take_length] at hj
   exact ⟨by rw [hj], rfl⟩
theorem regV_is (s : Bytes) : ∃ i, regV s = vT [vI i, vB (regB s).isSome] := by
 unfold regV
 cases regB s <;> exact ⟨_, rfl⟩
theorem label_t : Tri Tryz.prog 27 [vS s] h fun v h' => v = vB (isLabel s) ∧ h' = h := by
 refine T27 ?_
 unfold R27
 match s with
 | [] => exact br_pos rfl ⟨rfl, rfl⟩
 | c :: r =>
   refine br_neg (by simp; omega) (br_split (fun e1 => ?_) fun e1 => ?_)
   · refine ⟨congrArg _ (Eq.symm ?_), rfl⟩
     have := of_decide_eq_true e1
     simp only [isLabel, Bool.and_eq_false_iff, decide_eq_false_iff_not]
     exact .inl (.inl (.inl (by omega)))
   have e1 := of_decide_eq_false e1
   have hlen : decide ((c :: r).length ≤ 32) = true := by simp only [decide_eq_true_eq]; omega
   refine ⟨by decide, c, rfl, ?_⟩
   have tail : (letterB c || c == 95) = true → Tri Tryz.prog 50 [vS (c :: r)] h fun v_4 h_4 =>
    ∃ (i2 : Int) (c6 : Bool), v_4 = vT [vI i2, vB c6] ∧ br c6 (vB false = vB (isLabel (c :: r)) ∧ h_4 = h) (Tri Tryz.prog 51 [vS (c :: r), vF 52 [] []] h_4 fun v_5 h_5 =>
      ∃ (c7 : Bool), v_5 = vB c7 ∧ vB c7 = vB (isLabel (c :: r)) ∧ h_5 = h) := fun hl => by
    refine Tri.mono (register_t h (c :: r)) ?_
    rintro _ h ⟨rfl, rfl⟩
    obtain ⟨i, hi⟩ := regV_is (c :: r)
    refine ⟨i, _, hi, br_split (fun e => ⟨congrArg _ (Eq.symm ?_), rfl⟩) fun e => ?_⟩
    · simp only [isLabel, Bool.and_eq_false_iff]
      exact .inl (.inr (by rw [← Option.not_isSome, e]; rfl))
    · refine Tri.mono (all_t h (c :: r) (fun c => letterB c || digitB c || c == 95 || c == 46) (fun c => lab_t h c) (by omega)) ?_
      rintro _ h ⟨rfl, rfl⟩
      refine ⟨_, rfl, congrArg _ (Eq.symm ?_), rfl⟩
      simp only [isLabel]
      rw [hlen, hl, ← Option.not_isSome, e]; rfl
   refine Tri.mono (letter_t h c) ?_
   rintro _ h ⟨rfl, rfl⟩
   refine ⟨_, rfl, br_split (fun e2 => ?_) fun e2 => tail (by rw [show letterB c = true by simpa using e2]; rfl)⟩
   have e2 : letterB c = false := by simpa using e2
   refine ⟨by decide, c, rfl, br_split (fun e3 => ?_) fun e3 => tail ?_⟩
   · have e3 := u8_kn c 95 e3
     refine ⟨congrArg _ (Eq.symm ?_), rfl⟩
     simp only [isLabel]
     rw [hlen, e2, e3]; rfl
   · have e3 := u8_kn c 95 e3
     rw [e3, e2]; rfl
theorem hexv_t (hc : hexB c = true) : Tri Tryz.prog 171 [vU (c.toNat : Int)] h fun v h' => v = vU (hexN c : Int) ∧ h' = h := by
 refine T171 ?_
 unfold R171
 have key : ∀ n : Fin 256, (digitB (UInt8.ofNat n.val) = true → IntKind.u8.wrap ((n.val : Int) - 48) = (hexN (UInt8.ofNat n.val) : Int)) ∧
  (digitB (UInt8.ofNat n.val) = false → hexB (UInt8.ofNat n.val) = true → IntKind.u8.wrap (IntKind.u8.wrap ((n.val : Int) - 97) + 10) = (hexN (UInt8.ofNat n.val) : Int)) := by decide +kernel
 have := key ⟨c.toNat, c.toNat_lt⟩
 simp only [UInt8.ofNat_toNat] at this
 refine Tri.mono (digit_t h c) ?_
 rintro _ h ⟨rfl, rfl⟩
 refine ⟨_, rfl, br_split (fun e1 => ⟨?_, rfl⟩) fun e1 => ⟨?_, rfl⟩⟩
 · rw [this.1 e1]
 · rw [this.2 e1 hc]
theorem rletter_t : Tri Tryz.prog 54 [vU (c.toNat : Int)] h fun v h' => v = vB (letterB c || c == 95) ∧ h' = h := by
 refine T54 ?_
 unfold R54
 have h5 := u8_beq c 95
 have fin : letterB c = false → vB ((c.toNat : Int) == 95) = vB (letterB c || c == 95) ∧ h = h := fun hl => ⟨congrArg _ (h5.trans (by rw [hl]; rfl)), rfl⟩
 refine br_split (fun e1 => br_split (fun e2 => ?_) fun e2 => br_split (fun e3 => br_split (fun e4 => ?_) fun e4 => fin ?_) fun e3 => fin ?_) fun e1 => br_split (fun e3 => br_split (fun e4 => ?_) fun e4 => fin ?_) fun e3 => fin ?_
 · refine ⟨congrArg _ ?_, rfl⟩; simp only [decide_eq_true_eq, decide_eq_false_iff_not] at *; unfold letterB; rw [Bool.eq_iff_iff]; simp; omega
 · refine ⟨congrArg _ ?_, rfl⟩; simp only [decide_eq_true_eq, decide_eq_false_iff_not] at *; unfold letterB; rw [Bool.eq_iff_iff]; simp; omega
 · simp only [decide_eq_true_eq, decide_eq_false_iff_not] at *; unfold letterB; rw [Bool.eq_iff_iff]; simp; omega
 · simp only [decide_eq_true_eq, decide_eq_false_iff_not] at *; unfold letterB; rw [Bool.eq_iff_iff]; simp; omega
 · refine ⟨congrArg _ ?_, rfl⟩; simp only [decide_eq_true_eq, decide_eq_false_iff_not] at *; unfold letterB; rw [Bool.eq_iff_iff]; simp; omega
 · simp only [decide_eq_true_eq, decide_eq_false_iff_not] at *; unfold letterB; rw [Bool.eq_iff_iff]; simp; omega
 · simp only [decide_eq_true_eq, decide_eq_false_iff_not] at *; unfold letterB; rw [Bool.eq_iff_iff]; simp; omega
theorem rdigit_t : Tri Tryz.prog 56 [vU (c.toNat : Int)] h fun v h' => v = vB (digitB c) ∧ h' = h := by
 refine T56 ?_
 unfold R56
 refine br_split (fun e1 => ?_) fun e1 => ?_ <;>
 · refine ⟨congrArg _ ?_, rfl⟩
   simp only [decide_eq_true_eq, decide_eq_false_iff_not] at *
   unfold digitB
   rw [Bool.eq_iff_iff]; simp; omega
def regI (s : Bytes) : Int := match regB s with
 | some r => r
 | none => -1
theorem rreg_t : Tri Tryz.prog 55 [vS s] h fun v h' => v = vI (regI s) ∧ h' = h := by
 refine T55 ?_
 unfold R55
 have none : (¬ ∃ d, s = [114, d] ∧ 48 ≤ d.toNat ∧ d.toNat ≤ 55) → vI (-1) = vI (regI s) ∧ h = h := fun hn => by
  rcases regB_cases s with ⟨d, h1, h2, h3, _⟩ | ⟨h1, _⟩
  · exact absurd ⟨d, h1, h2, h3⟩ hn
  · unfold regI; rw [h1]; exact ⟨rfl, rfl⟩
 refine br_split (fun e1 => ?_) fun e1 => none ?_
 · obtain ⟨c1, c2, rfl⟩ : ∃ c1 c2, s = [c1, c2] := by
    match s, e1 with
    | [a, b], _ => exact ⟨a, b, rfl⟩
    | [], e1 => simp at e1
    | [_], e1 => simp at e1
    | _ :: _ :: _ :: _, e1 => simp at e1; omega
   refine ⟨by decide, c1, rfl, br_split (fun e2 => ?_) fun e2 => none ?_⟩
   · obtain rfl : c1 = 114 := u8_is e2
     refine ⟨by decide, c2, rfl, br_split (fun e3 => ⟨by decide, c2, rfl, br_split (fun e4 => ⟨by decide, c2, rfl, ?_, rfl⟩) fun e4 => none ?_⟩) fun e3 => none ?_⟩
     · have h1 := of_decide_eq_true e3
       have h2 := of_decide_eq_true e4
       rw [reg_val (by omega) (by omega)]
       have hr : regB [114, c2] = some (c2.toNat - 48) := if_pos ⟨by omega, by omega⟩
       unfold regI
       rw [hr]
     · rintro ⟨d, h1, _, h2⟩; injection h1 with _ h1; injection h1 with h1 _; subst h1
       have := of_decide_eq_false e4; omega
     · rintro ⟨d, h1, h2, _⟩; injection h1 with _ h1; injection h1 with h1 _; subst h1
       have := of_decide_eq_false e3; omega
   · rintro ⟨d, h1, _⟩; injection h1 with h1 _; subst h1; exact absurd e2 (by decide)
 · rintro ⟨d, rfl, _⟩; exact absurd e1 (by simp)
theorem regI_ge (s : Bytes) : decide (regI s ≥ 0) = (regB s).isSome := by
 unfold regI
 cases regB s <;> simp
theorem rlabel_t : Tri Tryz.prog 28 [vS s] h fun v h' => v = vB (isLabel s) ∧ h' = h := by
 refine T28 ?_
 unfold R28
 match s with
 | [] => exact br_pos rfl ⟨rfl, rfl⟩
 | c :: r =>
   refine br_neg rfl (br_split (fun e1 => ?_) fun e1 => ?_)
   · refine ⟨congrArg _ (Eq.symm ?_), rfl⟩
     have := of_decide_eq_true e1
     simp only [isLabel, Bool.and_eq_false_iff, decide_eq_false_iff_not]
     exact .inl (.inl (.inl (by omega)))
   have e1 := of_decide_eq_false e1
   have hlen : decide ((c :: r).length ≤ 32) = true := by simp only [decide_eq_true_eq]; omega
   refine ⟨by decide, c, rfl, ?_⟩
   refine Tri.mono (rletter_t h c) ?_
   rintro _ h ⟨rfl, rfl⟩
   refine ⟨_, rfl, br_split (fun e2 => ⟨congrArg _ (Eq.symm ?_), rfl⟩) fun e2 => ?_⟩
   · have e2 := not_f e2
     simp only [isLabel]
     rw [hlen, e2]; rfl
   have e2 := not_t e2
   refine Tri.mono (rreg_t h (c :: r)) ?_
   rintro _ h ⟨rfl, rfl⟩
   refine ⟨_, rfl, br_split (fun e => ⟨congrArg _ (Eq.symm ?_), rfl⟩) fun e => ?_⟩
   · rw [regI_ge] at e
     simp only [isLabel, Bool.and_eq_false_iff]
     exact .inl (.inr (by rw [← Option.not_isSome, e]; rfl))
   rw [regI_ge] at e
   have hiso : isLabel (c :: r) = (c :: r).all fun c => letterB c || digitB c || c == 95 || c == 46 := by
    simp only [isLabel]
    rw [hlen, e2, ← Option.not_isSome, e]; rfl
   rw [hiso]
   generalize c :: r = s at *
   refine ⟨fun m i h' => ∃ j : Nat, i = j ∧ j + m = s.length ∧ h' = h ∧ (s.take j).all (fun c => letterB c || digitB c || c == 95 || c == 46) = true, ⟨s.length, 0, rfl, by omega, rfl, by simp⟩, ?_⟩
   rintro m _ h1 ⟨j, rfl, hm, rfl, hj⟩
   refine br_split (fun e => ?_) fun e => ?_
   · have hlt : j < s.length := by have := of_decide_eq_true e; omega
     have hg : s[((j : Nat) : Int).toNat]? = some s[j] := by simp [hlt]
     have ht := List.take_append_getElem hlt
     have next : (letterB s[j] || digitB s[j] || s[j] == 95 || s[j] == 46) = true → ∃ (m3 : Nat), m3 < m ∧ (∃ j' : Nat, IntKind.i64.wrap ((j : Int) + 1) = j' ∧ j' + m3 = s.length ∧ h1 = h1 ∧ (s.take j').all (fun c => letterB c || digitB c || c == 95 || c == 46) = true) ∧ True := fun hn => by
      refine ⟨m - 1, by omega, ⟨j + 1, ?_, by omega, rfl, ?_⟩, trivial⟩
      · rw [wrap64 (by omega) (by omega)]; rfl
      · rw [← ht, List.all_append, hj]; simpa using hn
     refine ⟨by omega, s[j], hg, ?_⟩
     refine Tri.mono (rletter_t h1 _) ?_
     rintro _ h ⟨rfl, rfl⟩
     refine ⟨_, rfl, br_split (fun e2 => ?_) fun e2 => next ?_⟩
     rotate_left
     · have e2 := not_t e2
       simp only [Bool.or_eq_true] at e2 ⊢
       rcases e2 with e2 | e2
       · exact .inl (.inl (.inl e2))
       · exact .inl (.inr e2)
     have e2 := not_f e2
     refine ⟨by omega, s[j], hg, ?_⟩
     refine Tri.mono (rdigit_t _ _) ?_
     rintro _ h ⟨rfl, rfl⟩
     refine ⟨_, rfl, br_split (fun e3 => ?_) fun e3 => next (by rw [not_t e3]; simp)⟩
     have e3 := not_f e3
     refine ⟨by omega, s[j], hg, br_split (fun e4 => ⟨congrArg _ (Eq.symm ?_), rfl⟩) fun e4 => next ?_⟩
     · rw [List.all_eq_false]
       refine ⟨s[j], List.getElem_mem hlt, ?_⟩
       have e4 := u8_kn s[j] 46 e4
       simp only [Bool.or_eq_false_iff] at e2
       rw [e2.1, e3, e2.2, e4]; simp
     · have e4 := u8_kn s[j] 46 e4
       rw [e4]; simp
   · have hj' : j = s.length := by have := of_decide_eq_false e; omega
     subst hj'
     rw [List.take_length] at hj
     exact ⟨by rw [hj], rfl⟩
def hexI (c : UInt8) : Int := if hexB c then hexN c else -1
theorem rhex_t : Tri Tryz.prog 173 [vU (c.toNat : Int)] h fun v h' => v = vI (hexI c) ∧ h' = h := by
 refine T173 ?_
 unfold R173
 have key : ∀ n : Fin 256, (digitB (UInt8.ofNat n.val) = true → IntKind.i64.wrap (IntKind.u8.wrap ((n.val : Int) - 48)) = hexI (UInt8.ofNat n.val)) ∧
  (97 ≤ n.val → n.val ≤ 102 → IntKind.i64.wrap (IntKind.i64.wrap (IntKind.u8.wrap ((n.val : Int) - 97)) + 10) = hexI (UInt8.ofNat n.val)) ∧ (digitB (UInt8.ofNat n.val) = false → ¬ (97 ≤ n.val ∧ n.val ≤ 102) → -1 = hexI (UInt8.ofNat n.val)) := by decide +kernel
 have hk := key ⟨c.toNat, c.toNat_lt⟩
 simp only [UInt8.ofNat_toNat] at hk
 refine Tri.mono (rdigit_t h c) ?_
 rintro _ h ⟨rfl, rfl⟩
 refine ⟨_, rfl, br_split (fun e1 => ⟨?_, rfl⟩) fun e1 => br_split (fun e2 => br_split (fun e3 => ⟨?_, rfl⟩) fun e3 => ⟨?_, rfl⟩) fun e2 => ⟨?_, rfl⟩⟩
 · rw [hk.1 e1]
 · have := of_decide_eq_true e2; have := of_decide_eq_true e3
   rw [hk.2.1 (by omega) (by omega)]
 · have := of_decide_eq_false e3
   rw [hk.2.2 e1 (by omega)]
 · have := of_decide_eq_false e2
   rw [hk.2.2 e1 (by omega)]
end
end Go.Proofs.D
namespace Go.Proofs.D
open Go Go.Den
set_option maxRecDepth 100000
attribute [local irreducible] IntKind.wrap Tri
section
variable {e k : Nat} {h0 h h' : PHeap} {a : Option Addr} {n c : Nat} {css : List (List Value)}
def Grows (a : Option Addr) (h h2 : PHeap) (b : Nat) : Prop := (∀ q, q ≠ b → h2 q = h q) ∧ (h b = none ∨ a = ad b 0)
theorem LM.after {b m cap : Nat} {rest : List Value} {css2 : List (List Value)} {z : Nat × Nat} (hd : ∀ b, h b = none → h0 b = none) (hL : LM e k h0 h a n c css) (hlen : css2.length = m) (each : ∀ cs ∈ css2, cs.length = k) (hm : 0 < n + m) (hb : h b = none ∨ a = ad b 0)
 (hz : z = (0, 0)) (hr : rest.length = (cap - (n + m)) * k) (hc : n + m ≤ cap) : LM e k h0 (h.put b (.cells ⟨css.flatten ++ css2.flatten ++ rest⟩ e z)) (ad b 0) (n + m) cap (css ++ css2) := by
 subst hz
 obtain ⟨g2, g3, g4, g5, _⟩ := hL
 have hb0 : h0 b = none := by
  rcases hb with hb | hb
  · exact hd b hb
  · exact (g2 b hb).1
 refine ⟨fun q hq => ?_, by simp [g3, hlen], fun j cs hj => ?_, ⟨?_, .inr ⟨b, cap, rest, rfl, ?_, hr, hc⟩⟩, fun h => by omega⟩
 · injection hq with hq; injection hq with hq; subst hq
   exact ⟨hb0, by rw [put_same]; exact fun e => by cases e⟩
 · by_cases hj' : j < css.length
   · rw [List.getElem?_append_left hj'] at hj; exact g4 j cs hj
   · rw [List.getElem?_append_right (by omega)] at hj
     exact each cs (List.mem_of_getElem? hj)
 · have h1 := g5.1
   have h2 : css2.flatten.length = css2.length * k := by
    clear hlen
    induction css2 with
    | nil => simp
    | cons x l ih =>
      rw [List.flatten_cons, List.length_append, ih fun y hy => each y (List.mem_cons_of_mem _ hy), each x (List.mem_cons_self ..), List.length_cons, Nat.add_mul]; omega
   rw [List.flatten_append, List.length_append, h1, h2, hlen, Nat.add_mul]
 · rw [put_same, List.flatten_append]
theorem LM.extend {t t2 ty : TypeId} (hu : Tryz.prog.underlying t = some (.slice e)) (he : ElemT e k) {ρ : Operand → Value} {cl : Call} {x y : Operand} (hcl : cl.callee = .builtin .append) (hca : cl.args = #[x, y]) (hts : cl.argTypes = #[t, t2])
 {vy : Value} {css2 : List (List Value)} {m : Nat} (hx : ρ x = vL a n c) (hy : ρ y = vy) (hx0 : Ext h0 h) (hL : LM e k h0 h a n c css) (hsrc : SrcH Tryz.prog h k t2 vy m css2.flatten) (hlen : css2.length = m) (each : ∀ cs ∈ css2, cs.length = k) (hm : 0 < m) (hn : n + m ≤ 10000000) :
 Raw Tryz.prog (execOp ρ (mkO (.call cl) ty)) h fun w h2 => ∃ b cap, w = vL (ad b 0) (n + m) cap ∧ Ext h0 h2 ∧ LM e k h0 h2 (ad b 0) (n + m) cap (css ++ css2) ∧ Grows a h h2 b := by
 obtain ⟨i, z, hi, hz, hzc, hk, hby⟩ := he
 subst hk
 have hbig : (16 * (n + m) + 16384) * i.bytes ≤ 281474976710656 := by
  have : (16 * (n + m) + 16384) * i.bytes ≤ (16 * (n + m) + 16384) * 200 := Nat.mul_le_mul_left _ hby
  omega
 refine Raw.mono (raw_append hcl hca hts hu hi hz hx hy hL.row hsrc hzc hm hbig (by omega)) ?_
 rintro v h2 ⟨b, cap, rest, rfl, rfl, hr, hcap, hb⟩
 have hb' : h b = none ∨ a = ad b 0 := hb.imp id fun ⟨c2, hb⟩ => by injection hb with h1 h2 h3
 have hM := LM.after hx0.dom hL hlen each (by omega) hb' rfl hr hcap
 refine ⟨b, cap, rfl, fun q o hq => ?_, hM, fun q hq => put_ne hq, hb'⟩
 have hqb : q ≠ b := fun e => by subst e; rw [(hM.own q rfl).1] at hq; cases hq
 rw [put_ne hqb]; exact hx0 q o hq
theorem LM.push {t ty : TypeId} (hu : Tryz.prog.underlying t = some (.slice e)) (he : ElemT e k) {ρ : Operand → Value} {cl : Call} {x y : Operand} (hcl : cl.callee = .builtin .append) (hca : cl.args = #[x, y]) (hts : cl.argTypes = #[t, t])
 {b2 : Nat} {cs : List Value} (hx : ρ x = vL a n c) (hy : ρ y = vL (ad b2 0) 1 1) (hx0 : Ext h0 h) (hL : LM e k h0 h a n c css) (hb2 : h b2 = none) (hh : h' = h.put b2 (.cells ⟨cs⟩ e (0, 0))) (hl : cs.length = k) (h1 : allOne cs = true) (hn : n ≤ 9000000) :
 Raw Tryz.prog (execOp ρ (mkO (.call cl) ty)) h' fun w h2 => ∃ b cap, w = vL (ad b 0) (n + 1) cap ∧ Ext h0 h2 ∧ LM e k h0 h2 (ad b 0) (n + 1) cap (css ++ [cs]) ∧ Grows a h' h2 b := by
 have hL' := hL.ext (Put.ext hh hb2)
 have hx' := hx0.trans (Put.ext hh hb2)
 refine LM.extend hu he hcl hca hts hx hy hx' hL' (css2 := [cs]) (m := 1) ?_ rfl (fun c hc => by simp at hc; subst hc; exact hl) (by omega) (by omega)
 have : ([cs] : List (List Value)).flatten = cs := by simp
 rw [this]
 exact SrcH.row hu (by omega) (row_lit (Put.at hh) fun j v hj => by simpa using hj) h1
theorem LM.extend0 {t t2 ty : TypeId} (hu : Tryz.prog.underlying t = some (.slice e)) (he : ElemT e k) {ρ : Operand → Value} {cl : Call} {x y : Operand} (hcl : cl.callee = .builtin .append) (hca : cl.args = #[x, y]) (hts : cl.argTypes = #[t, t2])
 {vy : Value} (hx : ρ x = vL a n c) (hy : ρ y = vy) (hL : LM e k h0 h a n c css) (hsrc : SrcH Tryz.prog h k t2 vy 0 []) :
 Raw Tryz.prog (execOp ρ (mkO (.call cl) ty)) h fun w h2 => w = vL a n c ∧ h2 = h := by
 obtain ⟨i, z, hi, hz, hzc, hk, hby⟩ := he
 subst hk
 intro w hs
 have hS := hsrc w hs
 have hle := hL.okN.1
 have hexec : (execOp ρ (mkO (.call cl) ty)).run Tryz.prog w = ((Builtin.append_ #[t, t2] ty #[vL a n c, vy]).run Tryz.prog w).andThen fun v w' => .ok (.value v) w' := by
  simp [execOp, mkO, resolve, hcl, hca, hts, hx, hy, invoke, builtin]
 have hrun : (Builtin.append_ #[t, t2] ty #[vL a n c, vy]).run Tryz.prog w = .ok (vL a n c) w := by
  rcases hS.kind with ⟨e', hk⟩ | hk <;> cases a <;> simp [Builtin.append_, run_underlying hu, run_underlying hk, sizeOf, typeInfo, hi, hS.len, hle, hS.cells, storeCells]
 rw [hexec, hrun]
 exact ⟨_, _, w, h, rfl, .inl rfl, ⟨rfl, rfl⟩, hs, Keep.refl w h⟩
theorem LM.zeros {t t2 ty : TypeId} {kd : IntKind} {m : Nat} (hu : Tryz.prog.underlying t = some (.slice e)) (hi2 : Tryz.prog.underlying t2 = some (.int kd)) {i : TypeInfo} {zv : Value} (hi : Tryz.prog.info? e = some i) (hz : i.zero = some zv) (hz1 : zv.cells = #[zv]) (hsz : i.size = 1) (hby : i.bytes = 1)
 {ρ : Operand → Value} {cl : Call} {x y : Operand} (hcl : cl.callee = .builtin .append) (hca : cl.args = #[x, y]) (hts : cl.argTypes = #[t, t2]) (h1 : zv.oneCell' = true)
 (hx : ρ x = vL a n c) (hy : ρ y = vI (m : Int)) (hx0 : Ext h0 h) (hL : LM e 1 h0 h a n c css) (hm : 0 < m) (hn : n + m ≤ 10000000) :
 Raw Tryz.prog (execOp ρ (mkO (.call cl) ty)) h fun w h2 => ∃ b cap, w = vL (ad b 0) (n + m) cap ∧ Ext h0 h2 ∧ LM e 1 h0 h2 (ad b 0) (n + m) cap (css ++ List.replicate m [zv]) ∧ Grows a h h2 b := by
 intro w hs
 have hle := hL.okN.1
 have hw : IntKind.i64.wrap (m : Int) = m := wrap64 (by omega) (by omega)
 have hflat : (List.replicate m [zv]).flatten = List.replicate m zv := by
  clear hn hm hy hw
  induction m with
  | zero => rfl
  | succ m ih => rw [List.replicate_succ, List.flatten_cons, ih]; rfl
 have hzc : ∀ m, (Builtin.zeroCells zv.cells m).toList = List.replicate m zv := by
  intro m
  rw [hz1]
  simp [Builtin.zeroCells]
  clear hn hm hy hw hflat
  induction m with
  | zero => rfl
  | succ m ih => rw [List.range_succ, List.map_append, ih, List.replicate_succ']; simp [Nat.mod_one]
 have hexec : (execOp ρ (mkO (.call cl) ty)).run Tryz.prog w = ((Builtin.append_ #[t, t2] ty #[vL a n c, vI m]).run Tryz.prog w).andThen fun v w' => .ok (.value v) w' := by
  simp [execOp, mkO, resolve, hcl, hca, hts, hx, hy, invoke, builtin]
 have hone : ∀ v ∈ List.replicate m zv, v.oneCell' = true := fun v hv => by rw [(List.mem_replicate.1 hv).2]; exact h1
 have hai : ∀ w, (asInt (vI (m : Int))).run Tryz.prog w = .ok (m : Int) w := fun _ => rfl
 have hm0 : ¬ ((m : Int) < 0) := by omega
 have hbig : ¬ (281474976710656 < (m : Int)) := by omega
 have hmz : m ≠ 0 := by omega
 have hrow := hL.row
 have hL' := hL
 rw [hexec]
 by_cases hfit : n + m ≤ c
 · rcases hrow.2 with ⟨hv, hn0⟩ | ⟨b, cap, rest, hv, hb, hrest, hle2⟩
   · injection hv with h1 h2 h3; omega
   · injection hv with h4 h5 h6
     subst h4; subst h6
     have hl := hrow.1
     have hst := Go.run_storeCells_atF Tryz.prog b n e (0, 0) (List.replicate m zv) 0 ⟨css.flatten ++ rest⟩ w (hs _ _ hb) (Nat.zero_le _)
      (by simp only [Nat.add_zero, List.size_toArray, List.length_append, List.length_replicate]; omega) hone
     have hzc2 : Builtin.zeroCells zv.cells m = (List.replicate m zv).toArray := by apply Array.ext'; simp [hzc]
     have hrun : (Builtin.append_ #[t, t2] ty #[vL (ad b 0) n c, vI m]).run Tryz.prog w = .ok (vL (ad b 0) (n + m) c) (w.setRow b ⟨splice (css.flatten ++ rest) n (List.replicate m zv)⟩) := by
      have hst' : (storeCells ⟨b, n, none⟩ (List.replicate m zv)).run Tryz.prog w = .ok () (w.setRow b ⟨splice (css.flatten ++ rest) n (List.replicate m zv)⟩) := by
       rw [hst]; simp [splice]
      simp [Builtin.append_, run_underlying hu, run_underlying hi2, sizeOf, typeInfo, zeroValue, hi, hz, hsz, hby, hai, hw, hm0, hbig, hfit, addNone, hzc2, hmz, hst']
     rw [hrun]
     have hsp : splice (css.flatten ++ rest) n (List.replicate m zv) = css.flatten ++ (List.replicate m [zv]).flatten ++ rest.drop m := by
      rw [hflat]
      unfold splice
      have : css.flatten.length = n := by omega
      rw [← this, List.take_left, List.drop_append, List.length_replicate]
      simp [Nat.add_sub_cancel_left]
     rw [hsp]
     have hM := LM.after (m := m) (cap := c) (rest := rest.drop m) (css2 := List.replicate m [zv]) (z := (0, 0)) hx0.dom hL' (by simp) (fun cs hcs => by rw [(List.mem_replicate.1 hcs).2]; rfl) (by omega) (.inr rfl) rfl (by rw [List.length_drop]; omega) hfit
     refine ⟨_, _, _, h.put b (.cells ⟨css.flatten ++ (List.replicate m [zv]).flatten ++ rest.drop m⟩ e (0, 0)), rfl, .inl rfl, ⟨b, c, rfl, fun q o hq => ?_, hM, fun q hq => put_ne hq, .inr rfl⟩, ?_, ?_⟩
     · have hqb : q ≠ b := fun e => by subst e; rw [(hM.own q rfl).1] at hq; cases hq
       rw [put_ne hqb]; exact hx0 q o hq
     · intro k o hk
       simp only [PHeap.put] at hk
       split at hk
       · rename_i e1; subst e1; cases hk
         exact setRow_heap _ _ _ _ _ _ (hs _ _ hb)
       · rename_i e1
         rw [setRow_other _ _ _ _ e1]; exact hs _ _ hk
     · refine ⟨rfl, rfl, rfl, by rw [size_setRow]; exact Nat.le_refl _, fun k hk hn => ?_⟩
       have : k ≠ b := fun e => by subst e; rw [hb] at hn; cases hn
       exact ⟨by simp only [PHeap.put]; rw [if_neg this]; exact hn, setRow_other _ _ _ _ this⟩
 · have hnc : c < n + m := by omega
   have hcapl := nextcap_le hnc
   have h48' : ¬ (281474976710656 < Builtin.nextslicecap (n + m) c) := by omega
   have h63' : ¬ (9223372036854775807 < ((n : Int) + (m : Int))) := by omega
   have hold : (Builtin.firstCells 1 n (vL a n c)).run Tryz.prog w.drew = .ok css.flatten.toArray w.drew := by
    have hl := hrow.1
    rcases hrow.2 with ⟨hv, hn0⟩ | ⟨b, cap, rest, hv, hb, hrest, hle2⟩
    · injection hv with h4 h5 h6
      subst h4; subst h6
      have : css.flatten = [] := List.eq_nil_of_length_eq_zero (by omega)
      rw [this, hn0]; rfl
    · injection hv with h4 h5 h6
      subst h4
      have hs' : Den.Sub w.drew h := hs
      have hr := Own.row hrow
      show (loadCells ⟨b, 0, none⟩ (n * 1)).run Tryz.prog w.drew = _
      rw [← hl]
      exact run_loadCells_list w.drew _ css.flatten fun j v hj => hs'.row hr j v hj
   have hcap : n + m ≤ grownCap w (n + m) c e := by
    unfold grownCap; simp only [Question.cut]; omega
   have hzc2 : ∀ m, Builtin.zeroCells zv.cells m = (List.replicate m zv).toArray := fun m => by apply Array.ext'; simp [hzc]
   have hrun : (Builtin.append_ #[t, t2] ty #[vL a n c, vI m]).run Tryz.prog w = .ok (vL (ad w.heap.size 0) (n + m) (grownCap w (n + m) c e)) (w.drew.alloc (.cells ⟨css.flatten ++ (List.replicate m [zv]).flatten ++ List.replicate (grownCap w (n + m) c e - (n + m)) zv⟩ e)) := by
    rw [hflat]
    simp [Builtin.append_, run_underlying hu, run_underlying hi2, sizeOf, typeInfo, zeroValue, hi, hz, hsz, hby, hai, hw, hm0, hbig, hfit, h63', h48', Question.forced, hold, newRow, grownCap, hzc2, hmz]
    congr 2
    apply Array.ext'; simp
   rw [hrun]
   have hs' : Den.Sub w.drew h := hs
   have hM := LM.after (m := m) (cap := grownCap w (n + m) c e) (rest := List.replicate (grownCap w (n + m) c e - (n + m)) zv) (css2 := List.replicate m [zv]) (z := (0, 0)) (b := w.heap.size) hx0.dom hL' (by simp) (fun cs hcs => by rw [(List.mem_replicate.1 hcs).2]; rfl) (by omega) (.inl hs.fresh) rfl (by simp) hcap
   refine ⟨_, _, _, h.put w.heap.size _, rfl, .inl rfl, ⟨w.heap.size, _, rfl, fun q o hq => ?_, hM, fun q hq => put_ne hq, .inl hs.fresh⟩, hs'.allocReal _, ?_⟩
   · have hqb : q ≠ w.heap.size := fun e => by subst e; rw [(hM.own _ rfl).1] at hq; cases hq
     rw [put_ne hqb]; exact hx0 q o hq
   · have := Keep.allocReal w.drew h (.cells ⟨css.flatten ++ (List.replicate m [zv]).flatten ++ List.replicate (grownCap w (n + m) c e - (n + m)) zv⟩ e)
     exact ⟨this.os, this.tape, this.output, this.size, this.out⟩
end
end Go.Proofs.D
namespace Go.Proofs.D
open Go Go.Den
set_option maxRecDepth 100000
set_option maxHeartbeats 4000000
noncomputable def d147 : DCode := up ⟨[(28, .c (.one false [.bool])), (33, .c (.one false [.bool])), (37, .c (.one false [.int .u8])), (41, .c (.one false [.int .u8]))], [], []⟩ (low Tryz.prog (fun _ => false) (Tryz.f147.body.getD .skip))
theorem low147 : low Tryz.prog (fun _ => false) (Tryz.f147.body.getD .skip) = some (eC d147) := by kernel_rfl
def R147 (l1 : Bs) (h : PHeap) (Q : Value → PHeap → Prop) : Prop :=
 br (decide ((l1.length : Int) < 2))
 (Q (vT [vU 0, vI 0]) h)
 (0 ≤ (1 : Int) ∧ ∃ (c1 : UInt8), (l1)[1]? = some c1 ∧
 br ((c1.toNat : Int) == 110)
 (Q (vT [vU 10, vI 2]) h)
 (br ((c1.toNat : Int) == 116)
 (Q (vT [vU 9, vI 2]) h)
 (br ((c1.toNat : Int) == 48)
 (Q (vT [vU 0, vI 2]) h)
 (br ((c1.toNat : Int) == 92)
 (0 ≤ (1 : Int) ∧ ∃ (c2 : UInt8), (l1)[1]? = some c2 ∧
 Q (vT [vU (c2.toNat : Int), vI 2]) h)
 (br ((c1.toNat : Int) == 34)
 (0 ≤ (1 : Int) ∧ ∃ (c3 : UInt8), (l1)[1]? = some c3 ∧
 Q (vT [vU (c3.toNat : Int), vI 2]) h)
 (br ((c1.toNat : Int) == 120)
 (br (decide ((l1.length : Int) ≥ 4))
 (0 ≤ (2 : Int) ∧ ∃ (c4 : UInt8), (l1)[2]? = some c4 ∧
 Tri Tryz.prog 163 [vU (c4.toNat : Int)] h fun v_1 h_1 =>
 ∃ (c5 : Bool), v_1 = vB c5 ∧
 br c5
 (0 ≤ (3 : Int) ∧ ∃ (c6 : UInt8), (l1)[3]? = some c6 ∧
 Tri Tryz.prog 163 [vU (c6.toNat : Int)] h_1 fun v_2 h_2 =>
 ∃ (c7 : Bool), v_2 = vB c7 ∧
 br c7
 (0 ≤ (2 : Int) ∧ ∃ (c8 : UInt8), (l1)[2]? = some c8 ∧
 0 ≤ (3 : Int) ∧ ∃ (c9 : UInt8), (l1)[3]? = some c9 ∧
 Tri Tryz.prog 171 [vU (c8.toNat : Int)] h_2 fun v_3 h_3 =>
 ∃ (i1 : Int), v_3 = vU i1 ∧
 Tri Tryz.prog 171 [vU (c9.toNat : Int)] h_3 fun v_4 h_4 =>
 ∃ (i2 : Int), v_4 = vU i2 ∧
 Q (vT [vU (IntKind.u8.wrap ((IntKind.u8.wrap (i1 * 16)) + i2)), vI 4]) h_4)
 (Q (vT [vU 0, vI 0]) h_2))
 (Q (vT [vU 0, vI 0]) h_1))
 (Q (vT [vU 0, vI 0]) h))
 (Q (vT [vU 0, vI 0]) h)))))))
theorem T147 {l1 : Bs} {h : PHeap} {Q : Value → PHeap → Prop} (hR : R147 l1 h Q) : Tri Tryz.prog 147 [vS l1] h Q :=
 tri_of_dn mixed Tryz.func147 rfl (by kernel_rfl) low147 (rs := [.tmp 2, .tmp 3]) (by kernel_rfl) rfl (Eq.mpr (by kernel_rfl : dnF Tryz.prog Tryz.f147.ntmps d147 [.tmp 2, .tmp 3] [vS l1] h Q = R147 l1 h Q) hR)
abbrev o119_7 : Op := .call { callee := (.builtin .append), args := #[(.tmp 41), (.tmp 43)], argTypes := #[40, 40] }
abbrev o119_11 : Op := .call { callee := (.builtin .append), args := #[(.tmp 16), (.tmp 18)], argTypes := #[40, 40] }
noncomputable def d119 : DCode := up ⟨[(36, .c (.tup [(false, [.int .u8]), (false, [qi])])), (44, .c (.one false [.slice])), (19, .c (.one false [.slice]))], [], [(9, 53, [(4, .slice), (5, qi)], [])]⟩ (low Tryz.prog (fun _ => false) (Tryz.f119.body.getD .skip))
theorem low119 : low Tryz.prog (fun _ => false) (Tryz.f119.body.getD .skip) = some (eC d119) := by kernel_rfl
def R119 (l1 : Bs) (h : PHeap) (Q : Value → PHeap → Prop) : Prop :=
 ∃ (I_1 : Nat → OA → Nat → Nat → Int → PHeap → Prop), (∃ (m2 : Nat), I_1 m2 none 0 0 (1 : Int) h) ∧
 ∀ (m1 : Nat) (a1 : OA) (n1 : Nat) (k1 : Nat) (i1 : Int) (h_1 : PHeap), I_1 m1 a1 n1 k1 i1 h_1 →
 br (decide (i1 < (l1.length : Int)))
 (0 ≤ i1 ∧ ∃ (c1 : UInt8), (l1)[(i1).toNat]? = some c1 ∧
 br ((c1.toNat : Int) == 34)
 (∃ (l2 : Bs), BytesAt h_1 a1 n1 l2 ∧
 Q (vT [vS l2, vI (IntKind.i64.wrap (i1 + 1))]) h_1)
 (br ((c1.toNat : Int) == 92)
 ((0 ≤ i1 ∧ i1 ≤ (l1.length : Int) ∧ (l1.length : Int) ≤ (l1.length : Int)) ∧
 Tri Tryz.prog 147 [vS ((l1.drop (i1).toNat).take ((l1.length : Int).toNat - (i1).toNat))] h_1 fun v_1 h_2 =>
 ∃ (i2 i3 : Int), v_1 = vT [vU i2, vI i3] ∧
 br (i3 == 0)
 (Q (vT [vS [], vI 0]) h_2)
 (∀ (b1 : Nat), h_2 b1 = none → ∀ (h_3 : PHeap), h_3 = h_2.put b1 (.cells ⟨[vU i2]⟩ 5) →
 Raw Tryz.prog (execOp (rho [(41, vL a1 n1 k1), (43, vL (ad b1 0) 1 1)]) (mkO o119_7 40)) h_3 fun v_2 h_4 =>
 ∃ (a2 : OA) (n2 k2 : Nat), v_2 = vL a2 n2 k2 ∧
 ∃ (m3 : Nat), m3 < m1 ∧ I_1 m3 a2 n2 k2 (IntKind.i64.wrap (i1 + i3)) h_4 ∧
 True))
 (br (decide ((c1.toNat : Int) < 32))
 (Q (vT [vS [], vI 0]) h_1)
 (br (decide ((c1.toNat : Int) > 126))
 (Q (vT [vS [], vI 0]) h_1)
 (∀ (b2 : Nat), h_1 b2 = none → ∀ (h_5 : PHeap), h_5 = h_1.put b2 (.cells ⟨[vU (c1.toNat : Int)]⟩ 5) →
 Raw Tryz.prog (execOp (rho [(16, vL a1 n1 k1), (18, vL (ad b2 0) 1 1)]) (mkO o119_11 40)) h_5 fun v_3 h_6 =>
 ∃ (a3 : OA) (n3 k3 : Nat), v_3 = vL a3 n3 k3 ∧
 ∃ (m4 : Nat), m4 < m1 ∧ I_1 m4 a3 n3 k3 (IntKind.i64.wrap (i1 + 1)) h_6 ∧
 True)))))
 (Q (vT [vS [], vI 0]) h_1)
theorem T119 {l1 : Bs} {h : PHeap} {Q : Value → PHeap → Prop} (hR : R119 l1 h Q) : Tri Tryz.prog 119 [vS l1] h Q :=
 tri_of_dn mixed Tryz.func119 rfl (by kernel_rfl) low119 (rs := [.tmp 2, .tmp 3]) (by kernel_rfl) rfl (Eq.mpr (by kernel_rfl : dnF Tryz.prog Tryz.f119.ntmps d119 [.tmp 2, .tmp 3] [vS l1] h Q = R119 l1 h Q) hR)
abbrev o88_6 : Op := .call { callee := (.builtin .append), args := #[(.tmp 35), (.tmp 37)], argTypes := #[124, 124] }
abbrev o88_9 : Op := .call { callee := (.builtin .append), args := #[(.tmp 44), (.tmp 46)], argTypes := #[124, 124] }
abbrev o88_15 : Op := .call { callee := (.builtin .append), args := #[(.tmp 62), (.tmp 65)], argTypes := #[124, 124] }
abbrev o88_19 : Op := .call { callee := (.builtin .append), args := #[(.tmp 86), (.tmp 92)], argTypes := #[124, 124] }
noncomputable def d88 : DCode := up ⟨[(38, .c (.one false [.slice])), (47, .c (.one false [.slice])), (57, .c (.tup [(false, [.str]), (false, [qi])])), (66, .c (.one false [.slice])), (72, .c (.one false [.bool])), (82, .c (.one false [.bool])), (93, .c (.one false [.slice]))], [], [(10, 93, [(4, .slice), (5, qi)], []), (74, 13, [(9, qi)], [])]⟩ (low Tryz.prog (fun _ => false) (Tryz.f88.body.getD .skip))
theorem low88 : low Tryz.prog (fun _ => false) (Tryz.f88.body.getD .skip) = some (eC d88) := by kernel_rfl
def R88 (l1 : Bs) (h : PHeap) (Q : Value → PHeap → Prop) : Prop :=
 ∃ (I_1 : Nat → OA → Nat → Nat → Int → PHeap → Prop), (∃ (m2 : Nat), I_1 m2 none 0 0 (0 : Int) h) ∧
 ∀ (m1 : Nat) (a1 : OA) (n1 : Nat) (k1 : Nat) (i1 : Int) (h_1 : PHeap), I_1 m1 a1 n1 k1 i1 h_1 →
 br (decide (i1 < (l1.length : Int)))
 (0 ≤ i1 ∧ ∃ (c1 : UInt8), (l1)[(i1).toNat]? = some c1 ∧
 br ((c1.toNat : Int) != 59)
 (0 ≤ i1 ∧ ∃ (c2 : UInt8), (l1)[(i1).toNat]? = some c2 ∧
 br ((c2.toNat : Int) == 32)
 (∃ (m3 : Nat), m3 < m1 ∧ I_1 m3 a1 n1 k1 (IntKind.i64.wrap (i1 + 1)) h_1 ∧
 True)
 (br ((c2.toNat : Int) == 9)
 (∃ (m4 : Nat), m4 < m1 ∧ I_1 m4 a1 n1 k1 (IntKind.i64.wrap (i1 + 1)) h_1 ∧
 True)
 (br ((c2.toNat : Int) == 44)
 (∀ (b1 : Nat), h_1 b1 = none → ∀ (h_2 : PHeap), h_2 = h_1.put b1 (.cells ⟨[vI 3, vS [44]]⟩ 134) →
 Raw Tryz.prog (execOp (rho [(35, vL a1 n1 k1), (37, vL (ad b1 0) 1 1)]) (mkO o88_6 124)) h_2 fun v_1 h_3 =>
 ∃ (a2 : OA) (n2 k2 : Nat), v_1 = vL a2 n2 k2 ∧
 ∃ (m5 : Nat), m5 < m1 ∧ I_1 m5 a2 n2 k2 (IntKind.i64.wrap (i1 + 1)) h_3 ∧
 True)
 (br ((c2.toNat : Int) == 58)
 (∀ (b2 : Nat), h_1 b2 = none → ∀ (h_4 : PHeap), h_4 = h_1.put b2 (.cells ⟨[vI 4, vS [58]]⟩ 134) →
 Raw Tryz.prog (execOp (rho [(44, vL a1 n1 k1), (46, vL (ad b2 0) 1 1)]) (mkO o88_9 124)) h_4 fun v_2 h_5 =>
 ∃ (a3 : OA) (n3 k3 : Nat), v_2 = vL a3 n3 k3 ∧
 ∃ (m6 : Nat), m6 < m1 ∧ I_1 m6 a3 n3 k3 (IntKind.i64.wrap (i1 + 1)) h_5 ∧
 True)
 (br ((c2.toNat : Int) == 34)
 ((0 ≤ i1 ∧ i1 ≤ (l1.length : Int) ∧ (l1.length : Int) ≤ (l1.length : Int)) ∧
 Tri Tryz.prog 119 [vS ((l1.drop (i1).toNat).take ((l1.length : Int).toNat - (i1).toNat))] h_1 fun v_3 h_6 =>
 ∃ (l2 : Bs) (i2 : Int), v_3 = vT [vS l2, vI i2] ∧
 br (i2 == 0)
 (Q (vT [vL none 0 0, vI 6]) h_6)
 (∀ (b3 : Nat), h_6 b3 = none → ∀ (h_7 : PHeap), h_7 = h_6.put b3 (.cells ⟨[vI 2, vS l2]⟩ 134) →
 Raw Tryz.prog (execOp (rho [(62, vL a1 n1 k1), (65, vL (ad b3 0) 1 1)]) (mkO o88_15 124)) h_7 fun v_4 h_8 =>
 ∃ (a4 : OA) (n4 k4 : Nat), v_4 = vL a4 n4 k4 ∧
 ∃ (m7 : Nat), m7 < m1 ∧ I_1 m7 a4 n4 k4 (IntKind.i64.wrap (i1 + i2)) h_8 ∧
 True))
 (Tri Tryz.prog 120 [vU (c2.toNat : Int)] h_1 fun v_5 h_9 =>
 ∃ (c3 : Bool), v_5 = vB c3 ∧
 br c3
 (∃ (I_2 : Nat → Int → PHeap → Prop), (∃ (m9 : Nat), I_2 m9 i1 h_9) ∧
 ∀ (m8 : Nat) (i3 : Int) (h_10 : PHeap), I_2 m8 i3 h_10 →
 br (decide (i3 < (l1.length : Int)))
 (0 ≤ i3 ∧ ∃ (c4 : UInt8), (l1)[(i3).toNat]? = some c4 ∧
 Tri Tryz.prog 120 [vU (c4.toNat : Int)] h_10 fun v_6 h_11 =>
 ∃ (c5 : Bool), v_6 = vB c5 ∧
 br c5
 (∃ (m10 : Nat), m10 < m8 ∧ I_2 m10 (IntKind.i64.wrap (i3 + 1)) h_11 ∧
 True)
 ((0 ≤ i1 ∧ i1 ≤ i3 ∧ i3 ≤ (l1.length : Int)) ∧
 ∀ (b4 : Nat), h_11 b4 = none → ∀ (h_12 : PHeap), h_12 = h_11.put b4 (.cells ⟨[vI 1, vS ((l1.drop (i1).toNat).take ((i3).toNat - (i1).toNat))]⟩ 134) →
 Raw Tryz.prog (execOp (rho [(86, vL a1 n1 k1), (92, vL (ad b4 0) 1 1)]) (mkO o88_19 124)) h_12 fun v_7 h_13 =>
 ∃ (a5 : OA) (n5 k5 : Nat), v_7 = vL a5 n5 k5 ∧
 ∃ (m11 : Nat), m11 < m1 ∧ I_1 m11 a5 n5 k5 i3 h_13 ∧
 True))
 ((0 ≤ i1 ∧ i1 ≤ i3 ∧ i3 ≤ (l1.length : Int)) ∧
 ∀ (b5 : Nat), h_10 b5 = none → ∀ (h_14 : PHeap), h_14 = h_10.put b5 (.cells ⟨[vI 1, vS ((l1.drop (i1).toNat).take ((i3).toNat - (i1).toNat))]⟩ 134) →
 Raw Tryz.prog (execOp (rho [(86, vL a1 n1 k1), (92, vL (ad b5 0) 1 1)]) (mkO o88_19 124)) h_14 fun v_8 h_15 =>
 ∃ (a6 : OA) (n6 k6 : Nat), v_8 = vL a6 n6 k6 ∧
 ∃ (m12 : Nat), m12 < m1 ∧ I_1 m12 a6 n6 k6 i3 h_15 ∧
 True))
 (Q (vT [vL none 0 0, vI 6]) h_9)))))))
 (Q (vT [vL a1 n1 k1, vI 0]) h_1))
 (Q (vT [vL a1 n1 k1, vI 0]) h_1)
theorem T88 {l1 : Bs} {h : PHeap} {Q : Value → PHeap → Prop} (hR : R88 l1 h Q) : Tri Tryz.prog 88 [vS l1] h Q :=
 tri_of_dn mixed Tryz.func88 rfl (by kernel_rfl) low88 (rs := [.tmp 2, .tmp 3]) (by kernel_rfl) rfl (Eq.mpr (by kernel_rfl : dnF Tryz.prog Tryz.f88.ntmps d88 [.tmp 2, .tmp 3] [vS l1] h Q = R88 l1 h Q) hR)
noncomputable def d154 : DCode := up ⟨[(40, .c (.one false [qi])), (48, .c (.one false [qi])), (55, .c (.one false [qi])), (61, .c (.one false [qi]))], [], []⟩ (low Tryz.prog (fun _ => false) (Tryz.f154.body.getD .skip))
theorem low154 : low Tryz.prog (fun _ => false) (Tryz.f154.body.getD .skip) = some (eC d154) := by kernel_rfl
def R154 (l1 : Bs) (i1 : Int) (h : PHeap) (Q : Value → PHeap → Prop) : Prop :=
 br (decide ((IntKind.i64.wrap (i1 + 1)) ≥ (l1.length : Int)))
 (Q (vT [vU 0, vI 0]) h)
 (0 ≤ (IntKind.i64.wrap (i1 + 1)) ∧ ∃ (c1 : UInt8), (l1)[(IntKind.i64.wrap (i1 + 1)).toNat]? = some c1 ∧
 br ((c1.toNat : Int) == 110)
 (Q (vT [vU 10, vI 2]) h)
 (br ((c1.toNat : Int) == 116)
 (Q (vT [vU 9, vI 2]) h)
 (br ((c1.toNat : Int) == 48)
 (Q (vT [vU 0, vI 2]) h)
 (br ((c1.toNat : Int) == 92)
 (0 ≤ (IntKind.i64.wrap (i1 + 1)) ∧ ∃ (c2 : UInt8), (l1)[(IntKind.i64.wrap (i1 + 1)).toNat]? = some c2 ∧
 Q (vT [vU (c2.toNat : Int), vI 2]) h)
 (br ((c1.toNat : Int) == 34)
 (0 ≤ (IntKind.i64.wrap (i1 + 1)) ∧ ∃ (c3 : UInt8), (l1)[(IntKind.i64.wrap (i1 + 1)).toNat]? = some c3 ∧
 Q (vT [vU (c3.toNat : Int), vI 2]) h)
 (br ((c1.toNat : Int) == 120)
 (br (decide ((IntKind.i64.wrap (i1 + 3)) < (l1.length : Int)))
 (0 ≤ (IntKind.i64.wrap (i1 + 2)) ∧ ∃ (c4 : UInt8), (l1)[(IntKind.i64.wrap (i1 + 2)).toNat]? = some c4 ∧
 Tri Tryz.prog 173 [vU (c4.toNat : Int)] h fun v_1 h_1 =>
 ∃ (i2 : Int), v_1 = vI i2 ∧
 br (decide (i2 ≥ 0))
 (0 ≤ (IntKind.i64.wrap (i1 + 3)) ∧ ∃ (c5 : UInt8), (l1)[(IntKind.i64.wrap (i1 + 3)).toNat]? = some c5 ∧
 Tri Tryz.prog 173 [vU (c5.toNat : Int)] h_1 fun v_2 h_2 =>
 ∃ (i3 : Int), v_2 = vI i3 ∧
 br (decide (i3 ≥ 0))
 (0 ≤ (IntKind.i64.wrap (i1 + 2)) ∧ ∃ (c6 : UInt8), (l1)[(IntKind.i64.wrap (i1 + 2)).toNat]? = some c6 ∧
 0 ≤ (IntKind.i64.wrap (i1 + 3)) ∧ ∃ (c7 : UInt8), (l1)[(IntKind.i64.wrap (i1 + 3)).toNat]? = some c7 ∧
 Tri Tryz.prog 173 [vU (c6.toNat : Int)] h_2 fun v_3 h_3 =>
 ∃ (i4 : Int), v_3 = vI i4 ∧
 Tri Tryz.prog 173 [vU (c7.toNat : Int)] h_3 fun v_4 h_4 =>
 ∃ (i5 : Int), v_4 = vI i5 ∧
 Q (vT [vU (IntKind.u8.wrap ((IntKind.i64.wrap ((IntKind.i64.wrap (16 * i4)) + i5)))), vI 4]) h_4)
 (Q (vT [vU 0, vI 0]) h_2))
 (Q (vT [vU 0, vI 0]) h_1))
 (Q (vT [vU 0, vI 0]) h))
 (Q (vT [vU 0, vI 0]) h)))))))
theorem T154 {l1 : Bs} {i1 : Int} {h : PHeap} {Q : Value → PHeap → Prop} (hR : R154 l1 i1 h Q) : Tri Tryz.prog 154 [vS l1, vI i1] h Q :=
 tri_of_dn mixed Tryz.func154 rfl (by kernel_rfl) low154 (rs := [.tmp 4, .tmp 5]) (by kernel_rfl) rfl (Eq.mpr (by kernel_rfl : dnF Tryz.prog Tryz.f154.ntmps d154 [.tmp 4, .tmp 5] [vS l1, vI i1] h Q = R154 l1 i1 h Q) hR)
noncomputable def d132 : DCode := up ⟨[(40, .c (.tup [(false, [.int .u8]), (false, [qi])]))], [], [(12, 47, [(6, .str), (7, qi)], [])]⟩ (low Tryz.prog (fun _ => false) (Tryz.f132.body.getD .skip))
theorem low132 : low Tryz.prog (fun _ => false) (Tryz.f132.body.getD .skip) = some (eC d132) := by kernel_rfl
def R132 (l1 : Bs) (i1 : Int) (h : PHeap) (Q : Value → PHeap → Prop) : Prop :=
 ∃ (I_1 : Nat → Bs → Int → PHeap → Prop), (∃ (m2 : Nat), I_1 m2 [] (IntKind.i64.wrap (i1 + 1)) h) ∧
 ∀ (m1 : Nat) (l2 : Bs) (i2 : Int) (h_1 : PHeap), I_1 m1 l2 i2 h_1 →
 br (decide (i2 < (l1.length : Int)))
 (0 ≤ i2 ∧ ∃ (c1 : UInt8), (l1)[(i2).toNat]? = some c1 ∧
 br ((c1.toNat : Int) != 34)
 (0 ≤ i2 ∧ ∃ (c2 : UInt8), (l1)[(i2).toNat]? = some c2 ∧
 br (decide ((c2.toNat : Int) < 32))
 (Q (vT [vS [], vI 0]) h_1)
 (0 ≤ i2 ∧ ∃ (c3 : UInt8), (l1)[(i2).toNat]? = some c3 ∧
 br (decide ((c3.toNat : Int) > 126))
 (Q (vT [vS [], vI 0]) h_1)
 (0 ≤ i2 ∧ ∃ (c4 : UInt8), (l1)[(i2).toNat]? = some c4 ∧
 br ((c4.toNat : Int) == 92)
 (Tri Tryz.prog 154 [vS l1, vI i2] h_1 fun v_1 h_2 =>
 ∃ (i3 i4 : Int), v_1 = vT [vU i3, vI i4] ∧
 br (i4 == 0)
 (Q (vT [vS [], vI 0]) h_2)
 (∀ (b1 : Nat), h_2 b1 = none → ∀ (h_3 : PHeap), h_3 = h_2.put b1 (.cells ⟨[vU i3]⟩ 5) →
 ∃ (l3 : Bs), BytesAt h_3 (ad b1 0) 1 l3 ∧
 l2.length + l3.length ≤ 9223372036854775807 ∧
 ∃ (m3 : Nat), m3 < m1 ∧ I_1 m3 (l2 ++ l3) (IntKind.i64.wrap (i2 + i4)) h_3 ∧
 True))
 (∀ (b2 : Nat), h_1 b2 = none → ∀ (h_4 : PHeap), h_4 = h_1.put b2 (.cells ⟨[vU (c4.toNat : Int)]⟩ 5) →
 ∃ (l4 : Bs), BytesAt h_4 (ad b2 0) 1 l4 ∧
 l2.length + l4.length ≤ 9223372036854775807 ∧
 ∃ (m4 : Nat), m4 < m1 ∧ I_1 m4 (l2 ++ l4) (IntKind.i64.wrap (i2 + 1)) h_4 ∧
 True))))
 (br (decide (i2 ≥ (l1.length : Int)))
 (Q (vT [vS [], vI 0]) h_1)
 (Q (vT [vS l2, vI (IntKind.i64.wrap (i2 + 1))]) h_1)))
 (br (decide (i2 ≥ (l1.length : Int)))
 (Q (vT [vS [], vI 0]) h_1)
 (Q (vT [vS l2, vI (IntKind.i64.wrap (i2 + 1))]) h_1))
theorem T132 {l1 : Bs} {i1 : Int} {h : PHeap} {Q : Value → PHeap → Prop} (hR : R132 l1 i1 h Q) : Tri Tryz.prog 132 [vS l1, vI i1] h Q :=
 tri_of_dn mixed Tryz.func132 rfl (by kernel_rfl) low132 (rs := [.tmp 4, .tmp 5]) (by kernel_rfl) rfl (Eq.mpr (by kernel_rfl : dnF Tryz.prog Tryz.f132.ntmps d132 [.tmp 4, .tmp 5] [vS l1, vI i1] h Q = R132 l1 i1 h Q) hR)
abbrev o94_11 : Op := .call { callee := (.builtin .append), args := #[(.tmp 69), (.tmp 72)], argTypes := #[138, 138] }
abbrev o94_14 : Op := .call { callee := (.builtin .append), args := #[(.tmp 80), (.tmp 86)], argTypes := #[138, 138] }
abbrev o94_19 : Op := .call { callee := (.builtin .append), args := #[(.tmp 100), (.tmp 103)], argTypes := #[138, 138] }
noncomputable def d94 : DCode := up ⟨[(31, .c (.one false [.bool])), (36, .c (.one false [.bool])), (73, .c (.one false [.slice])), (87, .c (.one false [.slice])), (95, .c (.tup [(false, [.str]), (false, [qi])])), (104, .c (.one false [.slice]))], [], [(9, 104, [(4, qi), (2, .slice)], []), (23, 31, [(6, qi)], [])]⟩ (low Tryz.prog (fun _ => false) (Tryz.f94.body.getD .skip))
theorem low94 : low Tryz.prog (fun _ => false) (Tryz.f94.body.getD .skip) = some (eC d94) := by kernel_rfl
def R94 (l1 : Bs) (h : PHeap) (Q : Value → PHeap → Prop) : Prop :=
 ∃ (I_1 : Nat → Int → OA → Nat → Nat → PHeap → Prop), (∃ (m2 : Nat), I_1 m2 (0 : Int) none 0 0 h) ∧
 ∀ (m1 : Nat) (i1 : Int) (a1 : OA) (n1 : Nat) (k1 : Nat) (h_1 : PHeap), I_1 m1 i1 a1 n1 k1 h_1 →
 br (decide (i1 < (l1.length : Int)))
 (0 ≤ i1 ∧ ∃ (c1 : UInt8), (l1)[(i1).toNat]? = some c1 ∧
 br ((c1.toNat : Int) != 59)
 (0 ≤ i1 ∧ ∃ (c2 : UInt8), (l1)[(i1).toNat]? = some c2 ∧
 ∃ (I_2 : Nat → Int → PHeap → Prop), (∃ (m4 : Nat), I_2 m4 i1 h_1) ∧
 ∀ (m3 : Nat) (i2 : Int) (h_2 : PHeap), I_2 m3 i2 h_2 →
 br (decide (i2 < (l1.length : Int)))
 (0 ≤ i2 ∧ ∃ (c3 : UInt8), (l1)[(i2).toNat]? = some c3 ∧
 Tri Tryz.prog 54 [vU (c3.toNat : Int)] h_2 fun v_1 h_3 =>
 ∃ (c4 : Bool), v_1 = vB c4 ∧
 br c4
 (∃ (m5 : Nat), m5 < m3 ∧ I_2 m5 (IntKind.i64.wrap (i2 + 1)) h_3 ∧
 True)
 (0 ≤ i2 ∧ ∃ (c5 : UInt8), (l1)[(i2).toNat]? = some c5 ∧
 Tri Tryz.prog 56 [vU (c5.toNat : Int)] h_3 fun v_2 h_4 =>
 ∃ (c6 : Bool), v_2 = vB c6 ∧
 br c6
 (∃ (m6 : Nat), m6 < m3 ∧ I_2 m6 (IntKind.i64.wrap (i2 + 1)) h_4 ∧
 True)
 (0 ≤ i2 ∧ ∃ (c7 : UInt8), (l1)[(i2).toNat]? = some c7 ∧
 br ((c7.toNat : Int) == 46)
 (∃ (m7 : Nat), m7 < m3 ∧ I_2 m7 (IntKind.i64.wrap (i2 + 1)) h_4 ∧
 True)
 (0 ≤ i2 ∧ ∃ (c8 : UInt8), (l1)[(i2).toNat]? = some c8 ∧
 br ((c8.toNat : Int) == 45)
 (∃ (m8 : Nat), m8 < m3 ∧ I_2 m8 (IntKind.i64.wrap (i2 + 1)) h_4 ∧
 True)
 (br ((c2.toNat : Int) == 32)
 (∃ (m9 : Nat), m9 < m1 ∧ I_1 m9 (IntKind.i64.wrap (i1 + 1)) a1 n1 k1 h_4 ∧
 True)
 (br ((c2.toNat : Int) == 9)
 (∃ (m10 : Nat), m10 < m1 ∧ I_1 m10 (IntKind.i64.wrap (i1 + 1)) a1 n1 k1 h_4 ∧
 True)
 (br ((c2.toNat : Int) == 44)
 (∀ (b1 : Nat), h_4 b1 = none → ∀ (h_5 : PHeap), h_5 = h_4.put b1 (.cells ⟨[vU (c2.toNat : Int), vS []]⟩ 180) →
 Raw Tryz.prog (execOp (rho [(69, vL a1 n1 k1), (72, vL (ad b1 0) 1 1)]) (mkO o94_11 138)) h_5 fun v_3 h_6 =>
 ∃ (a2 : OA) (n2 k2 : Nat), v_3 = vL a2 n2 k2 ∧
 ∃ (m11 : Nat), m11 < m1 ∧ I_1 m11 (IntKind.i64.wrap (i1 + 1)) a2 n2 k2 h_6 ∧
 True)
 (br ((c2.toNat : Int) == 58)
 (∀ (b2 : Nat), h_4 b2 = none → ∀ (h_7 : PHeap), h_7 = h_4.put b2 (.cells ⟨[vU (c2.toNat : Int), vS []]⟩ 180) →
 Raw Tryz.prog (execOp (rho [(69, vL a1 n1 k1), (72, vL (ad b2 0) 1 1)]) (mkO o94_11 138)) h_7 fun v_4 h_8 =>
 ∃ (a3 : OA) (n3 k3 : Nat), v_4 = vL a3 n3 k3 ∧
 ∃ (m12 : Nat), m12 < m1 ∧ I_1 m12 (IntKind.i64.wrap (i1 + 1)) a3 n3 k3 h_8 ∧
 True)
 (br (decide (i2 > i1))
 ((0 ≤ i1 ∧ i1 ≤ i2 ∧ i2 ≤ (l1.length : Int)) ∧
 ∀ (b3 : Nat), h_4 b3 = none → ∀ (h_9 : PHeap), h_9 = h_4.put b3 (.cells ⟨[vU 119, vS ((l1.drop (i1).toNat).take ((i2).toNat - (i1).toNat))]⟩ 180) →
 Raw Tryz.prog (execOp (rho [(80, vL a1 n1 k1), (86, vL (ad b3 0) 1 1)]) (mkO o94_14 138)) h_9 fun v_5 h_10 =>
 ∃ (a4 : OA) (n4 k4 : Nat), v_5 = vL a4 n4 k4 ∧
 ∃ (m13 : Nat), m13 < m1 ∧ I_1 m13 i2 a4 n4 k4 h_10 ∧
 True)
 (br ((c2.toNat : Int) == 34)
 (Tri Tryz.prog 132 [vS l1, vI i1] h_4 fun v_6 h_11 =>
 ∃ (l2 : Bs) (i3 : Int), v_6 = vT [vS l2, vI i3] ∧
 br (i3 == 0)
 (Q (vT [vL none 0 0, vB false]) h_11)
 (∀ (b4 : Nat), h_11 b4 = none → ∀ (h_12 : PHeap), h_12 = h_11.put b4 (.cells ⟨[vU 115, vS l2]⟩ 180) →
 Raw Tryz.prog (execOp (rho [(100, vL a1 n1 k1), (103, vL (ad b4 0) 1 1)]) (mkO o94_19 138)) h_12 fun v_7 h_13 =>
 ∃ (a5 : OA) (n5 k5 : Nat), v_7 = vL a5 n5 k5 ∧
 ∃ (m14 : Nat), m14 < m1 ∧ I_1 m14 i3 a5 n5 k5 h_13 ∧
 True))
 (Q (vT [vL none 0 0, vB false]) h_4)))))))))))
 (br ((c2.toNat : Int) == 32)
 (∃ (m15 : Nat), m15 < m1 ∧ I_1 m15 (IntKind.i64.wrap (i1 + 1)) a1 n1 k1 h_2 ∧
 True)
 (br ((c2.toNat : Int) == 9)
 (∃ (m16 : Nat), m16 < m1 ∧ I_1 m16 (IntKind.i64.wrap (i1 + 1)) a1 n1 k1 h_2 ∧
 True)
 (br ((c2.toNat : Int) == 44)
 (∀ (b5 : Nat), h_2 b5 = none → ∀ (h_14 : PHeap), h_14 = h_2.put b5 (.cells ⟨[vU (c2.toNat : Int), vS []]⟩ 180) →
 Raw Tryz.prog (execOp (rho [(69, vL a1 n1 k1), (72, vL (ad b5 0) 1 1)]) (mkO o94_11 138)) h_14 fun v_8 h_15 =>
 ∃ (a6 : OA) (n6 k6 : Nat), v_8 = vL a6 n6 k6 ∧
 ∃ (m17 : Nat), m17 < m1 ∧ I_1 m17 (IntKind.i64.wrap (i1 + 1)) a6 n6 k6 h_15 ∧
 True)
 (br ((c2.toNat : Int) == 58)
 (∀ (b6 : Nat), h_2 b6 = none → ∀ (h_16 : PHeap), h_16 = h_2.put b6 (.cells ⟨[vU (c2.toNat : Int), vS []]⟩ 180) →
 Raw Tryz.prog (execOp (rho [(69, vL a1 n1 k1), (72, vL (ad b6 0) 1 1)]) (mkO o94_11 138)) h_16 fun v_9 h_17 =>
 ∃ (a7 : OA) (n7 k7 : Nat), v_9 = vL a7 n7 k7 ∧
 ∃ (m18 : Nat), m18 < m1 ∧ I_1 m18 (IntKind.i64.wrap (i1 + 1)) a7 n7 k7 h_17 ∧
 True)
 (br (decide (i2 > i1))
 ((0 ≤ i1 ∧ i1 ≤ i2 ∧ i2 ≤ (l1.length : Int)) ∧
 ∀ (b7 : Nat), h_2 b7 = none → ∀ (h_18 : PHeap), h_18 = h_2.put b7 (.cells ⟨[vU 119, vS ((l1.drop (i1).toNat).take ((i2).toNat - (i1).toNat))]⟩ 180) →
 Raw Tryz.prog (execOp (rho [(80, vL a1 n1 k1), (86, vL (ad b7 0) 1 1)]) (mkO o94_14 138)) h_18 fun v_10 h_19 =>
 ∃ (a8 : OA) (n8 k8 : Nat), v_10 = vL a8 n8 k8 ∧
 ∃ (m19 : Nat), m19 < m1 ∧ I_1 m19 i2 a8 n8 k8 h_19 ∧
 True)
 (br ((c2.toNat : Int) == 34)
 (Tri Tryz.prog 132 [vS l1, vI i1] h_2 fun v_11 h_20 =>
 ∃ (l3 : Bs) (i4 : Int), v_11 = vT [vS l3, vI i4] ∧
 br (i4 == 0)
 (Q (vT [vL none 0 0, vB false]) h_20)
 (∀ (b8 : Nat), h_20 b8 = none → ∀ (h_21 : PHeap), h_21 = h_20.put b8 (.cells ⟨[vU 115, vS l3]⟩ 180) →
 Raw Tryz.prog (execOp (rho [(100, vL a1 n1 k1), (103, vL (ad b8 0) 1 1)]) (mkO o94_19 138)) h_21 fun v_12 h_22 =>
 ∃ (a9 : OA) (n9 k9 : Nat), v_12 = vL a9 n9 k9 ∧
 ∃ (m20 : Nat), m20 < m1 ∧ I_1 m20 i4 a9 n9 k9 h_22 ∧
 True))
 (Q (vT [vL none 0 0, vB false]) h_2))))))))
 (Q (vT [vL a1 n1 k1, vB true]) h_1))
 (Q (vT [vL a1 n1 k1, vB true]) h_1)
theorem T94 {l1 : Bs} {h : PHeap} {Q : Value → PHeap → Prop} (hR : R94 l1 h Q) : Tri Tryz.prog 94 [vS l1] h Q :=
 tri_of_dn mixed Tryz.func94 rfl (by kernel_rfl) low94 (rs := [.tmp 2, .tmp 3]) (by kernel_rfl) rfl (Eq.mpr (by kernel_rfl : dnF Tryz.prog Tryz.f94.ntmps d94 [.tmp 2, .tmp 3] [vS l1] h Q = R94 l1 h Q) hR)
end Go.Proofs.D
namespace Go.As
theorem unq_fuel : ∀ (f g : Nat) (r : Bytes), r.length < f → r.length < g → unq f r = unq g r := by
 intro f
 induction f with
 | zero => intro g r h; omega
 | succ f ih =>
   intro g r hf hg
   obtain ⟨g, rfl⟩ : ∃ k, g = k + 1 := ⟨g - 1, by omega⟩
   match r, hf, hg with
   | [], _, _ => rfl
   | c :: r, hf, hg =>
     simp only [List.length_cons] at hf hg
     rw [unq, unq, ih g r (by omega) (by omega)]
     cases he : escB r with
     | none => rfl
     | some x =>
       obtain ⟨b, r'⟩ := x
       have := escB_len he
       simp only [ih g r' (by omega) (by omega)]
def unq1 (r : Bytes) : Option (Bytes × Bytes) := unq (r.length + 1) r
theorem unq1_nil : unq1 [] = none := rfl
theorem unq1_end (r : Bytes) : unq1 (34 :: r) = some ([], r) := by unfold unq1; rw [unq, if_pos rfl]
theorem unq1_esc (r : Bytes) : unq1 (92 :: r) = match escB r with
 | none => none
 | some (b, r') => (unq1 r').map fun x => (b :: x.1, x.2) := by
 unfold unq1
 rw [unq, if_neg (by decide), if_pos rfl]
 cases he : escB r with
 | none => rfl
 | some x =>
   obtain ⟨b, r'⟩ := x
   have := escB_len he
   simp only [unq_fuel (92 :: r).length (r'.length + 1) r' (by simp; omega) (by omega)]
theorem unq1_byte {c : UInt8} (h1 : c ≠ 34) (h2 : c ≠ 92) (r : Bytes) : unq1 (c :: r) = if c.toNat < 32 ∨ 126 < c.toNat then none else (unq1 r).map fun x => (c :: x.1, x.2) := by
 unfold unq1
 rw [unq, if_neg h1, if_neg h2]; rfl
theorem unq1_len {r x r' : Bytes} (h : unq1 r = some (x, r')) : r'.length < r.length := unq_len h
theorem tokL_end (r : Bytes) : tokensL (59 :: r) = some [] := by unfold tokensL; rw [tokensS, if_pos rfl]
theorem tokL_quote (r : Bytes) : tokensL (34 :: r) = match unq1 r with
 | none => none
 | some (x, r') => (tokensL r').map fun l => ⟨2, x⟩ :: l := by
 unfold tokensL
 rw [tokensS, if_neg (by decide), if_neg (by decide), if_neg (by decide), if_neg (by decide), if_pos rfl]
 show (match unq1 r with | none => none | some (s, r) => _) = _
 cases hu : unq1 r with
 | none => rfl
 | some x =>
   obtain ⟨x, r'⟩ := x
   have := unq1_len hu
   simp only [tok_fuel (34 :: r).length (r'.length + 1) r' (by simp; omega) (by omega)]
theorem tokL_bad {c : UInt8} (h1 : c ≠ 59) (h2 : ¬ (c = 32 ∨ c = 9)) (h3 : c ≠ 44) (h4 : c ≠ 58) (h5 : c ≠ 34) (h6 : wordB c = false) (r : Bytes) : tokensL (c :: r) = none := by
 unfold tokensL
 rw [tokensS, if_neg h1, if_neg h2, if_neg h3, if_neg h4, if_neg h5, if_neg (by simp [h6])]
theorem stop_drop (s : Bytes) : Stop (s.dropWhile wordB) := by
 intro c t e
 induction s with
 | nil => cases e
 | cons x s ih =>
   rw [List.dropWhile_cons] at e
   split at e
   · exact ih e
   · rename_i h; injection e with e _; subst e; simpa using h
theorem tokL_word2 {c : UInt8} (h : wordB c = true) (r : Bytes) : tokensL (c :: r) = (tokensL ((c :: r).dropWhile wordB)).map fun l => ⟨1, (c :: r).takeWhile wordB⟩ :: l := by
 have ha : ((c :: r).takeWhile wordB).all wordB = true := List.all_takeWhile ..
 have hn : (c :: r).takeWhile wordB ≠ [] := by rw [List.takeWhile_cons, if_pos h]; simp
 have := tokL_word ha hn (stop_drop (c :: r))
 rwa [List.takeWhile_append_dropWhile] at this
end Go.As
namespace Go.Proofs.D
open Go Go.Den Go.As
set_option maxRecDepth 100000
attribute [local irreducible] IntKind.wrap Tri
theorem und40 : Tryz.prog.underlying 40 = some (.slice 5) := Tryz.underlying40
theorem und124 : Tryz.prog.underlying 124 = some (.slice 134) := Tryz.underlying124
theorem elem5 : ElemT 5 1 := ⟨_, _, rfl, rfl, rfl, rfl, by decide⟩
theorem elem134 : ElemT 134 2 := ⟨_, _, rfl, rfl, rfl, rfl, by decide⟩
section
variable (h : PHeap)
def escV (r : Bytes) : Value := match escB r with
 | none => vT [vU 0, vI 0]
 | some (b, r') => vT [vU (b.toNat : Int), vI ((r.length + 1 - r'.length : Nat) : Int)]
theorem hex_wrap {a b : UInt8} (ha : hexB a = true) (hb : hexB b = true) : IntKind.u8.wrap (IntKind.u8.wrap ((hexN a : Int) * 16) + (hexN b : Int)) = ((UInt8.ofNat (16 * hexN a + hexN b)).toNat : Int) := by
 have hl : ∀ n : Fin 256, hexB (UInt8.ofNat n.val) = true → hexN (UInt8.ofNat n.val) < 16 := by decide +kernel
 have h1 := hl ⟨a.toNat, a.toNat_lt⟩
 have h2 := hl ⟨b.toNat, b.toNat_lt⟩
 simp only [UInt8.ofNat_toNat] at h1 h2
 have key : ∀ x y : Fin 16, IntKind.u8.wrap (IntKind.u8.wrap ((x.val : Int) * 16) + (y.val : Int)) = ((UInt8.ofNat (16 * x.val + y.val)).toNat : Int) := by decide +kernel
 exact key ⟨_, h1 ha⟩ ⟨_, h2 hb⟩
theorem escape_t (c : UInt8) (r : Bytes) : Tri Tryz.prog 147 [vS (c :: r)] h fun v h' => v = escV r ∧ h' = h := by
 refine T147 ?_
 unfold R147
 match r with
 | [] => exact br_pos rfl ⟨rfl, rfl⟩
 | d :: r =>
   refine br_neg (by simp; omega) ⟨by decide, d, rfl, ?_⟩
   refine br_split (fun e => ?_) fun n1 => br_split (fun e => ?_) fun n2 => br_split (fun e => ?_) fun n3 => br_split (fun e => ?_) fun n4 => br_split (fun e => ?_) fun n5 => br_split (fun e => ?_) fun n6 => ?_
   · obtain rfl : d = 110 := u8_is e
     refine ⟨?_, rfl⟩; simp [escV, escB]; omega
   · obtain rfl : d = 116 := u8_is e
     refine ⟨?_, rfl⟩; simp [escV, escB]; omega
   · obtain rfl : d = 48 := u8_is e
     refine ⟨?_, rfl⟩; simp [escV, escB]; omega
   · obtain rfl : d = 92 := u8_is e
     refine ⟨by decide, 92, rfl, ?_, rfl⟩; simp [escV, escB]; omega
   · obtain rfl : d = 34 := u8_is e
     refine ⟨by decide, 34, rfl, ?_, rfl⟩; simp [escV, escB]; omega
   · obtain rfl : d = 120 := u8_is e
     match r with
     | [] => exact br_neg (by simp) ⟨rfl, rfl⟩
     | [_] => exact br_neg (by simp) ⟨rfl, rfl⟩
     | x :: y :: r =>
       refine br_pos (by simp; omega) ⟨by decide, x, rfl, ?_⟩
       refine Tri.mono (hex_t h x) ?_
       rintro _ h ⟨rfl, rfl⟩
       refine ⟨_, rfl, br_split (fun e1 => ⟨by decide, y, rfl, ?_⟩) fun e1 => ?_⟩
       · refine Tri.mono (hex_t h y) ?_
         rintro _ h ⟨rfl, rfl⟩
         refine ⟨_, rfl, br_split (fun e2 => ⟨by decide, x, rfl, by decide, y, rfl, ?_⟩) fun e2 => ?_⟩
         · refine Tri.mono (hexv_t h x e1) ?_
           rintro _ h ⟨rfl, rfl⟩
           refine ⟨_, rfl, ?_⟩
           refine Tri.mono (hexv_t h y e2) ?_
           rintro _ h ⟨rfl, rfl⟩
           refine ⟨_, rfl, ?_, rfl⟩
           rw [hex_wrap e1 e2]
           have : escB (120 :: x :: y :: r) = some (UInt8.ofNat (16 * hexN x + hexN y), r) := by rw [escB, e1, e2]; rfl
           unfold escV
           rw [this]
           simp; omega
         · have : escB (120 :: x :: y :: r) = none := by rw [escB, e1, e2]; rfl
           unfold escV; rw [this]; exact ⟨rfl, rfl⟩
       · have : escB (120 :: x :: y :: r) = none := by rw [escB, e1]; rfl
         unfold escV; rw [this]; exact ⟨rfl, rfl⟩
   · have : escB (d :: r) = none := by
      unfold escB
      split
      · rename_i e; injection e with e _; subst e; exact absurd n1 (by decide)
      · rename_i e; injection e with e _; subst e; exact absurd n2 (by decide)
      · rename_i e; injection e with e _; subst e; exact absurd n3 (by decide)
      · rename_i e; injection e with e _; subst e; exact absurd n4 (by decide)
      · rename_i e; injection e with e _; subst e; exact absurd n5 (by decide)
      · rename_i e; injection e with e _; subst e; exact absurd n6 (by decide)
      · rfl
     unfold escV; rw [this]; exact ⟨rfl, rfl⟩
def unqV (r : Bytes) : Value := match unq1 r with
 | none => vT [vS [], vI 0]
 | some (x, r') => vT [vS x, vI ((r.length + 1 - r'.length : Nat) : Int)]
def bL (l : Bytes) : List (List Value) := l.map fun c => [byteV c]
theorem bL_app (a b : Bytes) : bL (a ++ b) = bL a ++ bL b := by simp [bL]
theorem bL_flat : ∀ l : Bytes, (bL l).flatten = l.map byteV
 | [] => rfl
 | c :: l => by have := bL_flat l; unfold bL at this ⊢; rw [List.map_cons, List.flatten_cons, this]; rfl
theorem LM.bytes {h0 h : PHeap} {e : Nat} {a : OA} {n k : Nat} {l : Bytes} (hM : LM e 1 h0 h a n k (bL l)) : BytesAt h a n l := by
 have hl := hM.len
 simp only [bL, List.length_map] at hl
 rcases hM.row.2 with ⟨h1, h2⟩ | ⟨b, cap, rest, h1, h2, _, _⟩
 · injection h1 with h1 _ _
   exact .inl ⟨h1, List.eq_nil_of_length_eq_zero (by omega)⟩
 · injection h1 with h1 _ _
   refine .inr ⟨b, 0, h1, hl, ?_⟩
   refine row_lit h2 fun j v hj => ?_
   rw [Nat.zero_add, bL_flat, List.getElem?_append_left (List.getElem?_eq_some_iff.1 hj).1]; exact hj
theorem drop_at {s : Bytes} {j : Nat} {c : UInt8} {r : Bytes} (hd : s.drop j = c :: r) : j < s.length ∧ s[((j : Nat) : Int).toNat]? = some c ∧ s.drop (j + 1) = r ∧ r.length + j + 1 = s.length := by
 have hlt : j < s.length := by
  have := congrArg List.length hd
  simp at this; omega
 rw [List.drop_eq_getElem_cons hlt] at hd
 injection hd with h1 h2
 refine ⟨hlt, by simp [hlt, h1], h2, ?_⟩
 have := congrArg List.length h2
 simp at this; omega
theorem unquote_t (q : UInt8) (r : Bytes) (hl : r.length ≤ 1000000) : Tri Tryz.prog 119 [vS (q :: r)] h fun v h' => v = unqV r ∧ Ext h h' := by
 refine T119 ?_
 unfold R119
 refine ⟨fun m a n k i h' => ∃ (j : Nat) (acc : Bytes), i = ((j + 1 : Nat) : Int) ∧ j + m = r.length ∧ Ext h h' ∧ LM 5 1 h h' a n k (bL acc) ∧ n = acc.length ∧ acc.length ≤ j ∧ unq1 r = (unq1 (r.drop j)).map fun x => (acc ++ x.1, x.2),
  ⟨r.length, 0, [], rfl, by omega, Ext.refl h, LM.nil, rfl, by simp, by cases h : unq1 r <;> simp [h]⟩, ?_⟩
 rintro m a n k _ h1 ⟨j, acc, rfl, hjm, hx, hM, rfl, hac, hu⟩
 cases hd : r.drop j with
 | nil =>
   have hj : r.length ≤ j := by simpa using hd
   refine br_neg (by simp; omega) ?_
   rw [hd, unq1_nil] at hu
   refine ⟨?_, hx⟩
   unfold unqV; rw [hu]; rfl
 | cons c t =>
   obtain ⟨hlt, hg, ht, htl⟩ := drop_at hd
   rw [hd] at hu
   have hg' : (q :: r)[(((j + 1 : Nat) : Int)).toNat]? = some c := by rw [← hg]; simp
   refine br_pos (by simp; omega) ⟨by omega, c, hg', ?_⟩
   refine br_split (fun e => ?_) fun n1 => br_split (fun e => ?_) fun n2 => ?_
   · obtain rfl : c = 34 := u8_is e
     rw [unq1_end] at hu
     refine ⟨acc, hM.bytes, ?_, hx⟩
     unfold unqV; rw [hu]
     simp only [Option.map_some, List.append_nil]
     rw [wrap64 (by omega) (by omega)]
     have : ((j + 1 : Nat) : Int) + 1 = ((r.length + 1 - t.length : Nat) : Int) := by omega
     rw [this]
   · obtain rfl : c = 92 := u8_is e
     refine ⟨⟨by omega, by simp; omega, Int.le_refl _⟩, ?_⟩
     have hsl : ((q :: r).drop (((j + 1 : Nat) : Int)).toNat).take (((q :: r).length : Int).toNat - (((j + 1 : Nat) : Int)).toNat) = 92 :: t := by
      have : (((j + 1 : Nat) : Int)).toNat = j + 1 := Int.toNat_natCast _
      rw [this]
      show List.take _ (r.drop j) = _
      rw [hd, List.take_of_length_le]
      simp; omega
     rw [hsl]
     rw [unq1_esc] at hu
     refine Tri.mono (escape_t h1 92 t) ?_
     rintro _ h1 ⟨rfl, rfl⟩
     unfold escV
     cases he : escB t with
     | none =>
       rw [he] at hu
       refine ⟨0, 0, rfl, br_pos rfl ⟨?_, hx⟩⟩
       unfold unqV; rw [hu]; rfl
     | some x =>
       obtain ⟨b, t'⟩ := x
       rw [he] at hu
       simp only at hu
       have hel := escB_len he
       refine ⟨_, _, rfl, br_neg (by simp; omega) ?_⟩
       intro b1 hb1 h2 hh2
       refine Raw.mono (LM.push und40 elem5 rfl rfl rfl rfl rfl hx hM hb1 hh2 rfl rfl (by omega)) ?_
       rintro _ h3 ⟨b3, cap, rfl, hx3, hM3, _⟩
       have hsuf : ∃ p, t = p ++ t' := by
        clear hu
        unfold escB at he
        split at he
        all_goals first | (simp only [Option.some.injEq, Prod.mk.injEq] at he; obtain ⟨_, rfl⟩ := he; exact ⟨[_], rfl⟩) | skip
        · split at he
          · simp only [Option.some.injEq, Prod.mk.injEq] at he; obtain ⟨_, rfl⟩ := he; exact ⟨[_, _, _], rfl⟩
          · cases he
        · cases he
       obtain ⟨p, rfl⟩ := hsuf
       have hpl : (p ++ t').length = p.length + t'.length := List.length_append
       refine ⟨_, _, _, rfl, m - (p.length + 1), by simp at hel htl; omega, ⟨j + 1 + p.length, acc ++ [b], ?_, by omega, hx3, by rw [bL_app]; exact hM3, by simp, by simp at hel ⊢; omega, ?_⟩, trivial⟩
       · rw [hpl, wrap64 (by omega) (by omega)]; omega
       · have hdrop : r.drop (j + 1 + p.length) = t' := by
          rw [← List.drop_drop, ht, List.drop_left]
         rw [hdrop, hu]
         cases unq1 t' with
         | none => rfl
         | some x => simp
   · have c34 : c ≠ 34 := u8_not (d := 34) n1
     have c92 : c ≠ 92 := u8_not (d := 92) n2
     rw [unq1_byte c34 c92] at hu
     have bad : (c.toNat < 32 ∨ 126 < c.toNat) → vT [vS [], vI 0] = unqV r ∧ Ext h h1 := fun hc => by
      rw [if_pos hc] at hu
      unfold unqV; rw [hu]; exact ⟨rfl, hx⟩
     refine br_split (fun e => bad (.inl ?_)) fun n3 => br_split (fun e => bad (.inr ?_)) fun n4 => ?_
     · have := of_decide_eq_true e; omega
     · have := of_decide_eq_true e; omega
     have n3 := of_decide_eq_false n3
     have n4 := of_decide_eq_false n4
     rw [if_neg (by omega)] at hu
     intro b1 hb1 h2 hh2
     refine Raw.mono (LM.push und40 elem5 rfl rfl rfl rfl rfl hx hM hb1 hh2 rfl rfl (by omega)) ?_
     rintro _ h3 ⟨b3, cap, rfl, hx3, hM3, _⟩
     refine ⟨_, _, _, rfl, m - 1, by omega, ⟨j + 1, acc ++ [c], ?_, by omega, hx3, by rw [bL_app]; exact hM3, by simp, by simp; omega, ?_⟩, trivial⟩
     · rw [wrap64 (by omega) (by omega)]; omega
     · rw [ht, hu]
       cases unq1 t with
       | none => rfl
       | some x => simp
end
end Go.Proofs.D
namespace Go.Proofs.D
open Go Go.Den Go.As
set_option maxRecDepth 100000
attribute [local irreducible] IntKind.wrap Tri
section
variable (h : PHeap)
def tkC (t : Tk) : List Value := [vI t.kind, vS t.text]
def tkL (l : List Tk) : List (List Value) := l.map tkC
theorem tkL_app (a b : List Tk) : tkL (a ++ b) = tkL a ++ tkL b := by simp [tkL]
def TokP (s : Bytes) (v : Value) (h' : PHeap) : Prop := Ext h h' ∧ match tokensL s with
 | none => v = vT [vL none 0 0, vI 6]
 | some ts => ts.length ≤ s.length ∧ ∃ a k, v = vT [vL a ts.length k, vI 0] ∧ LM 134 2 h h' a ts.length k (tkL ts)
theorem word_end {s : Bytes} {n : Nat} (h1 : (s.take n).all wordB = true) (h2 : n ≤ s.length) (h3 : ∀ c t, s.drop n = c :: t → wordB c = false) : s.takeWhile wordB = s.take n ∧ s.dropWhile wordB = s.drop n := by
 have := while_stop (r := s.drop n) h3 (s.take n) h1
 rwa [List.take_append_drop] at this
theorem drop_at' {s : Bytes} {j : Nat} (hlt : j < s.length) : ∃ c r, s.drop j = c :: r ∧ s[((j : Nat) : Int).toNat]? = some c ∧ s.drop (j + 1) = r :=
 ⟨s[j], s.drop (j + 1), List.drop_eq_getElem_cons hlt, by simp [hlt], rfl⟩
theorem tokens_t (s : Bytes) (hl : s.length ≤ 1000000) : Tri Tryz.prog 88 [vS s] h fun v h' => TokP h s v h' := by
 refine T88 ?_
 unfold R88
 refine ⟨fun m a n k i h' => ∃ (j : Nat) (acc : List Tk), i = (j : Int) ∧ j + m = s.length ∧ Ext h h' ∧ LM 134 2 h h' a n k (tkL acc) ∧ n = acc.length ∧ acc.length ≤ j ∧ tokensL s = (tokensL (s.drop j)).map fun l => acc ++ l,
  ⟨s.length, 0, [], rfl, by omega, Ext.refl h, LM.nil, rfl, by simp, by cases h : tokensL s <;> simp [h]⟩, ?_⟩
 rintro m a n k _ h1 ⟨j, acc, rfl, hjm, hx, hM, rfl, hac, hu⟩
 have fin : tokensL (s.drop j) = some [] → TokP h s (vT [vL a acc.length k, vI 0]) h1 := fun ht => by
  rw [ht] at hu
  unfold TokP
  rw [hu]
  simp only [Option.map_some, List.append_nil]
  exact ⟨hx, by omega, a, k, rfl, hM⟩
 have bad : ∀ h2, Ext h h2 → tokensL (s.drop j) = none → TokP h s (vT [vL none 0 0, vI 6]) h2 := fun h2 hx2 ht => by
  rw [ht] at hu
  unfold TokP
  rw [hu]
  exact ⟨hx2, rfl⟩
 by_cases hlt : j < s.length
 · obtain ⟨c, t, hd, hg, ht⟩ := drop_at' hlt
   have htl : t.length + j + 1 = s.length := by
    have := congrArg List.length hd
    simp at this; omega
   rw [hd] at hu fin bad
   refine br_pos (by simp; omega) ⟨by omega, c, hg, ?_⟩
   have hw1 : IntKind.i64.wrap ((j : Int) + 1) = ((j + 1 : Nat) : Int) := by rw [wrap64 (by omega) (by omega)]; omega
   refine br_split (fun n0 => ⟨by omega, c, hg, ?_⟩) fun e => ?_
   rotate_left
   · have : c = 59 := by have := u8_kn c 59 e; simpa using this
     subst this
     exact fin (tokL_end t)
   have c59 : c ≠ 59 := by have := u8_kn c 59 n0; simpa using this
   have blank : (c = 32 ∨ c = 9) → ∃ m3, m3 < m ∧ (∃ (j' : Nat) (acc' : List Tk), IntKind.i64.wrap ((j : Int) + 1) = (j' : Int) ∧ j' + m3 = s.length ∧ Ext h h1 ∧ LM 134 2 h h1 a acc.length k (tkL acc') ∧ acc.length = acc'.length ∧ acc'.length ≤ j' ∧ tokensL s = (tokensL (s.drop j')).map fun l => acc' ++ l) ∧ True := fun hc => by
    refine ⟨m - 1, by omega, ⟨j + 1, acc, hw1, by omega, hx, hM, rfl, by omega, ?_⟩, trivial⟩
    rw [ht, hu, tokL_sp hc]
   refine br_split (fun e => blank (.inl (u8_is (d := 32) e))) fun n1 => br_split (fun e => blank (.inr (u8_is (d := 9) e))) fun n2 => ?_
   have c32 : c ≠ 32 := u8_not (d := 32) n1
   have c9 : c ≠ 9 := u8_not (d := 9) n2
   refine br_split (fun e => ?_) fun n3 => br_split (fun e => ?_) fun n4 => br_split (fun e => ?_) fun n5 => ?_
   · obtain rfl : c = 44 := u8_is e
     intro b1 hb1 h2 hh2
     refine Raw.mono (LM.push und124 elem134 rfl rfl rfl rfl rfl hx hM hb1 hh2 rfl rfl (by omega)) ?_
     rintro _ h3 ⟨b3, cap, rfl, hx3, hM3, _⟩
     refine ⟨_, _, _, rfl, m - 1, by omega, ⟨j + 1, acc ++ [⟨3, [44]⟩], hw1, by omega, hx3, by rw [tkL_app]; exact hM3, by simp, by simp; omega, ?_⟩, trivial⟩
     rw [ht, hu, tokL_comma]
     cases tokensL t <;> simp
   · obtain rfl : c = 58 := u8_is e
     intro b1 hb1 h2 hh2
     refine Raw.mono (LM.push und124 elem134 rfl rfl rfl rfl rfl hx hM hb1 hh2 rfl rfl (by omega)) ?_
     rintro _ h3 ⟨b3, cap, rfl, hx3, hM3, _⟩
     refine ⟨_, _, _, rfl, m - 1, by omega, ⟨j + 1, acc ++ [⟨4, [58]⟩], hw1, by omega, hx3, by rw [tkL_app]; exact hM3, by simp, by simp; omega, ?_⟩, trivial⟩
     rw [ht, hu, tokL_colon]
     cases tokensL t <;> simp
   · obtain rfl : c = 34 := u8_is e
     refine ⟨⟨by omega, by omega, Int.le_refl _⟩, ?_⟩
     have hsl : (s.drop ((j : Nat) : Int).toNat).take ((s.length : Int).toNat - ((j : Nat) : Int).toNat) = 34 :: t := by
      rw [Int.toNat_natCast, Int.toNat_natCast, hd, List.take_of_length_le]
      simp; omega
     rw [hsl]
     rw [tokL_quote] at hu bad
     refine Tri.mono (unquote_t h1 34 t (by omega)) ?_
     rintro _ h2 ⟨rfl, hx2⟩
     unfold unqV
     cases hq : unq1 t with
     | none =>
       rw [hq] at bad
       exact ⟨[], 0, rfl, br_pos rfl (bad h2 (hx.trans hx2) rfl)⟩
     | some x =>
       obtain ⟨x, r'⟩ := x
       rw [hq] at hu
       simp only at hu
       have hql := unq1_len hq
       refine ⟨x, _, rfl, br_neg (by simp; omega) ?_⟩
       intro b1 hb1 h3 hh3
       refine Raw.mono (LM.push und124 elem134 rfl rfl rfl rfl rfl (hx.trans hx2) (hM.ext hx2) hb1 hh3 rfl rfl (by omega)) ?_
       rintro _ h4 ⟨b3, cap, rfl, hx4, hM4, _⟩
       have hsuf : s.drop (j + (t.length + 1 - r'.length)) = r' := by
        have key : ∀ (f : Nat) (r x r' : Bytes), unq f r = some (x, r') → r.drop (r.length - r'.length) = r' := by
         intro f
         induction f with
         | zero => intro r x r' h; simp [unq] at h
         | succ f ih =>
           intro r x r' h
           have hlen := unq_len h
           match r, h, hlen with
           | [], h, _ => simp [unq] at h
           | c :: r, h, hlen =>
             simp only [List.length_cons] at hlen ⊢
             have step : ∀ (p r1 : Bytes), r = p ++ r1 → r1.length - r'.length + r'.length = r1.length → r1.drop (r1.length - r'.length) = r' → (c :: r).drop (r.length + 1 - r'.length) = r' := by
              intro p r1 h1 h2 h3
              have : r.length + 1 - r'.length = (p.length + (r1.length - r'.length)) + 1 := by rw [h1, List.length_append]; omega
              rw [this, List.drop_succ_cons, h1, ← List.drop_drop, List.drop_left, h3]
             rw [unq] at h
             split at h
             · simp only [Option.some.injEq, Prod.mk.injEq] at h; obtain ⟨_, rfl⟩ := h
               rw [show r.length + 1 - r.length = 1 by omega]; rfl
             split at h
             · cases he : escB r with
               | none => rw [he] at h; cases h
               | some y =>
                 obtain ⟨b, r1⟩ := y
                 rw [he] at h
                 simp only [Option.map_eq_some_iff] at h
                 obtain ⟨⟨y, r2⟩, h1, h2⟩ := h
                 simp only [Prod.mk.injEq] at h2
                 obtain ⟨_, rfl⟩ := h2
                 obtain ⟨p, hp⟩ : ∃ p, r = p ++ r1 := by
                  clear h1 step hlen ih
                  unfold escB at he
                  split at he
                  all_goals first | (simp only [Option.some.injEq, Prod.mk.injEq] at he; obtain ⟨_, rfl⟩ := he; exact ⟨[_], rfl⟩) | skip
                  · split at he
                    · simp only [Option.some.injEq, Prod.mk.injEq] at he; obtain ⟨_, rfl⟩ := he; exact ⟨[_, _, _], rfl⟩
                    · cases he
                  · cases he
                 have := unq_len h1
                 exact step p r1 hp (by omega) (ih _ _ _ h1)
             split at h
             · cases h
             · simp only [Option.map_eq_some_iff] at h
               obtain ⟨⟨y, r2⟩, h1, h2⟩ := h
               simp only [Prod.mk.injEq] at h2
               obtain ⟨_, rfl⟩ := h2
               have := unq_len h1
               exact step [] r rfl (by omega) (ih _ _ _ h1)
        have h5 := key _ _ _ _ hq
        have : j + (t.length + 1 - r'.length) = j + 1 + (t.length - r'.length) := by omega
        rw [this, ← List.drop_drop, ht, h5]
       refine ⟨_, _, _, rfl, m - (t.length + 1 - r'.length), by omega, ⟨j + (t.length + 1 - r'.length), acc ++ [⟨2, x⟩], ?_, by omega, hx4, by rw [tkL_app]; exact hM4, by simp, by simp; omega, ?_⟩, trivial⟩
       · rw [wrap64 (by omega) (by omega)]; omega
       · rw [hsuf, hu]
         cases tokensL r' <;> simp
   · have c44 : c ≠ 44 := u8_not (d := 44) n3
     have c58 : c ≠ 58 := u8_not (d := 58) n4
     have c34 : c ≠ 34 := u8_not (d := 34) n5
     refine Tri.mono (word_t h1 c) ?_
     rintro _ h1 ⟨rfl, rfl⟩
     refine ⟨_, rfl, br_split (fun e => ?_) fun e => bad h1 hx (tokL_bad c59 (by rintro (h | h); exact c32 h; exact c9 h) c44 c58 c34 e t)⟩
     have wend : ∀ (i : Nat) (h2 : PHeap) (b1 : Nat) (h3 : PHeap) (o : Call), Ext h h2 → LM 134 2 h h2 a acc.length k (tkL acc) → h2 b1 = none → h3 = h2.put b1 (.cells ⟨[vI 1, vS ((s.drop ((j : Nat) : Int).toNat).take (((i : Nat) : Int).toNat - ((j : Nat) : Int).toNat))]⟩ 134) →
      j < i → i ≤ s.length → ((c :: t).take (i - j)).all wordB = true → (∀ d r, s.drop i = d :: r → wordB d = false) → ∀ {ρ : Operand → Value} {x y : Operand}, o.callee = .builtin .append → o.args = #[x, y] → o.argTypes = #[124, 124] → ρ x = vL a acc.length k → ρ y = vL (ad b1 0) 1 1 →
      Raw Tryz.prog (execOp ρ (mkO (.call o) 124)) h3 fun v_8 h_15 => ∃ (a6 : OA) (n6 k6 : Nat), v_8 = vL a6 n6 k6 ∧ ∃ (m12 : Nat), m12 < m ∧ (∃ (j' : Nat) (acc' : List Tk), ((i : Nat) : Int) = (j' : Int) ∧ j' + m12 = s.length ∧ Ext h h_15 ∧ LM 134 2 h h_15 a6 n6 k6 (tkL acc') ∧ n6 = acc'.length ∧ acc'.length ≤ j' ∧ tokensL s = (tokensL (s.drop j')).map fun l => acc' ++ l) ∧ True := by
      intro i h2 b1 h3 o hx2 hM2 hb1 hh3 hji hil hall hstop ρ x y hc1 hc2 hc3 hr1 hr2
      have hdr : (c :: t).drop (i - j) = s.drop i := by rw [← hd, List.drop_drop, show j + (i - j) = i by omega]
      have hlt2 : (c :: t).length = s.length - j := by rw [← hd, List.length_drop]
      obtain ⟨w1, w2⟩ := word_end (s := c :: t) (n := i - j) hall (by omega) (by rw [hdr]; exact hstop)
      rw [Int.toNat_natCast, Int.toNat_natCast, hd] at hh3
      refine Raw.mono (LM.push und124 elem134 hc1 hc2 hc3 hr1 hr2 hx2 hM2 hb1 hh3 rfl rfl (by omega)) ?_
      rintro _ h4 ⟨b3, cap, rfl, hx4, hM4, _⟩
      refine ⟨_, _, _, rfl, m - (i - j), by omega, ⟨i, acc ++ [⟨1, (c :: t).take (i - j)⟩], rfl, by omega, hx4, by rw [tkL_app]; exact hM4, by simp, by simp; omega, ?_⟩, trivial⟩
      rw [hu, tokL_word2 e, w1, w2, hdr]
      cases tokensL (s.drop i) <;> simp
     refine ⟨fun m2 i h' => ∃ i' : Nat, i = (i' : Int) ∧ i' + m2 = s.length ∧ j ≤ i' ∧ h' = h1 ∧ ((c :: t).take (i' - j)).all wordB = true, ⟨s.length - j, j, rfl, by omega, Nat.le_refl _, rfl, by simp⟩, ?_⟩
     rintro m2 _ h2 ⟨i, rfl, him, hji, rfl, hall⟩
     have hji' : i = j ∨ j < i := by omega
     refine br_split (fun e2 => ?_) fun e2 => ?_
     · have hil : i < s.length := by have := of_decide_eq_true e2; omega
       obtain ⟨d, r, hd2, hg2, hr2⟩ := drop_at' hil
       have hdr : (c :: t).drop (i - j) = d :: r := by rw [← hd, List.drop_drop, show j + (i - j) = i by omega, hd2]
       refine ⟨by omega, d, hg2, ?_⟩
       refine Tri.mono (word_t h2 d) ?_
       rintro _ h2 ⟨rfl, rfl⟩
       refine ⟨_, rfl, br_split (fun e3 => ?_) fun e3 => ?_⟩
       · refine ⟨m2 - 1, by omega, ⟨i + 1, ?_, by omega, by omega, rfl, ?_⟩, trivial⟩
         · rw [wrap64 (by omega) (by omega)]; omega
         · have hlt3 : i - j < (c :: t).length := by
            have := congrArg List.length hdr
            simp at this ⊢; omega
           have : (c :: t)[i - j] = d := by
            have := List.drop_eq_getElem_cons hlt3
            rw [hdr] at this; injection this with this _; exact this.symm
           rw [show i + 1 - j = i - j + 1 by omega, ← List.take_append_getElem hlt3, List.all_append, hall, this]
           simp [e3]
       · have hji2 : j < i := by
          rcases hji' with rfl | hji'
          · rw [hd] at hd2; injection hd2 with hd2 _; subst hd2; rw [e] at e3; cases e3
          · exact hji'
         refine ⟨⟨by omega, by omega, by omega⟩, ?_⟩
         intro b1 hb1 h3 hh3
         exact wend i h2 b1 h3 _ hx hM hb1 hh3 hji2 (by omega) hall (fun d' r' e' => by rw [hd2] at e'; injection e' with e' _; subst e'; exact e3) rfl rfl rfl rfl rfl
     · have hil : i = s.length := by have := of_decide_eq_false e2; omega
       refine ⟨⟨by omega, by omega, by omega⟩, ?_⟩
       intro b1 hb1 h3 hh3
       exact wend i h2 b1 h3 _ hx hM hb1 hh3 (by omega) (by omega) hall (fun d' r' e' => by rw [hil, List.drop_length] at e'; cases e') rfl rfl rfl rfl rfl
 · have hj : j = s.length := by omega
   refine br_neg (by simp; omega) (fin ?_)
   rw [hj, List.drop_length]; rfl
end
end Go.Proofs.D
namespace Go.Proofs.D
open Go Go.Den
set_option maxRecDepth 100000
set_option maxHeartbeats 4000000
abbrev o89_3 : Op := .call { callee := (.builtin .append), args := #[(.tmp 25), (.tmp 30)], argTypes := #[52, 52] }
abbrev o89_11 : Op := .call { callee := (.builtin .append), args := #[(.tmp 67), (.tmp 69)], argTypes := #[124, 124] }
noncomputable def d89 : DCode := up ⟨[(15, .l [qi]), (22, .l [qi]), (29, .l [.str]), (31, .c (.one false [.slice])), (41, .l [qi]), (46, .l [.str]), (55, .l [qi, .str]), (60, .l [qi]), (64, .l [qi]), (68, .l [qi, .str]), (70, .c (.one false [.slice])), (72, .l [qi])], [], [(8, 28, [(2, .slice), (0, .slice)], []), (52, 30, [(2, .slice), (3, .str), (4, .slice), (51, qi)], [])]⟩ (low Tryz.prog (fun _ => false) (Tryz.f89.body.getD .skip))
theorem low89 : low Tryz.prog (fun _ => false) (Tryz.f89.body.getD .skip) = some (eC d89) := by kernel_rfl
def R89 (a1 : OA) (n1 : Nat) (k1 : Nat) (h : PHeap) (Q : Value → PHeap → Prop) : Prop :=
 ∃ (I_1 : Nat → OA → Nat → Nat → OA → Nat → Nat → PHeap → Prop), (∃ (m2 : Nat), I_1 m2 none 0 0 a1 n1 k1 h) ∧
 ∀ (m1 : Nat) (a2 : OA) (n2 : Nat) (k2 : Nat) (a3 : OA) (n3 : Nat) (k3 : Nat) (h_1 : PHeap), I_1 m1 a2 n2 k2 a3 n3 k3 h_1 →
 br (decide (((n3 : Nat) : Int) ≥ 2))
 (∃ (b1 o1 : Nat), a3 = some ⟨b1, o1, none⟩ ∧ (0 ≤ (0 : Int) ∧ (0 : Int) < n3) ∧
 ∃ (i1 : Int), h_1.cell b1 o1 = some (vI i1) ∧
 br (i1 == 1)
 (∃ (b2 o2 : Nat), a3 = some ⟨b2, o2, none⟩ ∧ (0 ≤ (1 : Int) ∧ (1 : Int) < n3) ∧
 ∃ (i2 : Int), h_1.cell b2 (o2 + 2) = some (vI i2) ∧
 br (i2 == 4)
 (∃ (b3 o3 : Nat), a3 = some ⟨b3, o3, none⟩ ∧ (0 ≤ (0 : Int) ∧ (0 : Int) < n3) ∧
 ∃ (l1 : Bs), h_1.cell b3 (o3 + 1) = some (vS l1) ∧
 ∀ (b4 : Nat), h_1 b4 = none → ∀ (h_2 : PHeap), h_2 = h_1.put b4 (.cells ⟨[vS l1]⟩ 9) →
 Raw Tryz.prog (execOp (rho [(25, vL a2 n2 k2), (30, vL (ad b4 0) 1 1)]) (mkO o89_3 52)) h_2 fun v_1 h_3 =>
 ∃ (a4 : OA) (n4 k4 : Nat), v_1 = vL a4 n4 k4 ∧
 (okA a3 n3 k3 ∧ 0 ≤ (2 : Int) ∧ (2 : Int) ≤ ((n3 : Nat) : Int) ∧ ((n3 : Nat) : Int) ≤ k3) ∧ ∀ (a5 : OA), SlA a3 a5 2 k3 2 →
 ∃ (m3 : Nat), m3 < m1 ∧ I_1 m3 a4 n4 k4 a5 (((n3 : Nat) : Int).toNat - 2) (k3 - 2) h_3 ∧
 True)
 (br (((n3 : Nat) : Int) == 0)
 (Q (vT [vL a2 n2 k2, vS [], vL none 0 0, vI 0]) h_1)
 (∃ (b5 o4 : Nat), a3 = some ⟨b5, o4, none⟩ ∧ (0 ≤ (0 : Int) ∧ (0 : Int) < n3) ∧
 ∃ (i3 : Int), h_1.cell b5 o4 = some (vI i3) ∧
 br (i3 != 1)
 (Q (vT [vL none 0 0, vS [], vL none 0 0, vI 30]) h_1)
 (∃ (b6 o5 : Nat), a3 = some ⟨b6, o5, none⟩ ∧ (0 ≤ (0 : Int) ∧ (0 : Int) < n3) ∧
 ∃ (l2 : Bs), h_1.cell b6 (o5 + 1) = some (vS l2) ∧
 (okA a3 n3 k3 ∧ 0 ≤ (1 : Int) ∧ (1 : Int) ≤ ((n3 : Nat) : Int) ∧ ((n3 : Nat) : Int) ≤ k3) ∧ ∀ (a6 : OA), SlA a3 a6 1 k3 2 →
 ∃ (I_2 : Nat → OA → Nat → Nat → Bs → OA → Nat → Nat → Int → PHeap → Prop), (∃ (m5 : Nat), I_2 m5 a2 n2 k2 l2 none 0 0 (0 : Int) h_1) ∧
 ∀ (m4 : Nat) (a7 : OA) (n5 : Nat) (k5 : Nat) (l3 : Bs) (a8 : OA) (n6 : Nat) (k6 : Nat) (i4 : Int) (h_4 : PHeap), I_2 m4 a7 n5 k5 l3 a8 n6 k6 i4 h_4 →
 br (decide (i4 < (((((n3 : Nat) : Int).toNat - 1) : Nat) : Int)))
 (∃ (b7 o6 : Nat), a6 = some ⟨b7, o6, none⟩ ∧ (0 ≤ i4 ∧ i4 < (((((n3 : Nat) : Int).toNat - 1) : Nat) : Int)) ∧
 ∃ (i5 : Int) (l4 : Bs), h_4.row b7 (o6 + (i4).toNat * 2) [vI i5, vS l4] ∧
 br ((Int.tmod i4 2) == 0)
 (br (i5 != 1)
 (br (i5 != 2)
 (Q (vT [vL none 0 0, vS [], vL none 0 0, vI 30]) h_4)
 (∀ (b8 : Nat), h_4 b8 = none → ∀ (h_5 : PHeap), h_5 = h_4.put b8 (.cells ⟨[vI i5, vS l4]⟩ 134) →
 Raw Tryz.prog (execOp (rho [(67, vL a8 n6 k6), (69, vL (ad b8 0) 1 1)]) (mkO o89_11 124)) h_5 fun v_2 h_6 =>
 ∃ (a9 : OA) (n7 k7 : Nat), v_2 = vL a9 n7 k7 ∧
 ∃ (m6 : Nat), m6 < m4 ∧ I_2 m6 a7 n5 k5 l3 a9 n7 k7 (IntKind.i64.wrap (i4 + 1)) h_6 ∧
 True))
 (∀ (b9 : Nat), h_4 b9 = none → ∀ (h_7 : PHeap), h_7 = h_4.put b9 (.cells ⟨[vI i5, vS l4]⟩ 134) →
 Raw Tryz.prog (execOp (rho [(67, vL a8 n6 k6), (69, vL (ad b9 0) 1 1)]) (mkO o89_11 124)) h_7 fun v_3 h_8 =>
 ∃ (a10 : OA) (n8 k8 : Nat), v_3 = vL a10 n8 k8 ∧
 ∃ (m7 : Nat), m7 < m4 ∧ I_2 m7 a7 n5 k5 l3 a10 n8 k8 (IntKind.i64.wrap (i4 + 1)) h_8 ∧
 True))
 (br (i5 != 3)
 (Q (vT [vL none 0 0, vS [], vL none 0 0, vI 30]) h_4)
 (∃ (m8 : Nat), m8 < m4 ∧ I_2 m8 a7 n5 k5 l3 a8 n6 k6 (IntKind.i64.wrap (i4 + 1)) h_4 ∧
 True)))
 (br (decide ((((((n3 : Nat) : Int).toNat - 1) : Nat) : Int) > 0))
 (br ((Int.tmod (((((n3 : Nat) : Int).toNat - 1) : Nat) : Int) 2) == 0)
 (Q (vT [vL none 0 0, vS [], vL none 0 0, vI 30]) h_4)
 (Q (vT [vL a7 n5 k5, vS l3, vL a8 n6 k6, vI 0]) h_4))
 (Q (vT [vL a7 n5 k5, vS l3, vL a8 n6 k6, vI 0]) h_4))))))
 (br (((n3 : Nat) : Int) == 0)
 (Q (vT [vL a2 n2 k2, vS [], vL none 0 0, vI 0]) h_1)
 (∃ (b10 o7 : Nat), a3 = some ⟨b10, o7, none⟩ ∧ (0 ≤ (0 : Int) ∧ (0 : Int) < n3) ∧
 ∃ (i6 : Int), h_1.cell b10 o7 = some (vI i6) ∧
 br (i6 != 1)
 (Q (vT [vL none 0 0, vS [], vL none 0 0, vI 30]) h_1)
 (∃ (b11 o8 : Nat), a3 = some ⟨b11, o8, none⟩ ∧ (0 ≤ (0 : Int) ∧ (0 : Int) < n3) ∧
 ∃ (l5 : Bs), h_1.cell b11 (o8 + 1) = some (vS l5) ∧
 (okA a3 n3 k3 ∧ 0 ≤ (1 : Int) ∧ (1 : Int) ≤ ((n3 : Nat) : Int) ∧ ((n3 : Nat) : Int) ≤ k3) ∧ ∀ (a11 : OA), SlA a3 a11 1 k3 2 →
 ∃ (I_3 : Nat → OA → Nat → Nat → Bs → OA → Nat → Nat → Int → PHeap → Prop), (∃ (m10 : Nat), I_3 m10 a2 n2 k2 l5 none 0 0 (0 : Int) h_1) ∧
 ∀ (m9 : Nat) (a12 : OA) (n9 : Nat) (k9 : Nat) (l6 : Bs) (a13 : OA) (n10 : Nat) (k10 : Nat) (i7 : Int) (h_9 : PHeap), I_3 m9 a12 n9 k9 l6 a13 n10 k10 i7 h_9 →
 br (decide (i7 < (((((n3 : Nat) : Int).toNat - 1) : Nat) : Int)))
 (∃ (b12 o9 : Nat), a11 = some ⟨b12, o9, none⟩ ∧ (0 ≤ i7 ∧ i7 < (((((n3 : Nat) : Int).toNat - 1) : Nat) : Int)) ∧
 ∃ (i8 : Int) (l7 : Bs), h_9.row b12 (o9 + (i7).toNat * 2) [vI i8, vS l7] ∧
 br ((Int.tmod i7 2) == 0)
 (br (i8 != 1)
 (br (i8 != 2)
 (Q (vT [vL none 0 0, vS [], vL none 0 0, vI 30]) h_9)
 (∀ (b13 : Nat), h_9 b13 = none → ∀ (h_10 : PHeap), h_10 = h_9.put b13 (.cells ⟨[vI i8, vS l7]⟩ 134) →
 Raw Tryz.prog (execOp (rho [(67, vL a13 n10 k10), (69, vL (ad b13 0) 1 1)]) (mkO o89_11 124)) h_10 fun v_4 h_11 =>
 ∃ (a14 : OA) (n11 k11 : Nat), v_4 = vL a14 n11 k11 ∧
 ∃ (m11 : Nat), m11 < m9 ∧ I_3 m11 a12 n9 k9 l6 a14 n11 k11 (IntKind.i64.wrap (i7 + 1)) h_11 ∧
 True))
 (∀ (b14 : Nat), h_9 b14 = none → ∀ (h_12 : PHeap), h_12 = h_9.put b14 (.cells ⟨[vI i8, vS l7]⟩ 134) →
 Raw Tryz.prog (execOp (rho [(67, vL a13 n10 k10), (69, vL (ad b14 0) 1 1)]) (mkO o89_11 124)) h_12 fun v_5 h_13 =>
 ∃ (a15 : OA) (n12 k12 : Nat), v_5 = vL a15 n12 k12 ∧
 ∃ (m12 : Nat), m12 < m9 ∧ I_3 m12 a12 n9 k9 l6 a15 n12 k12 (IntKind.i64.wrap (i7 + 1)) h_13 ∧
 True))
 (br (i8 != 3)
 (Q (vT [vL none 0 0, vS [], vL none 0 0, vI 30]) h_9)
 (∃ (m13 : Nat), m13 < m9 ∧ I_3 m13 a12 n9 k9 l6 a13 n10 k10 (IntKind.i64.wrap (i7 + 1)) h_9 ∧
 True)))
 (br (decide ((((((n3 : Nat) : Int).toNat - 1) : Nat) : Int) > 0))
 (br ((Int.tmod (((((n3 : Nat) : Int).toNat - 1) : Nat) : Int) 2) == 0)
 (Q (vT [vL none 0 0, vS [], vL none 0 0, vI 30]) h_9)
 (Q (vT [vL a12 n9 k9, vS l6, vL a13 n10 k10, vI 0]) h_9))
 (Q (vT [vL a12 n9 k9, vS l6, vL a13 n10 k10, vI 0]) h_9))))))
 (br (((n3 : Nat) : Int) == 0)
 (Q (vT [vL a2 n2 k2, vS [], vL none 0 0, vI 0]) h_1)
 (∃ (b15 o10 : Nat), a3 = some ⟨b15, o10, none⟩ ∧ (0 ≤ (0 : Int) ∧ (0 : Int) < n3) ∧
 ∃ (i9 : Int), h_1.cell b15 o10 = some (vI i9) ∧
 br (i9 != 1)
 (Q (vT [vL none 0 0, vS [], vL none 0 0, vI 30]) h_1)
 (∃ (b16 o11 : Nat), a3 = some ⟨b16, o11, none⟩ ∧ (0 ≤ (0 : Int) ∧ (0 : Int) < n3) ∧
 ∃ (l8 : Bs), h_1.cell b16 (o11 + 1) = some (vS l8) ∧
 (okA a3 n3 k3 ∧ 0 ≤ (1 : Int) ∧ (1 : Int) ≤ ((n3 : Nat) : Int) ∧ ((n3 : Nat) : Int) ≤ k3) ∧ ∀ (a16 : OA), SlA a3 a16 1 k3 2 →
 ∃ (I_4 : Nat → OA → Nat → Nat → Bs → OA → Nat → Nat → Int → PHeap → Prop), (∃ (m15 : Nat), I_4 m15 a2 n2 k2 l8 none 0 0 (0 : Int) h_1) ∧
 ∀ (m14 : Nat) (a17 : OA) (n13 : Nat) (k13 : Nat) (l9 : Bs) (a18 : OA) (n14 : Nat) (k14 : Nat) (i10 : Int) (h_14 : PHeap), I_4 m14 a17 n13 k13 l9 a18 n14 k14 i10 h_14 →
 br (decide (i10 < (((((n3 : Nat) : Int).toNat - 1) : Nat) : Int)))
 (∃ (b17 o12 : Nat), a16 = some ⟨b17, o12, none⟩ ∧ (0 ≤ i10 ∧ i10 < (((((n3 : Nat) : Int).toNat - 1) : Nat) : Int)) ∧
 ∃ (i11 : Int) (l10 : Bs), h_14.row b17 (o12 + (i10).toNat * 2) [vI i11, vS l10] ∧
 br ((Int.tmod i10 2) == 0)
 (br (i11 != 1)
 (br (i11 != 2)
 (Q (vT [vL none 0 0, vS [], vL none 0 0, vI 30]) h_14)
 (∀ (b18 : Nat), h_14 b18 = none → ∀ (h_15 : PHeap), h_15 = h_14.put b18 (.cells ⟨[vI i11, vS l10]⟩ 134) →
 Raw Tryz.prog (execOp (rho [(67, vL a18 n14 k14), (69, vL (ad b18 0) 1 1)]) (mkO o89_11 124)) h_15 fun v_6 h_16 =>
 ∃ (a19 : OA) (n15 k15 : Nat), v_6 = vL a19 n15 k15 ∧
 ∃ (m16 : Nat), m16 < m14 ∧ I_4 m16 a17 n13 k13 l9 a19 n15 k15 (IntKind.i64.wrap (i10 + 1)) h_16 ∧
 True))
 (∀ (b19 : Nat), h_14 b19 = none → ∀ (h_17 : PHeap), h_17 = h_14.put b19 (.cells ⟨[vI i11, vS l10]⟩ 134) →
 Raw Tryz.prog (execOp (rho [(67, vL a18 n14 k14), (69, vL (ad b19 0) 1 1)]) (mkO o89_11 124)) h_17 fun v_7 h_18 =>
 ∃ (a20 : OA) (n16 k16 : Nat), v_7 = vL a20 n16 k16 ∧
 ∃ (m17 : Nat), m17 < m14 ∧ I_4 m17 a17 n13 k13 l9 a20 n16 k16 (IntKind.i64.wrap (i10 + 1)) h_18 ∧
 True))
 (br (i11 != 3)
 (Q (vT [vL none 0 0, vS [], vL none 0 0, vI 30]) h_14)
 (∃ (m18 : Nat), m18 < m14 ∧ I_4 m18 a17 n13 k13 l9 a18 n14 k14 (IntKind.i64.wrap (i10 + 1)) h_14 ∧
 True)))
 (br (decide ((((((n3 : Nat) : Int).toNat - 1) : Nat) : Int) > 0))
 (br ((Int.tmod (((((n3 : Nat) : Int).toNat - 1) : Nat) : Int) 2) == 0)
 (Q (vT [vL none 0 0, vS [], vL none 0 0, vI 30]) h_14)
 (Q (vT [vL a17 n13 k13, vS l9, vL a18 n14 k14, vI 0]) h_14))
 (Q (vT [vL a17 n13 k13, vS l9, vL a18 n14 k14, vI 0]) h_14)))))
theorem T89 {a1 : OA} {n1 : Nat} {k1 : Nat} {h : PHeap} {Q : Value → PHeap → Prop} (hR : R89 a1 n1 k1 h Q) : Tri Tryz.prog 89 [vL a1 n1 k1] h Q :=
 tri_of_dn mixed Tryz.func89 rfl (by kernel_rfl) low89 (rs := [.tmp 2, .tmp 3, .tmp 4, .tmp 5]) (by kernel_rfl) rfl (Eq.mpr (by kernel_rfl : dnF Tryz.prog Tryz.f89.ntmps d89 [.tmp 2, .tmp 3, .tmp 4, .tmp 5] [vL a1 n1 k1] h Q = R89 a1 n1 k1 h Q) hR)
end Go.Proofs.D
namespace Go.As
def opsG : Nat → List Tk → Option (List Tk)
 | _, [] => some []
 | i, t :: l => if i % 2 = 0 then (if t.kind = 1 ∨ t.kind = 2 then (opsG (i + 1) l).map (t :: ·) else none) else (if t.kind = 3 then opsG (i + 1) l else none)
theorem opsG_two : ∀ (l : List Tk) (i : Nat), opsG (i + 2) l = opsG i l
 | [], _ => rfl
 | t :: l, i => by
   rw [opsG, opsG, show i + 2 + 1 = i + 1 + 2 by omega, opsG_two l (i + 1), show (i + 2) % 2 = i % 2 by omega]
theorem operands_ops : ∀ (l : List Tk), operandsS l = if 0 < l.length ∧ l.length % 2 = 0 then none else opsG 0 l
 | [] => rfl
 | [t] => by
   rw [if_neg (by simp)]
   simp only [operandsS, opsG]
   split <;> simp
 | [t, u] => by rw [if_pos (by simp)]; rfl
 | t :: u :: v :: l => by
   have ih := operands_ops (v :: l)
   have e2 : opsG 1 (u :: v :: l) = if u.kind = 3 then opsG 0 (v :: l) else none := by
    rw [opsG, if_neg (by decide : ¬ 1 % 2 = 0), ← opsG_two (v :: l) 0]
   have e : opsG 0 (t :: u :: v :: l) = if t.kind = 1 ∨ t.kind = 2 then (opsG 1 (u :: v :: l)).map (t :: ·) else none := by
    rw [opsG, if_pos (by decide : 0 % 2 = 0)]
   have L : operandsS (t :: u :: v :: l) = if (t.kind = 1 ∨ t.kind = 2) ∧ u.kind = 3 then (operandsS (v :: l)).map fun x => t :: x else none := rfl
   have hc : (0 < (t :: u :: v :: l).length ∧ (t :: u :: v :: l).length % 2 = 0) ↔ (0 < (v :: l).length ∧ (v :: l).length % 2 = 0) := by simp only [List.length_cons]; omega
   rw [L, ih, e, e2]
   generalize opsG 0 (v :: l) = r
   by_cases hp : 0 < (v :: l).length ∧ (v :: l).length % 2 = 0
   · rw [if_pos hp, if_pos (hc.2 hp)]; simp
   · rw [if_neg hp, if_neg (fun h => hp (hc.1 h))]
     by_cases h1 : t.kind = 1 ∨ t.kind = 2 <;> by_cases h2 : u.kind = 3 <;> simp only [h1, h2, and_self, and_false, false_and, if_true, if_false, Option.map_none]
theorem splitL_label {t u : Tk} {l : List Tk} (h1 : t.kind = 1) (h2 : u.kind = 4) : splitL (t :: u :: l) = (splitL l).map fun x => (t.text :: x.1, x.2) := by
 rw [splitL, if_neg (by simp [h1]), if_pos h2]
theorem splitL_bad {t : Tk} {l : List Tk} (h : t.kind ≠ 1) : splitL (t :: l) = none := by
 cases l <;> rw [splitL, if_pos h]
theorem splitL_stmt {t : Tk} {l : List Tk} (h : t.kind = 1) (h2 : ∀ u r, l = u :: r → u.kind ≠ 4) : splitL (t :: l) = (operandsS l).map fun x => ([], some (t.text, x)) := by
 cases l with
 | nil => rw [splitL, if_neg (by simp [h])]; rfl
 | cons u r => rw [splitL, if_neg (by simp [h]), if_neg (h2 u r rfl)]
end Go.As
namespace Go.Proofs.D
open Go Go.Den Go.As
set_option maxRecDepth 100000
attribute [local irreducible] IntKind.wrap Tri
theorem und52 : Tryz.prog.underlying 52 = some (.slice 9) := rfl
theorem elem9 : ElemT 9 1 := ⟨_, _, rfl, rfl, rfl, rfl, by decide⟩
def TkAt (h : PHeap) (a : OA) (ts : List Tk) : Prop := ts = [] ∨ ∃ b o, a = ad b o ∧ ∀ j t, ts[j]? = some t → h.row b (o + j * 2) (tkC t)
def sL (l : List Bytes) : List (List Value) := l.map fun x => [vS x]
theorem sL_app (a b : List Bytes) : sL (a ++ b) = sL a ++ sL b := by simp [sL]
section
variable {h h' : PHeap} {a : OA} {ts : List Tk}
theorem TkAt.ext (x : Ext h h') (ht : TkAt h a ts) : TkAt h' a ts := by
 rcases ht with ht | ⟨b, o, ha, ht⟩
 · exact .inl ht
 · exact .inr ⟨b, o, ha, fun j t hj => row_ext (fun ob => x b ob) (ht j t hj)⟩
theorem LM.tk {h0 : PHeap} {n k : Nat} (hM : LM 134 2 h0 h a n k (tkL ts)) : TkAt h a ts := by
 have hl := hM.len
 simp only [tkL, List.length_map] at hl
 rcases hM.row.2 with ⟨h1, h2⟩ | ⟨b, cap, rest, h1, h2, _, _⟩
 · exact .inl (List.eq_nil_of_length_eq_zero (by omega))
 · injection h1 with h1 _ _
   refine .inr ⟨b, 0, h1, fun j t hj => ?_⟩
   have hcs : (tkL ts)[j]? = some (tkC t) := by simp [tkL, hj]
   refine row_lit h2 fun i v hv => ?_
   have := flatten_row (k := 2) (css := tkL ts) (j := j) (cs := tkC t) (fun i c hc => hM.each i c hc) hcs i v hv
   rw [Nat.zero_add, List.getElem?_append_left (List.getElem?_eq_some_iff.1 this).1]
   exact this
theorem TkAt.get (ht : TkAt h a ts) {j : Nat} {t : Tk} (hj : ts[j]? = some t) : ∃ b o, a = some ⟨b, o, none⟩ ∧ h.row b (o + j * 2) (tkC t) := by
 rcases ht with rfl | ⟨b, o, ha, ht⟩
 · simp at hj
 · exact ⟨b, o, ha, ht j t hj⟩
theorem TkAt.drop (ht : TkAt h a ts) {k i : Nat} (hk : ts.length ≤ k) {a' : OA} (hs : SlA a a' i k 2) : TkAt h a' (ts.drop i) := by
 by_cases hi : i < ts.length
 · rcases ht with rfl | ⟨b, o, rfl, ht⟩
   · simp at hi
   · obtain ⟨o', h1, h2⟩ := hs.1 b o rfl
     refine .inr ⟨b, o', h1, fun j t hj => ?_⟩
     rw [List.getElem?_drop] at hj
     rw [h2 (.inl (by omega)), Nat.add_assoc, ← Nat.add_mul]
     exact ht _ _ hj
 · exact .inl (by simp; omega)
theorem row_hd {b o : Nat} {x y : Value} (hr : h.row b o [x, y]) : h.cell b o = some x ∧ h.cell b (o + 1) = some y := hr
end
theorem LM.base {e k : Nat} {h0 h1 h : PHeap} {a : OA} {n c : Nat} {css : List (List Value)} (x : Ext h0 h1) (hM : LM e k h1 h a n c css) : LM e k h0 h a n c css :=
 ⟨fun b hb => ⟨x.dom b (hM.own b hb).1, (hM.own b hb).2⟩, hM.len, hM.each, hM.row, hM.emp⟩
theorem kind_t {k : Nat} {n : Nat} {b : Bool} (e : ((k : Int) != (n : Int)) = b) : (k = n ↔ b = false) := by
 subst e; simp; omega
section
variable (h : PHeap)
def ParP (ts : List Tk) (v : Value) (h' : PHeap) : Prop := Ext h h' ∧ match splitL ts with
 | none => v = vT [vL none 0 0, vS [], vL none 0 0, vI 30]
 | some (ls, none) => ∃ a k, v = vT [vL a ls.length k, vS [], vL none 0 0, vI 0] ∧ LM 9 1 h h' a ls.length k (sL ls)
 | some (ls, some (n, os)) => ∃ a k a2 k2, v = vT [vL a ls.length k, vS n, vL a2 os.length k2, vI 0] ∧ LM 9 1 h h' a ls.length k (sL ls) ∧ LM 134 2 h h' a2 os.length k2 (tkL os)
def tail89 (a2 : OA) (n2 k2 : Nat) (a3 : OA) (n3 k3 : Nat) (h_1 : PHeap) (Q : Value → PHeap → Prop) : Prop :=
 br (((n3 : Nat) : Int) == 0)
 (Q (vT [vL a2 n2 k2, vS [], vL none 0 0, vI 0]) h_1)
 (∃ (b5 o4 : Nat), a3 = some ⟨b5, o4, none⟩ ∧ (0 ≤ (0 : Int) ∧ (0 : Int) < n3) ∧
 ∃ (i3 : Int), h_1.cell b5 o4 = some (vI i3) ∧
 br (i3 != 1)
 (Q (vT [vL none 0 0, vS [], vL none 0 0, vI 30]) h_1)
 (∃ (b6 o5 : Nat), a3 = some ⟨b6, o5, none⟩ ∧ (0 ≤ (0 : Int) ∧ (0 : Int) < n3) ∧
 ∃ (l2 : Bs), h_1.cell b6 (o5 + 1) = some (vS l2) ∧
 (okA a3 n3 k3 ∧ 0 ≤ (1 : Int) ∧ (1 : Int) ≤ ((n3 : Nat) : Int) ∧ ((n3 : Nat) : Int) ≤ k3) ∧ ∀ (a6 : OA), SlA a3 a6 1 k3 2 →
 ∃ (I_2 : Nat → OA → Nat → Nat → Bs → OA → Nat → Nat → Int → PHeap → Prop), (∃ (m5 : Nat), I_2 m5 a2 n2 k2 l2 none 0 0 (0 : Int) h_1) ∧
 ∀ (m4 : Nat) (a7 : OA) (n5 : Nat) (k5 : Nat) (l3 : Bs) (a8 : OA) (n6 : Nat) (k6 : Nat) (i4 : Int) (h_4 : PHeap), I_2 m4 a7 n5 k5 l3 a8 n6 k6 i4 h_4 →
 br (decide (i4 < (((((n3 : Nat) : Int).toNat - 1) : Nat) : Int)))
 (∃ (b7 o6 : Nat), a6 = some ⟨b7, o6, none⟩ ∧ (0 ≤ i4 ∧ i4 < ((((((n3 : Nat) : Int).toNat - 1)) : Nat) : Int)) ∧
 ∃ (i5 : Int) (l4 : Bs), h_4.row b7 (o6 + (i4).toNat * 2) [vI i5, vS l4] ∧
 br ((Int.tmod i4 2) == 0)
 (br (i5 != 1)
 (br (i5 != 2)
 (Q (vT [vL none 0 0, vS [], vL none 0 0, vI 30]) h_4)
 (∀ (b8 : Nat), h_4 b8 = none → ∀ (h_5 : PHeap), h_5 = h_4.put b8 (.cells ⟨[vI i5, vS l4]⟩ 134) →
 Raw Tryz.prog (execOp (rho [(67, vL a8 n6 k6), (69, vL (ad b8 0) 1 1)]) (mkO o89_11 124)) h_5 fun v_2 h_6 =>
 ∃ (a9 : OA) (n7 k7 : Nat), v_2 = vL a9 n7 k7 ∧
 ∃ (m6 : Nat), m6 < m4 ∧ I_2 m6 a7 n5 k5 l3 a9 n7 k7 (IntKind.i64.wrap (i4 + 1)) h_6 ∧
 True))
 (∀ (b9 : Nat), h_4 b9 = none → ∀ (h_7 : PHeap), h_7 = h_4.put b9 (.cells ⟨[vI i5, vS l4]⟩ 134) →
 Raw Tryz.prog (execOp (rho [(67, vL a8 n6 k6), (69, vL (ad b9 0) 1 1)]) (mkO o89_11 124)) h_7 fun v_3 h_8 =>
 ∃ (a10 : OA) (n8 k8 : Nat), v_3 = vL a10 n8 k8 ∧
 ∃ (m7 : Nat), m7 < m4 ∧ I_2 m7 a7 n5 k5 l3 a10 n8 k8 (IntKind.i64.wrap (i4 + 1)) h_8 ∧
 True))
 (br (i5 != 3)
 (Q (vT [vL none 0 0, vS [], vL none 0 0, vI 30]) h_4)
 (∃ (m8 : Nat), m8 < m4 ∧ I_2 m8 a7 n5 k5 l3 a8 n6 k6 (IntKind.i64.wrap (i4 + 1)) h_4 ∧
 True)))
 (br (decide ((((((n3 : Nat) : Int).toNat - 1) : Nat) : Int) > 0))
 (br ((Int.tmod (((((n3 : Nat) : Int).toNat - 1) : Nat) : Int) 2) == 0)
 (Q (vT [vL none 0 0, vS [], vL none 0 0, vI 30]) h_4)
 (Q (vT [vL a7 n5 k5, vS l3, vL a8 n6 k6, vI 0]) h_4))
 (Q (vT [vL a7 n5 k5, vS l3, vL a8 n6 k6, vI 0]) h_4))))
theorem tmod2 (j : Nat) : (Int.tmod (j : Int) 2 == 0) = decide (j % 2 = 0) := by
 have : Int.tmod (j : Int) 2 = ((j % 2 : Nat) : Int) := rfl
 rw [this, Bool.eq_iff_iff]; simp; omega
theorem tail_89 {ts0 rem : List Tk} {acc : List Bytes} {a2 a3 : OA} {k2 k3 : Nat} {h1 : PHeap} (hsp : splitL ts0 = (splitL rem).map fun x => (acc ++ x.1, x.2)) (hlen : rem.length ≤ 1000000) (hx : Ext h h1) (hM : LM 9 1 h h1 a2 acc.length k2 (sL acc)) (hT : TkAt h a3 rem)
 (hk3 : rem.length ≤ k3) (hok : okA a3 rem.length k3) (hno : ∀ t u l, rem = t :: u :: l → ¬ (t.kind = 1 ∧ u.kind = 4)) : tail89 a2 acc.length k2 a3 rem.length k3 h1 (ParP h ts0) := by
 unfold tail89
 match rem, hsp, hlen, hT, hk3, hok, hno with
 | [], hsp, _, _, _, _, _ =>
   refine br_pos rfl ⟨hx, ?_⟩
   rw [hsp]
   simp only [splitL, Option.map_some, List.append_nil]
   exact ⟨a2, k2, rfl, hM⟩
 | t :: l, hsp, hlen, hT, hk3, hok, hno =>
   have hT1 := hT.ext hx
   obtain ⟨b, o, ha, hr⟩ := hT1.get (j := 0) (t := t) rfl
   rw [Nat.zero_mul, Nat.add_zero] at hr
   obtain ⟨hr1, hr2⟩ := row_hd hr
   refine br_neg (by simp; omega) ⟨b, o, ha, ⟨by omega, by simp⟩, _, hr1, br_split (fun e => ?_) fun e => ?_⟩
   · have hk : t.kind ≠ 1 := fun hk => by have := (kind_t (n := 1) e).1 hk; cases this
     rw [splitL_bad hk] at hsp
     refine ⟨hx, ?_⟩
     rw [hsp]; rfl
   have hk : t.kind = 1 := (kind_t (n := 1) e).2 rfl
   refine ⟨b, o, ha, ⟨by omega, by simp⟩, _, hr2, ⟨hok, by omega, by simp; omega, by simp at hk3 ⊢; omega⟩, ?_⟩
   intro a6 hs6
   have hT6 := hT.drop hk3 hs6
   rw [List.drop_succ_cons, List.drop_zero] at hT6
   rw [splitL_stmt hk (fun u r e h4 => hno t u r (by rw [e]) ⟨hk, h4⟩), operands_ops] at hsp
   have hn : ((((t :: l).length : Nat) : Int).toNat - 1 : Nat) = l.length := by simp
   rw [hn]
   simp only [List.length_cons] at hlen hk3
   have bad : ∀ h4, Ext h h4 → (opsG 0 l = none ∨ (0 < l.length ∧ l.length % 2 = 0)) → ParP h ts0 (vT [vL none 0 0, vS [], vL none 0 0, vI 30]) h4 := fun h4 hx4 ho => by
    refine ⟨hx4, ?_⟩
    rw [hsp]
    by_cases hc : 0 < l.length ∧ l.length % 2 = 0
    · rw [if_pos hc]; rfl
    · rw [if_neg hc, ho.resolve_right hc]; rfl
   refine ⟨fun m a7 n5 k5 nm a8 n6 k6 i h' => ∃ (j : Nat) (os : List Tk), i = (j : Int) ∧ j + m = l.length ∧ a2 = a7 ∧ acc.length = n5 ∧ k2 = k5 ∧ t.text = nm ∧ Ext h1 h' ∧ LM 134 2 h1 h' a8 n6 k6 (tkL os) ∧ n6 = os.length ∧ os.length ≤ j ∧
    opsG 0 l = (opsG j (l.drop j)).map fun x => os ++ x, ⟨l.length, 0, [], rfl, by omega, rfl, rfl, rfl, rfl, Ext.refl h1, LM.nil, rfl, by simp, by cases h : opsG 0 l <;> simp [h]⟩, ?_⟩
   rintro m _ _ _ _ a8 _ k6 _ h4 ⟨j, os, rfl, hjm, rfl, rfl, rfl, rfl, hx4, hO, rfl, hjo, hop⟩
   have hxx := hx.trans hx4
   by_cases hj : j < l.length
   · have hd := List.drop_eq_getElem_cons hj
     have hgj : l[j]? = some l[j] := by simp [hj]
     rw [hd] at hop
     generalize l[j] = u at *
     obtain ⟨b7, o7, ha7, hr7⟩ := (hT6.ext hxx).get hgj
     have hn1 : IntKind.i64.wrap ((j : Int) + 1) = ((j + 1 : Nat) : Int) := by rw [wrap64 (by omega) (by omega)]; omega
     refine br_pos (by simp; omega) ⟨b7, o7, ha7, ⟨by omega, by omega⟩, _, _, (by rw [Int.toNat_natCast]; exact hr7), ?_⟩
     rw [tmod2]
     refine br_split (fun e2 => ?_) fun e2 => ?_
     · have e2 := of_decide_eq_true e2
       have push : u.kind = 1 ∨ u.kind = 2 → ∀ (b8 : Nat), h4 b8 = none → ∀ (h_5 : PHeap), h_5 = h4.put b8 (.cells ⟨[vI (u.kind : Int), vS u.text]⟩ 134) →
        Raw Tryz.prog (execOp (rho [(67, vL a8 os.length k6), (69, vL (ad b8 0) 1 1)]) (mkO o89_11 124)) h_5 fun v_2 h_6 =>
        ∃ (a9 : OA) (n7 k7 : Nat), v_2 = vL a9 n7 k7 ∧
        ∃ (m6 : Nat), m6 < m ∧ (∃ (j' : Nat) (os' : List Tk), IntKind.i64.wrap ((j : Int) + 1) = (j' : Int) ∧ j' + m6 = l.length ∧ a2 = a2 ∧ acc.length = acc.length ∧ k2 = k2 ∧ t.text = t.text ∧ Ext h1 h_6 ∧ LM 134 2 h1 h_6 a9 n7 k7 (tkL os') ∧ n7 = os'.length ∧ os'.length ≤ j' ∧
           opsG 0 l = (opsG j' (l.drop j')).map fun x => os' ++ x) ∧ True := by
        intro hk1 b8 hb8 h5 hh5
        refine Raw.mono (LM.push und124 elem134 rfl rfl rfl rfl rfl hx4 hO hb8 hh5 rfl rfl (by omega)) ?_
        rintro _ h6 ⟨b9, cap, rfl, hx6, hO6, hg1, hg2⟩
        refine ⟨_, _, _, rfl, m - 1, by omega, ⟨j + 1, os ++ [u], hn1, by omega, rfl, rfl, rfl, rfl, hx6, by rw [tkL_app]; exact hO6, by simp, by simp; omega, ?_⟩, trivial⟩
        rw [hop, opsG, if_pos e2, if_pos hk1]
        cases opsG (j + 1) (l.drop (j + 1)) <;> simp
       refine br_split (fun e3 => br_split (fun e4 => bad h4 hxx (.inl ?_)) fun e4 => push (.inr ((kind_t (n := 2) e4).2 rfl))) fun e3 => push (.inl ((kind_t (n := 1) e3).2 rfl))
       rw [hop, opsG, if_pos e2, if_neg]
       · rfl
       · rintro (hk | hk)
         · have := (kind_t (n := 1) e3).1 hk; cases this
         · have := (kind_t (n := 2) e4).1 hk; cases this
     · have e2 := of_decide_eq_false e2
       refine br_split (fun e3 => bad h4 hxx (.inl ?_)) fun e3 => ⟨m - 1, by omega, ⟨j + 1, os, hn1, by omega, rfl, rfl, rfl, rfl, hx4, hO, rfl, by omega, ?_⟩, trivial⟩
       · rw [hop, opsG, if_neg e2, if_neg]
         · rfl
         · intro hk; have := (kind_t (n := 3) e3).1 hk; cases this
       · rw [hop, opsG, if_neg e2, if_pos ((kind_t (n := 3) e3).2 rfl)]
   · have hjl : j = l.length := by omega
     subst hjl
     rw [List.drop_length] at hop
     simp only [opsG, Option.map_some, List.append_nil] at hop
     have good : ¬ (0 < l.length ∧ l.length % 2 = 0) → ParP h ts0 (vT [vL a2 acc.length k2, vS t.text, vL a8 os.length k6, vI 0]) h4 := fun hc => by
      refine ⟨hxx, ?_⟩
      rw [hsp, if_neg hc, hop]
      simp only [Option.map_some, List.append_nil]
      exact ⟨a2, k2, a8, k6, rfl, hM.ext hx4, LM.base hx hO⟩
     refine br_neg (by simp) (br_split (fun e3 => ?_) fun e3 => good ?_)
     · rw [tmod2]
       have e3 := of_decide_eq_true e3
       refine br_split (fun e4 => bad h4 hxx (.inr ⟨by omega, of_decide_eq_true e4⟩)) fun e4 => good fun hc => of_decide_eq_false e4 hc.2
     · have e3 := of_decide_eq_false e3
       omega
theorem parse_t {a1 : OA} {k1 : Nat} {ts : List Tk} (hlen : ts.length ≤ 1000000) (hT : TkAt h a1 ts) (hk : ts.length ≤ k1) (hok : okA a1 ts.length k1) : Tri Tryz.prog 89 [vL a1 ts.length k1] h fun v h' => ParP h ts v h' := by
 refine T89 ?_
 unfold R89
 refine ⟨fun m a2 n2 k2 a3 n3 k3 h' => ∃ (rem : List Tk) (acc : List Bytes), rem.length = m ∧ rem.length = n3 ∧ acc.length = n2 ∧ Ext h h' ∧ LM 9 1 h h' a2 acc.length k2 (sL acc) ∧ TkAt h a3 rem ∧ rem.length ≤ k3 ∧ okA a3 rem.length k3 ∧ rem.length + acc.length ≤ 1000000 ∧
  splitL ts = (splitL rem).map fun x => (acc ++ x.1, x.2), ⟨ts.length, ts, [], rfl, rfl, rfl, Ext.refl h, LM.nil, hT, hk, hok, by simpa using hlen, by cases h : splitL ts <;> simp [h]⟩, ?_⟩
 rintro m a2 _ k2 a3 _ k3 h1 ⟨rem, acc, rfl, rfl, rfl, hx, hM, hT3, hk3, hok3, hl3, hsp⟩
 have tl : (∀ t u l, rem = t :: u :: l → ¬ (t.kind = 1 ∧ u.kind = 4)) → tail89 a2 acc.length k2 a3 rem.length k3 h1 (ParP h ts) := fun hno => tail_89 h hsp (by omega) hx hM hT3 hk3 hok3 hno
 refine br_split (fun e => ?_) fun e => tl ?_
 rotate_left
 · rintro t u l rfl
   have e := of_decide_eq_false e
   simp at e; omega
 have e := of_decide_eq_true e
 match rem, hT3, hk3, hok3, hl3, hsp, tl, e with
 | [], _, _, _, _, _, _, e => simp at e
 | [_], _, _, _, _, _, _, e => simp at e
 | t :: u :: l, hT3, hk3, hok3, hl3, hsp, tl, e =>
   have hT1 := hT3.ext hx
   obtain ⟨b, o, ha, hr⟩ := hT1.get (j := 0) (t := t) rfl
   rw [Nat.zero_mul, Nat.add_zero] at hr
   obtain ⟨hr1, hr2⟩ := row_hd hr
   obtain ⟨b', o', ha', hr'⟩ := hT1.get (j := 1) (t := u) rfl
   rw [Nat.one_mul] at hr'
   obtain ⟨hr1', hr2'⟩ := row_hd hr'
   refine ⟨b, o, ha, ⟨by omega, by omega⟩, _, hr1, br_split (fun e1 => ?_) fun e1 => tl ?_⟩
   rotate_left
   · rintro t' u' l' h' ⟨h1, _⟩; injection h' with h' _; subst h'; simp at e1; omega
   have k1 : t.kind = 1 := by simp at e1; omega
   refine ⟨b', o', ha', ⟨by omega, by omega⟩, _, hr1', br_split (fun e2 => ?_) fun e2 => tl ?_⟩
   rotate_left
   · rintro t' u' l' h' ⟨_, h1⟩; injection h' with _ h'; injection h' with h' _; subst h'; simp at e2; omega
   have k2' : u.kind = 4 := by simp at e2; omega
   refine ⟨b, o, ha, ⟨by omega, by omega⟩, _, hr2, ?_⟩
   intro b4 hb4 h2 hh2
   refine Raw.mono (LM.push und52 elem9 rfl rfl rfl rfl rfl hx hM hb4 hh2 rfl rfl (by omega)) ?_
   rintro _ h3 ⟨b5, cap, rfl, hx3, hM3, _⟩
   refine ⟨_, _, _, rfl, ⟨hok3, by omega, by omega, by omega⟩, ?_⟩
   intro a5 hs5
   simp only [List.length_cons] at hl3 hk3 e
   have hT5 := hT3.drop (by simp; omega) hs5
   rw [splitL_label k1 k2'] at hsp
   refine ⟨l.length, by simp; omega, ⟨l, acc ++ [t.text], rfl, by simp; omega, by simp, hx3, by rw [sL_app, List.length_append]; exact hM3, hT5, by omega, ?_, by simp; omega, ?_⟩, trivial⟩
   · rcases hok3 with ⟨b, o, h1⟩ | ⟨h1, h2, _⟩
     · obtain ⟨o', h2, _⟩ := hs5.1 b o h1
       exact .inl ⟨b, o', h2⟩
     · simp at h2
   · rw [hsp]
     cases splitL l <;> simp
end
end Go.Proofs.D
namespace Go.As
theorem escB_suf {t t' : Bytes} {b : UInt8} (he : escB t = some (b, t')) : ∃ p, t = p ++ t' := by
 unfold escB at he
 split at he
 all_goals first | (simp only [Option.some.injEq, Prod.mk.injEq] at he; obtain ⟨_, rfl⟩ := he; exact ⟨[_], rfl⟩) | skip
 · split at he
   · simp only [Option.some.injEq, Prod.mk.injEq] at he; obtain ⟨_, rfl⟩ := he; exact ⟨[_, _, _], rfl⟩
   · cases he
 · cases he
theorem unq_suf : ∀ (f : Nat) (r x r' : Bytes), unq f r = some (x, r') → ∃ p, r = p ++ r'
 | 0, r, x, r', h => by simp [unq] at h
 | f + 1, [], x, r', h => by simp [unq] at h
 | f + 1, c :: r, x, r', h => by
   rw [unq] at h
   split at h
   · simp only [Option.some.injEq, Prod.mk.injEq] at h; obtain ⟨_, rfl⟩ := h
     exact ⟨[c], rfl⟩
   split at h
   · cases he : escB r with
     | none => rw [he] at h; cases h
     | some y =>
       obtain ⟨b, r1⟩ := y
       rw [he] at h
       simp only [Option.map_eq_some_iff] at h
       obtain ⟨⟨y, r2⟩, h1, h2⟩ := h
       simp only [Prod.mk.injEq] at h2
       obtain ⟨_, rfl⟩ := h2
       obtain ⟨p, rfl⟩ := escB_suf he
       obtain ⟨q, rfl⟩ := unq_suf f _ _ _ h1
       exact ⟨c :: (p ++ q), by simp⟩
   split at h
   · cases h
   · simp only [Option.map_eq_some_iff] at h
     obtain ⟨⟨y, r2⟩, h1, h2⟩ := h
     simp only [Prod.mk.injEq] at h2
     obtain ⟨_, rfl⟩ := h2
     obtain ⟨q, rfl⟩ := unq_suf f _ _ _ h1
     exact ⟨c :: q, rfl⟩
theorem drop_idx {s r : Bytes} {j : Nat} {c : UInt8} (hd : s.drop j = c :: r) (k : Nat) : s[j + 1 + k]? = r[k]? := by
 have h1 : (s.drop j)[k + 1]? = r[k]? := by rw [hd]; rfl
 rw [List.getElem?_drop] at h1
 rw [← h1, show j + 1 + k = j + (k + 1) by omega]
theorem drop_suf {s r p r' : Bytes} {j : Nat} (hr : s.drop j = r) (hp : r = p ++ r') : s.drop (j + p.length) = r' := by
 rw [← List.drop_drop, hr, hp, List.drop_left]
end Go.As
namespace Go.Proofs.D
open Go Go.Den Go.As
set_option maxRecDepth 100000
attribute [local irreducible] IntKind.wrap Tri
theorem und138 : Tryz.prog.underlying 138 = some (.slice 180) := rfl
theorem elem180 : ElemT 180 2 := ⟨_, _, rfl, rfl, rfl, rfl, by decide⟩
theorem hexI_ge {c : UInt8} : decide (hexI c ≥ 0) = hexB c := by
 unfold hexI
 by_cases h : hexB c = true
 · rw [if_pos h, h]; simp
 · rw [if_neg h]; simp at h; rw [h]; rfl
theorem rhex_wrap {a b : UInt8} (ha : hexB a = true) (hb : hexB b = true) : IntKind.u8.wrap (IntKind.i64.wrap (IntKind.i64.wrap (16 * hexI a) + hexI b)) = ((UInt8.ofNat (16 * hexN a + hexN b)).toNat : Int) := by
 have hl : ∀ n : Fin 256, hexB (UInt8.ofNat n.val) = true → hexN (UInt8.ofNat n.val) < 16 := by decide +kernel
 have h1 := hl ⟨a.toNat, a.toNat_lt⟩
 have h2 := hl ⟨b.toNat, b.toNat_lt⟩
 simp only [UInt8.ofNat_toNat] at h1 h2
 have key : ∀ x y : Fin 16, IntKind.u8.wrap (IntKind.i64.wrap (IntKind.i64.wrap (16 * (x.val : Int)) + (y.val : Int))) = ((UInt8.ofNat (16 * x.val + y.val)).toNat : Int) := by decide +kernel
 have := key ⟨_, h1 ha⟩ ⟨_, h2 hb⟩
 unfold hexI
 rw [if_pos ha, if_pos hb]
 exact this
section
variable (h : PHeap)
theorem rescape_t {s r : Bytes} {j : Nat} {c : UInt8} (hd : s.drop j = c :: r) (hl : s.length ≤ 1000000) : Tri Tryz.prog 154 [vS s, vI (j : Int)] h fun v h' => v = escV r ∧ h' = h := by
 refine T154 ?_
 unfold R154
 obtain ⟨hlt, _, ht, htl⟩ := drop_at hd
 have w1 : IntKind.i64.wrap ((j : Int) + 1) = ((j + 1 : Nat) : Int) := by rw [wrap64 (by omega) (by omega)]; omega
 have w2 : IntKind.i64.wrap ((j : Int) + 2) = ((j + 2 : Nat) : Int) := by rw [wrap64 (by omega) (by omega)]; omega
 have w3 : IntKind.i64.wrap ((j : Int) + 3) = ((j + 3 : Nat) : Int) := by rw [wrap64 (by omega) (by omega)]; omega
 have i1 : ∀ d, r[0]? = some d → s[((j + 1 : Nat) : Int).toNat]? = some d := fun d hd' => by rw [Int.toNat_natCast]; exact (drop_idx hd 0).trans hd'
 have i2 : ∀ d, r[1]? = some d → s[((j + 2 : Nat) : Int).toNat]? = some d := fun d hd' => by rw [Int.toNat_natCast]; exact (drop_idx hd 1).trans hd'
 have i3 : ∀ d, r[2]? = some d → s[((j + 3 : Nat) : Int).toNat]? = some d := fun d hd' => by rw [Int.toNat_natCast]; exact (drop_idx hd 2).trans hd'
 rw [w1, w2, w3]
 match r, i1, i2, i3, htl with
 | [], _, _, _, htl => exact br_pos (by simp at htl ⊢; omega) ⟨rfl, rfl⟩
 | d :: r, i1, i2, i3, htl =>
   refine br_neg (by simp at htl ⊢; omega) ⟨by omega, d, i1 d rfl, ?_⟩
   refine br_split (fun e => ?_) fun n1 => br_split (fun e => ?_) fun n2 => br_split (fun e => ?_) fun n3 => br_split (fun e => ?_) fun n4 => br_split (fun e => ?_) fun n5 => br_split (fun e => ?_) fun n6 => ?_
   · obtain rfl : d = 110 := u8_is e
     refine ⟨?_, rfl⟩; simp [escV, escB]; omega
   · obtain rfl : d = 116 := u8_is e
     refine ⟨?_, rfl⟩; simp [escV, escB]; omega
   · obtain rfl : d = 48 := u8_is e
     refine ⟨?_, rfl⟩; simp [escV, escB]; omega
   · obtain rfl : d = 92 := u8_is e
     refine ⟨by omega, 92, i1 _ rfl, ?_, rfl⟩; simp [escV, escB]; omega
   · obtain rfl : d = 34 := u8_is e
     refine ⟨by omega, 34, i1 _ rfl, ?_, rfl⟩; simp [escV, escB]; omega
   · obtain rfl : d = 120 := u8_is e
     match r, i2, i3, htl with
     | [], _, _, htl => exact br_neg (by simp at htl ⊢; omega) ⟨rfl, rfl⟩
     | [_], _, _, htl => exact br_neg (by simp at htl ⊢; omega) ⟨rfl, rfl⟩
     | x :: y :: r, i2, i3, htl =>
       refine br_pos (by simp at htl ⊢; omega) ⟨by omega, x, i2 x rfl, ?_⟩
       refine Tri.mono (rhex_t h x) ?_
       rintro _ h ⟨rfl, rfl⟩
       refine ⟨_, rfl, br_split (fun e1 => ⟨by omega, y, i3 y rfl, ?_⟩) fun e1 => ?_⟩
       · rw [hexI_ge] at e1
         refine Tri.mono (rhex_t h y) ?_
         rintro _ h ⟨rfl, rfl⟩
         refine ⟨_, rfl, br_split (fun e2 => ⟨by omega, x, i2 x rfl, by omega, y, i3 y rfl, ?_⟩) fun e2 => ?_⟩
         · rw [hexI_ge] at e2
           refine Tri.mono (rhex_t h x) ?_
           rintro _ h ⟨rfl, rfl⟩
           refine ⟨_, rfl, ?_⟩
           refine Tri.mono (rhex_t h y) ?_
           rintro _ h ⟨rfl, rfl⟩
           refine ⟨_, rfl, ?_, rfl⟩
           rw [rhex_wrap e1 e2]
           have : escB (120 :: x :: y :: r) = some (UInt8.ofNat (16 * hexN x + hexN y), r) := by rw [escB, e1, e2]; rfl
           unfold escV
           rw [this]
           simp; omega
         · rw [hexI_ge] at e2
           have : escB (120 :: x :: y :: r) = none := by rw [escB, e1, e2]; rfl
           unfold escV; rw [this]; exact ⟨rfl, rfl⟩
       · rw [hexI_ge] at e1
         have : escB (120 :: x :: y :: r) = none := by rw [escB, e1]; rfl
         unfold escV; rw [this]; exact ⟨rfl, rfl⟩
   · have : escB (d :: r) = none := by
      unfold escB
      split
      · rename_i e; injection e with e _; subst e; exact absurd n1 (by decide)
      · rename_i e; injection e with e _; subst e; exact absurd n2 (by decide)
      · rename_i e; injection e with e _; subst e; exact absurd n3 (by decide)
      · rename_i e; injection e with e _; subst e; exact absurd n4 (by decide)
      · rename_i e; injection e with e _; subst e; exact absurd n5 (by decide)
      · rename_i e; injection e with e _; subst e; exact absurd n6 (by decide)
      · rfl
     unfold escV; rw [this]; exact ⟨rfl, rfl⟩
def quotV (s r : Bytes) : Value := match unq1 r with
 | none => vT [vS [], vI 0]
 | some (x, r') => vT [vS x, vI ((s.length - r'.length : Nat) : Int)]
theorem one_byte {h : PHeap} {b : Nat} (hb : h b = none) (c : UInt8) : BytesAt (h.put b (.cells ⟨[vU (c.toNat : Int)]⟩ 5 (0, 0))) (ad b 0) 1 [c] :=
 .inr ⟨b, 0, rfl, rfl, (cell_of (Put.at rfl) 0).trans rfl⟩
theorem rquoted_t {s r : Bytes} {j : Nat} {q : UInt8} (hd : s.drop j = q :: r) (hl : s.length ≤ 1000000) : Tri Tryz.prog 132 [vS s, vI (j : Int)] h fun v h' => v = quotV s r ∧ Ext h h' := by
 refine T132 ?_
 unfold R132
 obtain ⟨hlt, _, ht, htl⟩ := drop_at hd
 refine ⟨fun m l i h' => ∃ j' : Nat, i = (j' : Int) ∧ j' + m = s.length ∧ Ext h h' ∧ l.length ≤ j' ∧ unq1 r = (unq1 (s.drop j')).map fun x => (l ++ x.1, x.2),
  ⟨s.length - (j + 1), j + 1, by rw [wrap64 (by omega) (by omega)]; omega, by omega, Ext.refl h, by simp, by rw [ht]; cases unq1 r <;> simp⟩, ?_⟩
 clear hd hlt ht
 rintro m l _ h1 ⟨j, rfl, hjm, hx, hac, hu⟩
 by_cases hlt : j < s.length
 · obtain ⟨c, t, hd, hg, ht⟩ := drop_at' hlt
   have htl2 : t.length + j + 1 = s.length := by
    have := congrArg List.length hd
    simp at this; omega
   rw [hd] at hu
   refine br_pos (by simp; omega) ⟨by omega, c, hg, ?_⟩
   refine br_split (fun n0 => ⟨by omega, c, hg, ?_⟩) fun e => br_neg (by simp; omega) ?_
   rotate_left
   · have : c = 34 := by have := u8_kn c 34 e; simpa using this
     subst this
     rw [unq1_end] at hu
     refine ⟨?_, hx⟩
     unfold quotV
     rw [hu]
     simp only [Option.map_some, List.append_nil]
     rw [wrap64 (by omega) (by omega)]
     have : (j : Int) + 1 = ((s.length - t.length : Nat) : Int) := by omega
     rw [this]
   have c34 : c ≠ 34 := by have := u8_kn c 34 n0; simpa using this
   have bad : (c.toNat < 32 ∨ 126 < c.toNat) → vT [vS [], vI 0] = quotV s r ∧ Ext h h1 := fun hc => by
    have c92 : c ≠ 92 := fun e => by subst e; revert hc; decide
    rw [unq1_byte c34 c92, if_pos hc] at hu
    unfold quotV; rw [hu]; exact ⟨rfl, hx⟩
   refine br_split (fun e => bad (.inl ?_)) fun n3 => ⟨by omega, c, hg, br_split (fun e => bad (.inr ?_)) fun n4 => ⟨by omega, c, hg, ?_⟩⟩
   · have := of_decide_eq_true e; omega
   · have := of_decide_eq_true e; omega
   have n3 := of_decide_eq_false n3
   have n4 := of_decide_eq_false n4
   refine br_split (fun e => ?_) fun n5 => ?_
   · obtain rfl : c = 92 := u8_is e
     rw [unq1_esc] at hu
     refine Tri.mono (rescape_t h1 hd hl) ?_
     rintro _ h1 ⟨rfl, rfl⟩
     unfold escV
     cases he : escB t with
     | none =>
       rw [he] at hu
       refine ⟨0, 0, rfl, br_pos rfl ⟨?_, hx⟩⟩
       unfold quotV; rw [hu]; rfl
     | some x =>
       obtain ⟨b, t'⟩ := x
       rw [he] at hu
       simp only at hu
       have hel := escB_len he
       refine ⟨_, _, rfl, br_neg (by simp; omega) ?_⟩
       intro b1 hb1 h2 hh2
       subst hh2
       obtain ⟨p, rfl⟩ := escB_suf he
       have hpl : (p ++ t').length = p.length + t'.length := List.length_append
       refine ⟨[b], one_byte hb1 b, by simp; omega, m - (p.length + 1), by omega, ⟨j + 1 + p.length, ?_, by omega, hx.trans (Ext.put hb1 _), by simp; omega, ?_⟩, trivial⟩
       · rw [hpl, wrap64 (by omega) (by omega)]; omega
       · rw [drop_suf ht rfl, hu]
         cases unq1 t' with
         | none => rfl
         | some x => simp
   · have c92 : c ≠ 92 := u8_not (d := 92) n5
     rw [unq1_byte c34 c92, if_neg (by omega)] at hu
     intro b1 hb1 h2 hh2
     subst hh2
     refine ⟨[c], one_byte hb1 c, by simp; omega, m - 1, by omega, ⟨j + 1, ?_, by omega, hx.trans (Ext.put hb1 _), by simp; omega, ?_⟩, trivial⟩
     · rw [wrap64 (by omega) (by omega)]; omega
     · rw [ht, hu]
       cases unq1 t with
       | none => rfl
       | some x => simp
 · have hj : s.length ≤ j := by omega
   refine br_neg (by simp; omega) (br_pos (by simp; omega) ?_)
   rw [List.drop_of_length_le hj, unq1_nil] at hu
   refine ⟨?_, hx⟩
   unfold quotV; rw [hu]; rfl
def rk (k : Nat) : Int := if k = 1 then 119 else if k = 2 then 115 else if k = 3 then 44 else 58
def rtkC (t : Tk) : List Value := [vU (rk t.kind), vS (if t.kind ≤ 2 then t.text else [])]
def rtkL (l : List Tk) : List (List Value) := l.map rtkC
theorem rtkL_app (a b : List Tk) : rtkL (a ++ b) = rtkL a ++ rtkL b := by simp [rtkL]
def RTokP (s : Bytes) (v : Value) (h' : PHeap) : Prop := Ext h h' ∧ match tokensL s with
 | none => v = vT [vL none 0 0, vB false]
 | some ts => ts.length ≤ s.length ∧ ∃ a k, v = vT [vL a ts.length k, vB true] ∧ LM 180 2 h h' a ts.length k (rtkL ts)
def tail94 (l1 : Bs) (c2 : UInt8) (i1 i2 : Int) (a1 : OA) (n1 k1 m1 : Nat) (I_1 : Nat → Int → OA → Nat → Nat → PHeap → Prop) (h0 : PHeap) (Q : Value → PHeap → Prop) : Prop :=
 br ((c2.toNat : Int) == 32)
 (∃ (m15 : Nat), m15 < m1 ∧ I_1 m15 (IntKind.i64.wrap (i1 + 1)) a1 n1 k1 h0 ∧
 True)
 (br ((c2.toNat : Int) == 9)
 (∃ (m16 : Nat), m16 < m1 ∧ I_1 m16 (IntKind.i64.wrap (i1 + 1)) a1 n1 k1 h0 ∧
 True)
 (br ((c2.toNat : Int) == 44)
 (∀ (b5 : Nat), h0 b5 = none → ∀ (h_14 : PHeap), h_14 = h0.put b5 (.cells ⟨[vU (c2.toNat : Int), vS []]⟩ 180) →
 Raw Tryz.prog (execOp (rho [(69, vL a1 n1 k1), (72, vL (ad b5 0) 1 1)]) (mkO o94_11 138)) h_14 fun v_8 h_15 =>
 ∃ (a6 : OA) (n6 k6 : Nat), v_8 = vL a6 n6 k6 ∧
 ∃ (m17 : Nat), m17 < m1 ∧ I_1 m17 (IntKind.i64.wrap (i1 + 1)) a6 n6 k6 h_15 ∧
 True)
 (br ((c2.toNat : Int) == 58)
 (∀ (b6 : Nat), h0 b6 = none → ∀ (h_16 : PHeap), h_16 = h0.put b6 (.cells ⟨[vU (c2.toNat : Int), vS []]⟩ 180) →
 Raw Tryz.prog (execOp (rho [(69, vL a1 n1 k1), (72, vL (ad b6 0) 1 1)]) (mkO o94_11 138)) h_16 fun v_9 h_17 =>
 ∃ (a7 : OA) (n7 k7 : Nat), v_9 = vL a7 n7 k7 ∧
 ∃ (m18 : Nat), m18 < m1 ∧ I_1 m18 (IntKind.i64.wrap (i1 + 1)) a7 n7 k7 h_17 ∧
 True)
 (br (decide (i2 > i1))
 ((0 ≤ i1 ∧ i1 ≤ i2 ∧ i2 ≤ (l1.length : Int)) ∧
 ∀ (b7 : Nat), h0 b7 = none → ∀ (h_18 : PHeap), h_18 = h0.put b7 (.cells ⟨[vU 119, vS ((l1.drop (i1).toNat).take ((i2).toNat - (i1).toNat))]⟩ 180) →
 Raw Tryz.prog (execOp (rho [(80, vL a1 n1 k1), (86, vL (ad b7 0) 1 1)]) (mkO o94_14 138)) h_18 fun v_10 h_19 =>
 ∃ (a8 : OA) (n8 k8 : Nat), v_10 = vL a8 n8 k8 ∧
 ∃ (m19 : Nat), m19 < m1 ∧ I_1 m19 i2 a8 n8 k8 h_19 ∧
 True)
 (br ((c2.toNat : Int) == 34)
 (Tri Tryz.prog 132 [vS l1, vI i1] h0 fun v_11 h00 =>
 ∃ (l3 : Bs) (i4 : Int), v_11 = vT [vS l3, vI i4] ∧
 br (i4 == 0)
 (Q (vT [vL none 0 0, vB false]) h00)
 (∀ (b8 : Nat), h00 b8 = none → ∀ (h01 : PHeap), h01 = h00.put b8 (.cells ⟨[vU 115, vS l3]⟩ 180) →
 Raw Tryz.prog (execOp (rho [(100, vL a1 n1 k1), (103, vL (ad b8 0) 1 1)]) (mkO o94_19 138)) h01 fun v_12 h02 =>
 ∃ (a9 : OA) (n9 k9 : Nat), v_12 = vL a9 n9 k9 ∧
 ∃ (m20 : Nat), m20 < m1 ∧ I_1 m20 i4 a9 n9 k9 h02 ∧
 True))
 (Q (vT [vL none 0 0, vB false]) h0))))))
theorem letter_word {c : UInt8} : wordB c = ((letterB c || c == 95) || digitB c || c == 46 || c == 45) := by
 unfold wordB
 cases letterB c <;> cases digitB c <;> cases (c == 95) <;> rfl
theorem rtokens_t (s : Bytes) (hl : s.length ≤ 1000000) : Tri Tryz.prog 94 [vS s] h fun v h' => RTokP h s v h' := by
 refine T94 ?_
 unfold R94
 refine ⟨fun m i a n k h' => ∃ (j : Nat) (acc : List Tk), i = (j : Int) ∧ j + m = s.length ∧ Ext h h' ∧ LM 180 2 h h' a n k (rtkL acc) ∧ n = acc.length ∧ acc.length ≤ j ∧ tokensL s = (tokensL (s.drop j)).map fun l => acc ++ l,
  ⟨s.length, 0, [], rfl, by omega, Ext.refl h, LM.nil, rfl, by simp, by cases h : tokensL s <;> simp [h]⟩, ?_⟩
 rintro m _ a n k h1 ⟨j, acc, rfl, hjm, hx, hM, rfl, hac, hu⟩
 have fin : tokensL (s.drop j) = some [] → RTokP h s (vT [vL a acc.length k, vB true]) h1 := fun ht => by
  rw [ht] at hu
  unfold RTokP
  rw [hu]
  simp only [Option.map_some, List.append_nil]
  exact ⟨hx, by omega, a, k, rfl, hM⟩
 have bad : ∀ h2, Ext h h2 → tokensL (s.drop j) = none → RTokP h s (vT [vL none 0 0, vB false]) h2 := fun h2 hx2 ht => by
  rw [ht] at hu
  unfold RTokP
  rw [hu]
  exact ⟨hx2, rfl⟩
 by_cases hlt : j < s.length
 · obtain ⟨c, t, hd, hg, ht⟩ := drop_at' hlt
   have htl : t.length + j + 1 = s.length := by
    have := congrArg List.length hd
    simp at this; omega
   have hd0 := hd
   rw [hd] at hu fin bad
   refine br_pos (by simp; omega) ⟨by omega, c, hg, ?_⟩
   have hw1 : IntKind.i64.wrap ((j : Int) + 1) = ((j + 1 : Nat) : Int) := by rw [wrap64 (by omega) (by omega)]; omega
   refine br_split (fun n0 => ⟨by omega, c, hg, ?_⟩) fun e => ?_
   rotate_left
   · have : c = 59 := by have := u8_kn c 59 e; simpa using this
     subst this
     exact fin (tokL_end t)
   have c59 : c ≠ 59 := by have := u8_kn c 59 n0; simpa using this
   have tail : ∀ (i : Nat) (h_4 : PHeap), h_4 = h1 → j ≤ i → i ≤ s.length → ((c :: t).take (i - j)).all wordB = true → (∀ d r, s.drop i = d :: r → wordB d = false) →
    tail94 s c (j : Int) (i : Int) a acc.length k m (fun m i a n k h' => ∃ (j : Nat) (acc : List Tk), i = (j : Int) ∧ j + m = s.length ∧ Ext h h' ∧ LM 180 2 h h' a n k (rtkL acc) ∧ n = acc.length ∧ acc.length ≤ j ∧ tokensL s = (tokensL (s.drop j)).map fun l => acc ++ l) h_4 (fun v h' => RTokP h s v h') := by
    rintro i h_4 rfl hji hil hall hstop
    unfold tail94
    have hdr : (c :: t).drop (i - j) = s.drop i := by rw [← hd, List.drop_drop, show j + (i - j) = i by omega]
    have hlt2 : (c :: t).length = s.length - j := by rw [← hd, List.length_drop]
    obtain ⟨w1, w2⟩ := word_end (s := c :: t) (n := i - j) hall (by omega) (by rw [hdr]; exact hstop)
    have blank : (c = 32 ∨ c = 9) → ∃ m3, m3 < m ∧ (∃ (j' : Nat) (acc' : List Tk), IntKind.i64.wrap ((j : Int) + 1) = (j' : Int) ∧ j' + m3 = s.length ∧ Ext h h_4 ∧ LM 180 2 h h_4 a acc.length k (rtkL acc') ∧ acc.length = acc'.length ∧ acc'.length ≤ j' ∧ tokensL s = (tokensL (s.drop j')).map fun l => acc' ++ l) ∧ True := fun hc => by
     refine ⟨m - 1, by omega, ⟨j + 1, acc, hw1, by omega, hx, hM, rfl, by omega, ?_⟩, trivial⟩
     rw [ht, hu, tokL_sp hc]
    refine br_split (fun e => blank (.inl (u8_is (d := 32) e))) fun n1 => br_split (fun e => blank (.inr (u8_is (d := 9) e))) fun n2 => br_split (fun e => ?_) fun n3 => br_split (fun e => ?_) fun n4 => br_split (fun e => ?_) fun n5 => br_split (fun e => ?_) fun n6 => ?_
    · obtain rfl : c = 44 := u8_is e
      intro b1 hb1 h2 hh2
      refine Raw.mono (LM.push und138 elem180 rfl rfl rfl rfl rfl hx hM hb1 hh2 rfl rfl (by omega)) ?_
      rintro _ h3 ⟨b3, cap, rfl, hx3, hM3, _⟩
      refine ⟨_, _, _, rfl, m - 1, by omega, ⟨j + 1, acc ++ [⟨3, [44]⟩], hw1, by omega, hx3, by rw [rtkL_app]; exact hM3, by simp, by simp; omega, ?_⟩, trivial⟩
      rw [ht, hu, tokL_comma]
      cases tokensL t <;> simp
    · obtain rfl : c = 58 := u8_is e
      intro b1 hb1 h2 hh2
      refine Raw.mono (LM.push und138 elem180 rfl rfl rfl rfl rfl hx hM hb1 hh2 rfl rfl (by omega)) ?_
      rintro _ h3 ⟨b3, cap, rfl, hx3, hM3, _⟩
      refine ⟨_, _, _, rfl, m - 1, by omega, ⟨j + 1, acc ++ [⟨4, [58]⟩], hw1, by omega, hx3, by rw [rtkL_app]; exact hM3, by simp, by simp; omega, ?_⟩, trivial⟩
      rw [ht, hu, tokL_colon]
      cases tokensL t <;> simp
    · have hlt3 : j < i := by have := of_decide_eq_true e; omega
      have hcw : wordB c = true := by
       have h5 := List.all_eq_true.1 hall c (by rw [show i - j = (i - j - 1) + 1 by omega, List.take_succ_cons]; exact List.mem_cons_self ..)
       exact h5
      refine ⟨⟨by omega, by omega, by omega⟩, ?_⟩
      intro b1 hb1 h2 hh2
      rw [Int.toNat_natCast, Int.toNat_natCast, hd] at hh2
      refine Raw.mono (LM.push und138 elem180 rfl rfl rfl rfl rfl hx hM hb1 hh2 rfl rfl (by omega)) ?_
      rintro _ h3 ⟨b3, cap, rfl, hx3, hM3, _⟩
      refine ⟨_, _, _, rfl, m - (i - j), by omega, ⟨i, acc ++ [⟨1, (c :: t).take (i - j)⟩], rfl, by omega, hx3, by rw [rtkL_app]; exact hM3, by simp, by simp; omega, ?_⟩, trivial⟩
      rw [hu, tokL_word2 hcw, w1, w2, hdr]
      cases tokensL (s.drop i) <;> simp
    · obtain rfl : c = 34 := u8_is e
      rw [tokL_quote] at hu bad
      refine Tri.mono (rquoted_t h_4 hd hl) ?_
      rintro _ h2 ⟨rfl, hx2⟩
      unfold quotV
      cases hq : unq1 t with
      | none =>
        rw [hq] at bad
        exact ⟨[], 0, rfl, br_pos rfl (bad h2 (hx.trans hx2) rfl)⟩
      | some x =>
        obtain ⟨x, r'⟩ := x
        rw [hq] at hu
        simp only at hu
        have hql := unq1_len hq
        obtain ⟨p, hp⟩ := unq_suf _ _ _ _ hq
        have hpl := congrArg List.length hp
        rw [List.length_append] at hpl
        refine ⟨x, _, rfl, br_neg (by simp; omega) ?_⟩
        intro b1 hb1 h3 hh3
        refine Raw.mono (LM.push und138 elem180 rfl rfl rfl rfl rfl (hx.trans hx2) (hM.ext hx2) hb1 hh3 rfl rfl (by omega)) ?_
        rintro _ h4 ⟨b3, cap, rfl, hx4, hM4, _⟩
        refine ⟨_, _, _, rfl, m - (p.length + 1), by omega, ⟨j + 1 + p.length, acc ++ [⟨2, x⟩], by omega, by omega, hx4, by rw [rtkL_app]; exact hM4, by simp, by simp; omega, ?_⟩, trivial⟩
        rw [drop_suf ht hp, hu]
        cases tokensL r' <;> simp
    · have hji2 : i = j := by have := of_decide_eq_false n5; omega
      subst hji2
      exact bad h_4 hx (tokL_bad c59 (by rintro (h | h); exact u8_not (d := 32) n1 h; exact u8_not (d := 9) n2 h) (u8_not (d := 44) n3) (u8_not (d := 58) n4) (u8_not (d := 34) n6) (hstop c t hd) t)
   refine ⟨fun m2 i h' => ∃ i' : Nat, i = (i' : Int) ∧ i' + m2 = s.length ∧ j ≤ i' ∧ h' = h1 ∧ ((c :: t).take (i' - j)).all wordB = true, ⟨s.length - j, j, rfl, by omega, Nat.le_refl _, rfl, by simp⟩, ?_⟩
   rintro m2 _ h2 ⟨i, rfl, him, hji, rfl, hall⟩
   refine br_split (fun e2 => ?_) fun e2 => ?_
   · have hil : i < s.length := by have := of_decide_eq_true e2; omega
     obtain ⟨d, r, hd2, hg2, hr2⟩ := drop_at' hil
     have hdr : (c :: t).drop (i - j) = d :: r := by rw [← hd, List.drop_drop, show j + (i - j) = i by omega, hd2]
     have next : wordB d = true → ∃ m3, m3 < m2 ∧ (∃ i' : Nat, IntKind.i64.wrap ((i : Int) + 1) = (i' : Int) ∧ i' + m3 = s.length ∧ j ≤ i' ∧ h2 = h2 ∧ ((c :: t).take (i' - j)).all wordB = true) ∧ True := fun e3 => by
      refine ⟨m2 - 1, by omega, ⟨i + 1, ?_, by omega, by omega, rfl, ?_⟩, trivial⟩
      · rw [wrap64 (by omega) (by omega)]; omega
      · have hlt3 : i - j < (c :: t).length := by
         have := congrArg List.length hdr
         simp at this ⊢; omega
        have : (c :: t)[i - j] = d := by
         have := List.drop_eq_getElem_cons hlt3
         rw [hdr] at this; injection this with this _; exact this.symm
        rw [show i + 1 - j = i - j + 1 by omega, ← List.take_append_getElem hlt3, List.all_append, hall, this]
        simp [e3]
     refine ⟨by omega, d, hg2, ?_⟩
     refine Tri.mono (rletter_t h2 d) ?_
     rintro _ h2 ⟨rfl, rfl⟩
     refine ⟨_, rfl, br_split (fun e3 => next (by rw [letter_word, e3]; rfl)) fun e3 => ⟨by omega, d, hg2, ?_⟩⟩
     refine Tri.mono (rdigit_t h2 d) ?_
     rintro _ h2 ⟨rfl, rfl⟩
     refine ⟨_, rfl, br_split (fun e4 => next (by rw [letter_word, e4]; simp)) fun e4 => ⟨by omega, d, hg2, br_split (fun e5 => next ?_) fun e5 => ⟨by omega, d, hg2, br_split (fun e6 => next ?_) fun e6 => ?_⟩⟩⟩
     · obtain rfl : d = 46 := u8_is e5; rfl
     · obtain rfl : d = 45 := u8_is e6; rfl
     · refine tail i h2 rfl hji (by omega) hall fun d' r' e' => ?_
       rw [hd2] at e'; injection e' with e' _; subst e'
       have h46 : (d == 46) = false := by simpa using u8_not (d := 46) e5
       have h45 : (d == 45) = false := by simpa using u8_not (d := 45) e6
       rw [letter_word, e3, e4, h46, h45]; rfl
   · have hil : i = s.length := by have := of_decide_eq_false e2; omega
     exact tail i h2 rfl hji (by omega) hall (fun d' r' e' => by rw [hil, List.drop_length] at e'; cases e')
 · have hj : j = s.length := by omega
   refine br_neg (by simp; omega) (fin ?_)
   rw [hj, List.drop_length]; rfl
end
end Go.Proofs.D
namespace Go.Proofs.D
open Go Go.Den
set_option maxRecDepth 100000
set_option maxHeartbeats 4000000
noncomputable def d162 : DCode := up ⟨[(8, .c (.tup [(false, [.str]), (false, [.bool])]))], [], []⟩ (low Tryz.prog (fun _ => false) (Tryz.f162.body.getD .skip))
theorem low162 : low Tryz.prog (fun _ => false) (Tryz.f162.body.getD .skip) = some (eC d162) := by kernel_rfl
def R162 (l1 : Bs) (l2 : Bs) (h : PHeap) (Q : Value → PHeap → Prop) : Prop :=
 Tri Tryz.prog 178 [vS l1, vS l2] h fun v_1 h_1 =>
 ∃ (l3 : Bs) (c1 : Bool), v_1 = vT [vS l3, vB c1] ∧
 Q (vT [vS l3, vB c1]) h_1
theorem T162 {l1 : Bs} {l2 : Bs} {h : PHeap} {Q : Value → PHeap → Prop} (hR : R162 l1 l2 h Q) : Tri Tryz.prog 162 [vS l1, vS l2] h Q :=
 tri_of_dn mixed Tryz.func162 rfl (by kernel_rfl) low162 (rs := [.tmp 4, .tmp 5]) (by kernel_rfl) rfl (Eq.mpr (by kernel_rfl : dnF Tryz.prog Tryz.f162.ntmps d162 [.tmp 4, .tmp 5] [vS l1, vS l2] h Q = R162 l1 l2 h Q) hR)
noncomputable def d178 : DCode := up ⟨[(8, .c (.one false [.bool]))], [], []⟩ (low Tryz.prog (fun _ => false) (Tryz.f178.body.getD .skip))
theorem low178 : low Tryz.prog (fun _ => false) (Tryz.f178.body.getD .skip) = some (eC d178) := by kernel_rfl
def R178 (l1 : Bs) (l2 : Bs) (h : PHeap) (Q : Value → PHeap → Prop) : Prop :=
 Tri Tryz.prog 186 [vS l1, vS l2] h fun v_1 h_1 =>
 ∃ (c1 : Bool), v_1 = vB c1 ∧
 br (!c1)
 (Q (vT [vS l1, vB false]) h_1)
 ((0 ≤ (l2.length : Int) ∧ (l2.length : Int) ≤ (l1.length : Int) ∧ (l1.length : Int) ≤ (l1.length : Int)) ∧
 Q (vT [vS ((l1.drop (l2.length : Int).toNat).take ((l1.length : Int).toNat - (l2.length : Int).toNat)), vB true]) h_1)
theorem T178 {l1 : Bs} {l2 : Bs} {h : PHeap} {Q : Value → PHeap → Prop} (hR : R178 l1 l2 h Q) : Tri Tryz.prog 178 [vS l1, vS l2] h Q :=
 tri_of_dn mixed Tryz.func178 rfl (by kernel_rfl) low178 (rs := [.tmp 4, .tmp 5]) (by kernel_rfl) rfl (Eq.mpr (by kernel_rfl : dnF Tryz.prog Tryz.f178.ntmps d178 [.tmp 4, .tmp 5] [vS l1, vS l2] h Q = R178 l1 l2 h Q) hR)
noncomputable def d165 : DCode := up ⟨[(7, .c (.one false [.str]))], [], []⟩ (low Tryz.prog (fun _ => false) (Tryz.f165.body.getD .skip))
theorem low165 : low Tryz.prog (fun _ => false) (Tryz.f165.body.getD .skip) = some (eC d165) := by kernel_rfl
def R165 (l1 : Bs) (l2 : Bs) (h : PHeap) (Q : Value → PHeap → Prop) : Prop :=
 Tri Tryz.prog 181 [vS l1, vS l2] h fun v_1 h_1 =>
 ∃ (l3 : Bs), v_1 = vS l3 ∧
 Q (vS l3) h_1
theorem T165 {l1 : Bs} {l2 : Bs} {h : PHeap} {Q : Value → PHeap → Prop} (hR : R165 l1 l2 h Q) : Tri Tryz.prog 165 [vS l1, vS l2] h Q :=
 tri_of_dn mixed Tryz.func165 rfl (by kernel_rfl) low165 (rs := [.tmp 4]) (by kernel_rfl) rfl (Eq.mpr (by kernel_rfl : dnF Tryz.prog Tryz.f165.ntmps d165 [.tmp 4] [vS l1, vS l2] h Q = R165 l1 l2 h Q) hR)
noncomputable def d181 : DCode := up ⟨[(7, .c (.one false [.bool]))], [], []⟩ (low Tryz.prog (fun _ => false) (Tryz.f181.body.getD .skip))
theorem low181 : low Tryz.prog (fun _ => false) (Tryz.f181.body.getD .skip) = some (eC d181) := by kernel_rfl
def R181 (l1 : Bs) (l2 : Bs) (h : PHeap) (Q : Value → PHeap → Prop) : Prop :=
 Tri Tryz.prog 186 [vS l1, vS l2] h fun v_1 h_1 =>
 ∃ (c1 : Bool), v_1 = vB c1 ∧
 br c1
 ((0 ≤ (l2.length : Int) ∧ (l2.length : Int) ≤ (l1.length : Int) ∧ (l1.length : Int) ≤ (l1.length : Int)) ∧
 Q (vS ((l1.drop (l2.length : Int).toNat).take ((l1.length : Int).toNat - (l2.length : Int).toNat))) h_1)
 (Q (vS l1) h_1)
theorem T181 {l1 : Bs} {l2 : Bs} {h : PHeap} {Q : Value → PHeap → Prop} (hR : R181 l1 l2 h Q) : Tri Tryz.prog 181 [vS l1, vS l2] h Q :=
 tri_of_dn mixed Tryz.func181 rfl (by kernel_rfl) low181 (rs := [.tmp 4]) (by kernel_rfl) rfl (Eq.mpr (by kernel_rfl : dnF Tryz.prog Tryz.f181.ntmps d181 [.tmp 4] [vS l1, vS l2] h Q = R181 l1 l2 h Q) hR)
noncomputable def d186 : DCode := up ⟨[], [], []⟩ (low Tryz.prog (fun _ => false) (Tryz.f186.body.getD .skip))
theorem low186 : low Tryz.prog (fun _ => false) (Tryz.f186.body.getD .skip) = some (eC d186) := by kernel_rfl
def R186 (l1 : Bs) (l2 : Bs) (h : PHeap) (Q : Value → PHeap → Prop) : Prop :=
 br (decide ((l1.length : Int) ≥ (l2.length : Int)))
 ((0 ≤ (0 : Int) ∧ (0 : Int) ≤ (l2.length : Int) ∧ (l2.length : Int) ≤ (l1.length : Int)) ∧
 Q (vB (((l1.drop 0).take ((l2.length : Int).toNat - 0)) == l2)) h)
 (Q (vB false) h)
theorem T186 {l1 : Bs} {l2 : Bs} {h : PHeap} {Q : Value → PHeap → Prop} (hR : R186 l1 l2 h Q) : Tri Tryz.prog 186 [vS l1, vS l2] h Q :=
 tri_of_dn mixed Tryz.func186 rfl (by kernel_rfl) low186 (rs := [.tmp 4]) (by kernel_rfl) rfl (Eq.mpr (by kernel_rfl : dnF Tryz.prog Tryz.f186.ntmps d186 [.tmp 4] [vS l1, vS l2] h Q = R186 l1 l2 h Q) hR)
abbrev o141_7 : Op := .binOp .eql 152 (.tmp 36) (.const (.nilIface)) 152
abbrev o141_13 : Op := .binOp .eql 152 (.tmp 59) (.const (.nilIface)) 152
noncomputable def d141 : DCode := up ⟨[(13, .c (.tup [(false, [.str]), (false, [.bool])])), (27, .c (.one false [.bool])), (32, .c (.tup [(false, [qi]), (false, [.any])])), (37, .c (.one false [.bool])), (39, .c (.one false [.str])), (50, .c (.one false [.bool])), (55, .c (.tup [(false, [qi]), (false, [.any])])), (60, .c (.one false [.bool]))], [], []⟩ (low Tryz.prog (fun _ => false) (Tryz.f141.body.getD .skip))
theorem low141 : low Tryz.prog (fun _ => false) (Tryz.f141.body.getD .skip) = some (eC d141) := by kernel_rfl
def R141 (l1 : Bs) (h : PHeap) (Q : Value → PHeap → Prop) : Prop :=
 Tri Tryz.prog 162 [vS l1, vS [48, 120]] h fun v_1 h_1 =>
 ∃ (l2 : Bs) (c1 : Bool), v_1 = vT [vS l2, vB c1] ∧
 br c1
 (br (decide ((l2.length : Int) < 1))
 (Q (vT [vI 0, vB false]) h_1)
 (br (decide ((l2.length : Int) > 8))
 (Q (vT [vI 0, vB false]) h_1)
 (Tri Tryz.prog 51 [vS l2, vF 163 [] []] h_1 fun v_2 h_2 =>
 ∃ (c2 : Bool), v_2 = vB c2 ∧
 br (!c2)
 (Q (vT [vI 0, vB false]) h_2)
 (Tri Tryz.prog 164 [vS l2, vI 16, vI 64] h_2 fun v_3 h_3 =>
 ∃ (i1 : Int) (u1 : Value), v_3 = vT [vI i1, u1] ∧
 ∃ (c3 : Bool), PureRun Tryz.prog (execOp (rho [(36, u1)]) (mkO o141_7 4)) (vB c3) ∧
 Q (vT [vI i1, vB c3]) h_3))))
 (Tri Tryz.prog 165 [vS l1, vS [45]] h_1 fun v_4 h_4 =>
 ∃ (l3 : Bs), v_4 = vS l3 ∧
 br (decide ((l3.length : Int) < 1))
 (Q (vT [vI 0, vB false]) h_4)
 (br (decide ((l3.length : Int) > 10))
 (Q (vT [vI 0, vB false]) h_4)
 (Tri Tryz.prog 51 [vS l3, vF 53 [] []] h_4 fun v_5 h_5 =>
 ∃ (c4 : Bool), v_5 = vB c4 ∧
 br (!c4)
 (Q (vT [vI 0, vB false]) h_5)
 (Tri Tryz.prog 164 [vS l1, vI 10, vI 64] h_5 fun v_6 h_6 =>
 ∃ (i2 : Int) (u2 : Value), v_6 = vT [vI i2, u2] ∧
 ∃ (c5 : Bool), PureRun Tryz.prog (execOp (rho [(59, u2)]) (mkO o141_13 4)) (vB c5) ∧
 Q (vT [vI i2, vB c5]) h_6))))
theorem T141 {l1 : Bs} {h : PHeap} {Q : Value → PHeap → Prop} (hR : R141 l1 h Q) : Tri Tryz.prog 141 [vS l1] h Q :=
 tri_of_dn mixed Tryz.func141 rfl (by kernel_rfl) low141 (rs := [.tmp 2, .tmp 3]) (by kernel_rfl) rfl (Eq.mpr (by kernel_rfl : dnF Tryz.prog Tryz.f141.ntmps d141 [.tmp 2, .tmp 3] [vS l1] h Q = R141 l1 h Q) hR)
noncomputable def d111 : DCode := up ⟨[(12, .c (.tup [(false, [qi]), (false, [.bool])]))], [], []⟩ (low Tryz.prog (fun _ => false) (Tryz.f111.body.getD .skip))
theorem low111 : low Tryz.prog (fun _ => false) (Tryz.f111.body.getD .skip) = some (eC d111) := by kernel_rfl
def R111 (l1 : Bs) (i1 : Int) (i2 : Int) (h : PHeap) (Q : Value → PHeap → Prop) : Prop :=
 Tri Tryz.prog 141 [vS l1] h fun v_1 h_1 =>
 ∃ (i3 : Int) (c1 : Bool), v_1 = vT [vI i3, vB c1] ∧
 br (!c1)
 (Q (vT [vI 0, vI 3]) h_1)
 (br (decide (i3 < i1))
 (Q (vT [vI 0, vI 2]) h_1)
 (br (decide (i3 > i2))
 (Q (vT [vI 0, vI 2]) h_1)
 (Q (vT [vI i3, vI 0]) h_1)))
theorem T111 {l1 : Bs} {i1 : Int} {i2 : Int} {h : PHeap} {Q : Value → PHeap → Prop} (hR : R111 l1 i1 i2 h Q) : Tri Tryz.prog 111 [vS l1, vI i1, vI i2] h Q :=
 tri_of_dn mixed Tryz.func111 rfl (by kernel_rfl) low111 (rs := [.tmp 6, .tmp 7]) (by kernel_rfl) rfl (Eq.mpr (by kernel_rfl : dnF Tryz.prog Tryz.f111.ntmps d111 [.tmp 6, .tmp 7] [vS l1, vI i1, vI i2] h Q = R111 l1 i1 i2 h Q) hR)
abbrev o164_2 : Op := .binOp .neq 152 (.tmp 16) (.const (.nilIface)) 152
noncomputable def d164 : DCode := up ⟨[(13, .c (.tup [(false, [qi]), (false, [.any])])), (17, .c (.one false [.bool])), (23, .c (.one false [.any]))], [], []⟩ (low Tryz.prog (fun _ => false) (Tryz.f164.body.getD .skip))
theorem low164 : low Tryz.prog (fun _ => false) (Tryz.f164.body.getD .skip) = some (eC d164) := by kernel_rfl
def R164pAQ (l1 : Bs) (h : PHeap) (Q : Value → PHeap → Prop) : Prop :=
 Tri Tryz.prog 179 [vS l1, vI 16, vI 64] h fun v_1 h_1 =>
 ∃ (i1 : Int) (u1 : Value), v_1 = vT [vI i1, u1] ∧
 ∃ (c1 : Bool), PureRun Tryz.prog (execOp (rho [(16, u1)]) (mkO o164_2 4)) (vB c1) ∧
 br c1
 (Tri Tryz.prog 180 [vS [80, 97, 114, 115, 101, 73, 110, 116], vS l1, vI 16, vI 64, u1] h_1 fun v_2 h_2 =>
 ∃ (u2 : Value), v_2 = u2 ∧
 Q (vT [vI i1, u2]) h_2)
 (Q (vT [vI i1, .nilIface]) h_1)
theorem T164pAQ {l1 : Bs} {h : PHeap} {Q : Value → PHeap → Prop} (hR : R164pAQ l1 h Q) : Tri Tryz.prog 164 [vS l1, vI 16, vI 64] h Q :=
 tri_of_dn mixed Tryz.func164 rfl (by kernel_rfl) low164 (rs := [.tmp 6, .tmp 7]) (by kernel_rfl) rfl (Eq.mpr (by kernel_rfl : dnF Tryz.prog Tryz.f164.ntmps d164 [.tmp 6, .tmp 7] [vS l1, vI 16, vI 64] h Q = R164pAQ l1 h Q) hR)
def R164pDQ (l1 : Bs) (h : PHeap) (Q : Value → PHeap → Prop) : Prop :=
 Tri Tryz.prog 179 [vS l1, vI 10, vI 64] h fun v_1 h_1 =>
 ∃ (i1 : Int) (u1 : Value), v_1 = vT [vI i1, u1] ∧
 ∃ (c1 : Bool), PureRun Tryz.prog (execOp (rho [(16, u1)]) (mkO o164_2 4)) (vB c1) ∧
 br c1
 (Tri Tryz.prog 180 [vS [80, 97, 114, 115, 101, 73, 110, 116], vS l1, vI 10, vI 64, u1] h_1 fun v_2 h_2 =>
 ∃ (u2 : Value), v_2 = u2 ∧
 Q (vT [vI i1, u2]) h_2)
 (Q (vT [vI i1, .nilIface]) h_1)
theorem T164pDQ {l1 : Bs} {h : PHeap} {Q : Value → PHeap → Prop} (hR : R164pDQ l1 h Q) : Tri Tryz.prog 164 [vS l1, vI 10, vI 64] h Q :=
 tri_of_dn mixed Tryz.func164 rfl (by kernel_rfl) low164 (rs := [.tmp 6, .tmp 7]) (by kernel_rfl) rfl (Eq.mpr (by kernel_rfl : dnF Tryz.prog Tryz.f164.ntmps d164 [.tmp 6, .tmp 7] [vS l1, vI 10, vI 64] h Q = R164pDQ l1 h Q) hR)
abbrev o179_0 : Op := .makeInterface 227 (.const (vI 2))
abbrev o179_5 : Op := .binOp .neq 152 (.tmp 32) (.const (.nilIface)) 152
abbrev o179_6 : Op := .makeInterface 227 (.const (vI 1))
abbrev o179_7 : Op := .binOp .neq 152 (.tmp 35) (.tmp 36) 152
abbrev o179_10 : Op := .binOp .shl 178 (.const (.int .u64 1)) (.tmp 44) 98
abbrev o179_14 : Op := .makeInterface 227 (.const (vI 1))
abbrev o179_17 : Op := .makeInterface 227 (.const (vI 1))
noncomputable def d179 : DCode := up ⟨[(14, .c (.one false [.any])), (29, .c (.tup [(false, [.int .u64]), (false, [.any])])), (33, .c (.one false [.bool])), (36, .c (.one false [.any])), (37, .c (.one false [.bool])), (45, .c (.one false [.int .u64])), (56, .c (.one false [.any])), (66, .c (.one false [.any]))], [], []⟩ (low Tryz.prog (fun _ => false) (Tryz.f179.body.getD .skip))
theorem low179 : low Tryz.prog (fun _ => false) (Tryz.f179.body.getD .skip) = some (eC d179) := by kernel_rfl
def R179pAQ (l1 : Bs) (h : PHeap) (Q : Value → PHeap → Prop) : Prop :=
 br (l1 == [])
 (∃ (u1 : Value), PureRun Tryz.prog (execOp (rho []) (mkO o179_0 152)) u1 ∧
 Q (vT [vI 0, u1]) h)
 (0 ≤ (0 : Int) ∧ ∃ (c1 : UInt8), (l1)[0]? = some c1 ∧
 br ((c1.toNat : Int) == 43)
 ((0 ≤ (1 : Int) ∧ (1 : Int) ≤ (l1.length : Int) ∧ (l1.length : Int) ≤ (l1.length : Int)) ∧
 Tri Tryz.prog 187 [vS ((l1.drop 1).take ((l1.length : Int).toNat - 1)), vI 16, vI 64] h fun v_1 h_1 =>
 ∃ (i1 : Int) (u2 : Value), v_1 = vT [.int .u64 i1, u2] ∧
 ∃ (c2 : Bool), PureRun Tryz.prog (execOp (rho [(32, u2)]) (mkO o179_5 4)) (vB c2) ∧
 br c2
 (∃ (u3 : Value), PureRun Tryz.prog (execOp (rho []) (mkO o179_6 152)) u3 ∧
 ∃ (c3 : Bool), PureRun Tryz.prog (execOp (rho [(35, u2), (36, u3)]) (mkO o179_7 4)) (vB c3) ∧
 br c3
 (Q (vT [vI 0, u2]) h_1)
 (∃ (i2 : Int), PureRun Tryz.prog (execOp (rho [(44, .int .u64 63)]) (mkO o179_10 178)) (.int .u64 i2) ∧
 br (decide (i1 ≥ i2))
 (∃ (u4 : Value), PureRun Tryz.prog (execOp (rho []) (mkO o179_14 152)) u4 ∧
 Q (vT [vI (IntKind.i64.wrap ((IntKind.u64.wrap (i2 - 1)))), u4]) h_1)
 (Q (vT [vI (IntKind.i64.wrap (i1)), .nilIface]) h_1)))
 (∃ (i3 : Int), PureRun Tryz.prog (execOp (rho [(44, .int .u64 63)]) (mkO o179_10 178)) (.int .u64 i3) ∧
 br (decide (i1 ≥ i3))
 (∃ (u5 : Value), PureRun Tryz.prog (execOp (rho []) (mkO o179_14 152)) u5 ∧
 Q (vT [vI (IntKind.i64.wrap ((IntKind.u64.wrap (i3 - 1)))), u5]) h_1)
 (Q (vT [vI (IntKind.i64.wrap (i1)), .nilIface]) h_1)))
 (br ((c1.toNat : Int) == 45)
 ((0 ≤ (1 : Int) ∧ (1 : Int) ≤ (l1.length : Int) ∧ (l1.length : Int) ≤ (l1.length : Int)) ∧
 Tri Tryz.prog 187 [vS ((l1.drop 1).take ((l1.length : Int).toNat - 1)), vI 16, vI 64] h fun v_2 h_2 =>
 ∃ (i4 : Int) (u6 : Value), v_2 = vT [.int .u64 i4, u6] ∧
 ∃ (c4 : Bool), PureRun Tryz.prog (execOp (rho [(32, u6)]) (mkO o179_5 4)) (vB c4) ∧
 br c4
 (∃ (u7 : Value), PureRun Tryz.prog (execOp (rho []) (mkO o179_6 152)) u7 ∧
 ∃ (c5 : Bool), PureRun Tryz.prog (execOp (rho [(35, u6), (36, u7)]) (mkO o179_7 4)) (vB c5) ∧
 br c5
 (Q (vT [vI 0, u6]) h_2)
 (∃ (i5 : Int), PureRun Tryz.prog (execOp (rho [(44, .int .u64 63)]) (mkO o179_10 178)) (.int .u64 i5) ∧
 br (decide (i4 > i5))
 (∃ (u8 : Value), PureRun Tryz.prog (execOp (rho []) (mkO o179_17 152)) u8 ∧
 Q (vT [vI (IntKind.i64.wrap (0 - (IntKind.i64.wrap (i5)))), u8]) h_2)
 (Q (vT [vI (IntKind.i64.wrap (0 - (IntKind.i64.wrap (i4)))), .nilIface]) h_2)))
 (∃ (i6 : Int), PureRun Tryz.prog (execOp (rho [(44, .int .u64 63)]) (mkO o179_10 178)) (.int .u64 i6) ∧
 br (decide (i4 > i6))
 (∃ (u9 : Value), PureRun Tryz.prog (execOp (rho []) (mkO o179_17 152)) u9 ∧
 Q (vT [vI (IntKind.i64.wrap (0 - (IntKind.i64.wrap (i6)))), u9]) h_2)
 (Q (vT [vI (IntKind.i64.wrap (0 - (IntKind.i64.wrap (i4)))), .nilIface]) h_2)))
 (Tri Tryz.prog 187 [vS l1, vI 16, vI 64] h fun v_3 h_3 =>
 ∃ (i7 : Int) (u10 : Value), v_3 = vT [.int .u64 i7, u10] ∧
 ∃ (c6 : Bool), PureRun Tryz.prog (execOp (rho [(32, u10)]) (mkO o179_5 4)) (vB c6) ∧
 br c6
 (∃ (u11 : Value), PureRun Tryz.prog (execOp (rho []) (mkO o179_6 152)) u11 ∧
 ∃ (c7 : Bool), PureRun Tryz.prog (execOp (rho [(35, u10), (36, u11)]) (mkO o179_7 4)) (vB c7) ∧
 br c7
 (Q (vT [vI 0, u10]) h_3)
 (∃ (i8 : Int), PureRun Tryz.prog (execOp (rho [(44, .int .u64 63)]) (mkO o179_10 178)) (.int .u64 i8) ∧
 br (decide (i7 ≥ i8))
 (∃ (u12 : Value), PureRun Tryz.prog (execOp (rho []) (mkO o179_14 152)) u12 ∧
 Q (vT [vI (IntKind.i64.wrap ((IntKind.u64.wrap (i8 - 1)))), u12]) h_3)
 (Q (vT [vI (IntKind.i64.wrap (i7)), .nilIface]) h_3)))
 (∃ (i9 : Int), PureRun Tryz.prog (execOp (rho [(44, .int .u64 63)]) (mkO o179_10 178)) (.int .u64 i9) ∧
 br (decide (i7 ≥ i9))
 (∃ (u13 : Value), PureRun Tryz.prog (execOp (rho []) (mkO o179_14 152)) u13 ∧
 Q (vT [vI (IntKind.i64.wrap ((IntKind.u64.wrap (i9 - 1)))), u13]) h_3)
 (Q (vT [vI (IntKind.i64.wrap (i7)), .nilIface]) h_3)))))
theorem T179pAQ {l1 : Bs} {h : PHeap} {Q : Value → PHeap → Prop} (hR : R179pAQ l1 h Q) : Tri Tryz.prog 179 [vS l1, vI 16, vI 64] h Q :=
 tri_of_dn mixed Tryz.func179 rfl (by kernel_rfl) low179 (rs := [.tmp 6, .tmp 7]) (by kernel_rfl) rfl (Eq.mpr (by kernel_rfl : dnF Tryz.prog Tryz.f179.ntmps d179 [.tmp 6, .tmp 7] [vS l1, vI 16, vI 64] h Q = R179pAQ l1 h Q) hR)
def R179pDQ (l1 : Bs) (h : PHeap) (Q : Value → PHeap → Prop) : Prop :=
 br (l1 == [])
 (∃ (u1 : Value), PureRun Tryz.prog (execOp (rho []) (mkO o179_0 152)) u1 ∧
 Q (vT [vI 0, u1]) h)
 (0 ≤ (0 : Int) ∧ ∃ (c1 : UInt8), (l1)[0]? = some c1 ∧
 br ((c1.toNat : Int) == 43)
 ((0 ≤ (1 : Int) ∧ (1 : Int) ≤ (l1.length : Int) ∧ (l1.length : Int) ≤ (l1.length : Int)) ∧
 Tri Tryz.prog 187 [vS ((l1.drop 1).take ((l1.length : Int).toNat - 1)), vI 10, vI 64] h fun v_1 h_1 =>
 ∃ (i1 : Int) (u2 : Value), v_1 = vT [.int .u64 i1, u2] ∧
 ∃ (c2 : Bool), PureRun Tryz.prog (execOp (rho [(32, u2)]) (mkO o179_5 4)) (vB c2) ∧
 br c2
 (∃ (u3 : Value), PureRun Tryz.prog (execOp (rho []) (mkO o179_6 152)) u3 ∧
 ∃ (c3 : Bool), PureRun Tryz.prog (execOp (rho [(35, u2), (36, u3)]) (mkO o179_7 4)) (vB c3) ∧
 br c3
 (Q (vT [vI 0, u2]) h_1)
 (∃ (i2 : Int), PureRun Tryz.prog (execOp (rho [(44, .int .u64 63)]) (mkO o179_10 178)) (.int .u64 i2) ∧
 br (decide (i1 ≥ i2))
 (∃ (u4 : Value), PureRun Tryz.prog (execOp (rho []) (mkO o179_14 152)) u4 ∧
 Q (vT [vI (IntKind.i64.wrap ((IntKind.u64.wrap (i2 - 1)))), u4]) h_1)
 (Q (vT [vI (IntKind.i64.wrap (i1)), .nilIface]) h_1)))
 (∃ (i3 : Int), PureRun Tryz.prog (execOp (rho [(44, .int .u64 63)]) (mkO o179_10 178)) (.int .u64 i3) ∧
 br (decide (i1 ≥ i3))
 (∃ (u5 : Value), PureRun Tryz.prog (execOp (rho []) (mkO o179_14 152)) u5 ∧
 Q (vT [vI (IntKind.i64.wrap ((IntKind.u64.wrap (i3 - 1)))), u5]) h_1)
 (Q (vT [vI (IntKind.i64.wrap (i1)), .nilIface]) h_1)))
 (br ((c1.toNat : Int) == 45)
 ((0 ≤ (1 : Int) ∧ (1 : Int) ≤ (l1.length : Int) ∧ (l1.length : Int) ≤ (l1.length : Int)) ∧
 Tri Tryz.prog 187 [vS ((l1.drop 1).take ((l1.length : Int).toNat - 1)), vI 10, vI 64] h fun v_2 h_2 =>
 ∃ (i4 : Int) (u6 : Value), v_2 = vT [.int .u64 i4, u6] ∧
 ∃ (c4 : Bool), PureRun Tryz.prog (execOp (rho [(32, u6)]) (mkO o179_5 4)) (vB c4) ∧
 br c4
 (∃ (u7 : Value), PureRun Tryz.prog (execOp (rho []) (mkO o179_6 152)) u7 ∧
 ∃ (c5 : Bool), PureRun Tryz.prog (execOp (rho [(35, u6), (36, u7)]) (mkO o179_7 4)) (vB c5) ∧
 br c5
 (Q (vT [vI 0, u6]) h_2)
 (∃ (i5 : Int), PureRun Tryz.prog (execOp (rho [(44, .int .u64 63)]) (mkO o179_10 178)) (.int .u64 i5) ∧
 br (decide (i4 > i5))
 (∃ (u8 : Value), PureRun Tryz.prog (execOp (rho []) (mkO o179_17 152)) u8 ∧
 Q (vT [vI (IntKind.i64.wrap (0 - (IntKind.i64.wrap (i5)))), u8]) h_2)
 (Q (vT [vI (IntKind.i64.wrap (0 - (IntKind.i64.wrap (i4)))), .nilIface]) h_2)))
 (∃ (i6 : Int), PureRun Tryz.prog (execOp (rho [(44, .int .u64 63)]) (mkO o179_10 178)) (.int .u64 i6) ∧
 br (decide (i4 > i6))
 (∃ (u9 : Value), PureRun Tryz.prog (execOp (rho []) (mkO o179_17 152)) u9 ∧
 Q (vT [vI (IntKind.i64.wrap (0 - (IntKind.i64.wrap (i6)))), u9]) h_2)
 (Q (vT [vI (IntKind.i64.wrap (0 - (IntKind.i64.wrap (i4)))), .nilIface]) h_2)))
 (Tri Tryz.prog 187 [vS l1, vI 10, vI 64] h fun v_3 h_3 =>
 ∃ (i7 : Int) (u10 : Value), v_3 = vT [.int .u64 i7, u10] ∧
 ∃ (c6 : Bool), PureRun Tryz.prog (execOp (rho [(32, u10)]) (mkO o179_5 4)) (vB c6) ∧
 br c6
 (∃ (u11 : Value), PureRun Tryz.prog (execOp (rho []) (mkO o179_6 152)) u11 ∧
 ∃ (c7 : Bool), PureRun Tryz.prog (execOp (rho [(35, u10), (36, u11)]) (mkO o179_7 4)) (vB c7) ∧
 br c7
 (Q (vT [vI 0, u10]) h_3)
 (∃ (i8 : Int), PureRun Tryz.prog (execOp (rho [(44, .int .u64 63)]) (mkO o179_10 178)) (.int .u64 i8) ∧
 br (decide (i7 ≥ i8))
 (∃ (u12 : Value), PureRun Tryz.prog (execOp (rho []) (mkO o179_14 152)) u12 ∧
 Q (vT [vI (IntKind.i64.wrap ((IntKind.u64.wrap (i8 - 1)))), u12]) h_3)
 (Q (vT [vI (IntKind.i64.wrap (i7)), .nilIface]) h_3)))
 (∃ (i9 : Int), PureRun Tryz.prog (execOp (rho [(44, .int .u64 63)]) (mkO o179_10 178)) (.int .u64 i9) ∧
 br (decide (i7 ≥ i9))
 (∃ (u13 : Value), PureRun Tryz.prog (execOp (rho []) (mkO o179_14 152)) u13 ∧
 Q (vT [vI (IntKind.i64.wrap ((IntKind.u64.wrap (i9 - 1)))), u13]) h_3)
 (Q (vT [vI (IntKind.i64.wrap (i7)), .nilIface]) h_3)))))
theorem T179pDQ {l1 : Bs} {h : PHeap} {Q : Value → PHeap → Prop} (hR : R179pDQ l1 h Q) : Tri Tryz.prog 179 [vS l1, vI 10, vI 64] h Q :=
 tri_of_dn mixed Tryz.func179 rfl (by kernel_rfl) low179 (rs := [.tmp 6, .tmp 7]) (by kernel_rfl) rfl (Eq.mpr (by kernel_rfl : dnF Tryz.prog Tryz.f179.ntmps d179 [.tmp 6, .tmp 7] [vS l1, vI 10, vI 64] h Q = R179pDQ l1 h Q) hR)
abbrev o187_0 : Op := .makeInterface 227 (.const (vI 2))
abbrev o187_21 : Op := .binOp .shl 178 (.const (.int .u64 1)) (.tmp 95) 98
abbrev o187_23 : Op := .convert 9 40 (.tmp 98)
abbrev o187_33 : Op := .makeInterface 227 (.const (vI 2))
abbrev o187_35 : Op := .makeInterface 227 (.const (vI 2))
abbrev o187_37 : Op := .makeInterface 227 (.const (vI 1))
abbrev o187_42 : Op := .makeInterface 227 (.const (vI 1))
abbrev o187_45 : Op := .makeInterface 227 (.const (vI 2))
noncomputable def d187 : DCode := up ⟨[(20, .c (.one false [.any])), (47, .c (.one false [.int .u8])), (59, .c (.one false [.int .u8])), (71, .c (.one false [.int .u8])), (24, .c (.one false [.any])), (84, .c (.one false [.any])), (88, .c (.one false [.int .u64])), (96, .c (.one false [.int .u64])), (99, .c (.one false [.slice])), (104, .l [.int .u8]), (123, .c (.one false [.int .u8])), (127, .c (.one false [.int .u8])), (131, .c (.one false [.int .u8])), (105, .c (.one false [.any])), (138, .c (.one false [.any])), (143, .c (.one false [.any])), (161, .c (.one false [.any])), (167, .c (.one false [.bool])), (170, .c (.one false [.any]))], [], [(102, 70, [(12, .bool), (13, .int .u64), (101, qi)], [])]⟩ (low Tryz.prog (fun _ => false) (Tryz.f187.body.getD .skip))
theorem low187 : low Tryz.prog (fun _ => false) (Tryz.f187.body.getD .skip) = some (eC d187) := by kernel_rfl
def R187pAQ (l1 : Bs) (h : PHeap) (Q : Value → PHeap → Prop) : Prop :=
 br (l1 == [])
 (∃ (u1 : Value), PureRun Tryz.prog (execOp (rho []) (mkO o187_0 152)) u1 ∧
 Q (vT [.int .u64 0, u1]) h)
 (∃ (i1 : Int), PureRun Tryz.prog (execOp (rho [(95, .int .u64 64)]) (mkO o187_21 178)) (.int .u64 i1) ∧
 Raw Tryz.prog (execOp (rho [(98, vS l1)]) (mkO o187_23 40)) h fun v_1 h_1 =>
 ∃ (a1 : OA) (n1 k1 : Nat), v_1 = vL a1 n1 k1 ∧
 ∃ (I_1 : Nat → Bool → Int → Int → PHeap → Prop), (∃ (m2 : Nat), I_1 m2 false (0 : Int) (0 : Int) h_1) ∧
 ∀ (m1 : Nat) (c1 : Bool) (i2 : Int) (i3 : Int) (h_2 : PHeap), I_1 m1 c1 i2 i3 h_2 →
 br (decide (i3 < ((n1 : Nat) : Int)))
 (∃ (b1 o1 : Nat), a1 = some ⟨b1, o1, none⟩ ∧ (0 ≤ i3 ∧ i3 < n1) ∧
 ∃ (i4 : Int), h_2.cell b1 (o1 + (i3).toNat * 1) = some (vU i4) ∧
 br (i4 == 95)
 (br (decide (48 ≤ i4))
 (br (decide (i4 ≤ 57))
 (br (decide ((IntKind.u8.wrap (i4 - 48)) ≥ 16))
 (∃ (u2 : Value), PureRun Tryz.prog (execOp (rho []) (mkO o187_35 152)) u2 ∧
 Q (vT [.int .u64 0, u2]) h_2)
 (br (decide (i2 ≥ 1152921504606846976))
 (∃ (u3 : Value), PureRun Tryz.prog (execOp (rho []) (mkO o187_37 152)) u3 ∧
 Q (vT [.int .u64 (IntKind.u64.wrap (i1 - 1)), u3]) h_2)
 (br (decide ((IntKind.u64.wrap ((IntKind.u64.wrap (i2 * 16)) + (IntKind.u64.wrap ((IntKind.u8.wrap (i4 - 48)))))) < (IntKind.u64.wrap (i2 * 16))))
 (∃ (u4 : Value), PureRun Tryz.prog (execOp (rho []) (mkO o187_42 152)) u4 ∧
 Q (vT [.int .u64 (IntKind.u64.wrap (i1 - 1)), u4]) h_2)
 (br (decide ((IntKind.u64.wrap ((IntKind.u64.wrap (i2 * 16)) + (IntKind.u64.wrap ((IntKind.u8.wrap (i4 - 48)))))) > (IntKind.u64.wrap (i1 - 1))))
 (∃ (u5 : Value), PureRun Tryz.prog (execOp (rho []) (mkO o187_42 152)) u5 ∧
 Q (vT [.int .u64 (IntKind.u64.wrap (i1 - 1)), u5]) h_2)
 (∃ (m3 : Nat), m3 < m1 ∧ I_1 m3 c1 (IntKind.u64.wrap ((IntKind.u64.wrap (i2 * 16)) + (IntKind.u64.wrap ((IntKind.u8.wrap (i4 - 48)))))) (IntKind.i64.wrap (i3 + 1)) h_2 ∧
 True)))))
 (Tri Tryz.prog 192 [vU i4] h_2 fun v_2 h_3 =>
 ∃ (i5 : Int), v_2 = vU i5 ∧
 br (decide (97 ≤ i5))
 (Tri Tryz.prog 192 [vU i4] h_3 fun v_3 h_4 =>
 ∃ (i6 : Int), v_3 = vU i6 ∧
 br (decide (i6 ≤ 122))
 (Tri Tryz.prog 192 [vU i4] h_4 fun v_4 h_5 =>
 ∃ (i7 : Int), v_4 = vU i7 ∧
 br (decide ((IntKind.u8.wrap ((IntKind.u8.wrap (i7 - 97)) + 10)) ≥ 16))
 (∃ (u6 : Value), PureRun Tryz.prog (execOp (rho []) (mkO o187_35 152)) u6 ∧
 Q (vT [.int .u64 0, u6]) h_5)
 (br (decide (i2 ≥ 1152921504606846976))
 (∃ (u7 : Value), PureRun Tryz.prog (execOp (rho []) (mkO o187_37 152)) u7 ∧
 Q (vT [.int .u64 (IntKind.u64.wrap (i1 - 1)), u7]) h_5)
 (br (decide ((IntKind.u64.wrap ((IntKind.u64.wrap (i2 * 16)) + (IntKind.u64.wrap ((IntKind.u8.wrap ((IntKind.u8.wrap (i7 - 97)) + 10)))))) < (IntKind.u64.wrap (i2 * 16))))
 (∃ (u8 : Value), PureRun Tryz.prog (execOp (rho []) (mkO o187_42 152)) u8 ∧
 Q (vT [.int .u64 (IntKind.u64.wrap (i1 - 1)), u8]) h_5)
 (br (decide ((IntKind.u64.wrap ((IntKind.u64.wrap (i2 * 16)) + (IntKind.u64.wrap ((IntKind.u8.wrap ((IntKind.u8.wrap (i7 - 97)) + 10)))))) > (IntKind.u64.wrap (i1 - 1))))
 (∃ (u9 : Value), PureRun Tryz.prog (execOp (rho []) (mkO o187_42 152)) u9 ∧
 Q (vT [.int .u64 (IntKind.u64.wrap (i1 - 1)), u9]) h_5)
 (∃ (m4 : Nat), m4 < m1 ∧ I_1 m4 c1 (IntKind.u64.wrap ((IntKind.u64.wrap (i2 * 16)) + (IntKind.u64.wrap ((IntKind.u8.wrap ((IntKind.u8.wrap (i7 - 97)) + 10)))))) (IntKind.i64.wrap (i3 + 1)) h_5 ∧
 True)))))
 (∃ (u10 : Value), PureRun Tryz.prog (execOp (rho []) (mkO o187_33 152)) u10 ∧
 Q (vT [.int .u64 0, u10]) h_4))
 (∃ (u11 : Value), PureRun Tryz.prog (execOp (rho []) (mkO o187_33 152)) u11 ∧
 Q (vT [.int .u64 0, u11]) h_3)))
 (Tri Tryz.prog 192 [vU i4] h_2 fun v_5 h_6 =>
 ∃ (i8 : Int), v_5 = vU i8 ∧
 br (decide (97 ≤ i8))
 (Tri Tryz.prog 192 [vU i4] h_6 fun v_6 h_7 =>
 ∃ (i9 : Int), v_6 = vU i9 ∧
 br (decide (i9 ≤ 122))
 (Tri Tryz.prog 192 [vU i4] h_7 fun v_7 h_8 =>
 ∃ (i10 : Int), v_7 = vU i10 ∧
 br (decide ((IntKind.u8.wrap ((IntKind.u8.wrap (i10 - 97)) + 10)) ≥ 16))
 (∃ (u12 : Value), PureRun Tryz.prog (execOp (rho []) (mkO o187_35 152)) u12 ∧
 Q (vT [.int .u64 0, u12]) h_8)
 (br (decide (i2 ≥ 1152921504606846976))
 (∃ (u13 : Value), PureRun Tryz.prog (execOp (rho []) (mkO o187_37 152)) u13 ∧
 Q (vT [.int .u64 (IntKind.u64.wrap (i1 - 1)), u13]) h_8)
 (br (decide ((IntKind.u64.wrap ((IntKind.u64.wrap (i2 * 16)) + (IntKind.u64.wrap ((IntKind.u8.wrap ((IntKind.u8.wrap (i10 - 97)) + 10)))))) < (IntKind.u64.wrap (i2 * 16))))
 (∃ (u14 : Value), PureRun Tryz.prog (execOp (rho []) (mkO o187_42 152)) u14 ∧
 Q (vT [.int .u64 (IntKind.u64.wrap (i1 - 1)), u14]) h_8)
 (br (decide ((IntKind.u64.wrap ((IntKind.u64.wrap (i2 * 16)) + (IntKind.u64.wrap ((IntKind.u8.wrap ((IntKind.u8.wrap (i10 - 97)) + 10)))))) > (IntKind.u64.wrap (i1 - 1))))
 (∃ (u15 : Value), PureRun Tryz.prog (execOp (rho []) (mkO o187_42 152)) u15 ∧
 Q (vT [.int .u64 (IntKind.u64.wrap (i1 - 1)), u15]) h_8)
 (∃ (m5 : Nat), m5 < m1 ∧ I_1 m5 c1 (IntKind.u64.wrap ((IntKind.u64.wrap (i2 * 16)) + (IntKind.u64.wrap ((IntKind.u8.wrap ((IntKind.u8.wrap (i10 - 97)) + 10)))))) (IntKind.i64.wrap (i3 + 1)) h_8 ∧
 True)))))
 (∃ (u16 : Value), PureRun Tryz.prog (execOp (rho []) (mkO o187_33 152)) u16 ∧
 Q (vT [.int .u64 0, u16]) h_7))
 (∃ (u17 : Value), PureRun Tryz.prog (execOp (rho []) (mkO o187_33 152)) u17 ∧
 Q (vT [.int .u64 0, u17]) h_6)))
 (br (decide (48 ≤ i4))
 (br (decide (i4 ≤ 57))
 (br (decide ((IntKind.u8.wrap (i4 - 48)) ≥ 16))
 (∃ (u18 : Value), PureRun Tryz.prog (execOp (rho []) (mkO o187_35 152)) u18 ∧
 Q (vT [.int .u64 0, u18]) h_2)
 (br (decide (i2 ≥ 1152921504606846976))
 (∃ (u19 : Value), PureRun Tryz.prog (execOp (rho []) (mkO o187_37 152)) u19 ∧
 Q (vT [.int .u64 (IntKind.u64.wrap (i1 - 1)), u19]) h_2)
 (br (decide ((IntKind.u64.wrap ((IntKind.u64.wrap (i2 * 16)) + (IntKind.u64.wrap ((IntKind.u8.wrap (i4 - 48)))))) < (IntKind.u64.wrap (i2 * 16))))
 (∃ (u20 : Value), PureRun Tryz.prog (execOp (rho []) (mkO o187_42 152)) u20 ∧
 Q (vT [.int .u64 (IntKind.u64.wrap (i1 - 1)), u20]) h_2)
 (br (decide ((IntKind.u64.wrap ((IntKind.u64.wrap (i2 * 16)) + (IntKind.u64.wrap ((IntKind.u8.wrap (i4 - 48)))))) > (IntKind.u64.wrap (i1 - 1))))
 (∃ (u21 : Value), PureRun Tryz.prog (execOp (rho []) (mkO o187_42 152)) u21 ∧
 Q (vT [.int .u64 (IntKind.u64.wrap (i1 - 1)), u21]) h_2)
 (∃ (m6 : Nat), m6 < m1 ∧ I_1 m6 c1 (IntKind.u64.wrap ((IntKind.u64.wrap (i2 * 16)) + (IntKind.u64.wrap ((IntKind.u8.wrap (i4 - 48)))))) (IntKind.i64.wrap (i3 + 1)) h_2 ∧
 True)))))
 (Tri Tryz.prog 192 [vU i4] h_2 fun v_8 h_9 =>
 ∃ (i11 : Int), v_8 = vU i11 ∧
 br (decide (97 ≤ i11))
 (Tri Tryz.prog 192 [vU i4] h_9 fun v_9 h_10 =>
 ∃ (i12 : Int), v_9 = vU i12 ∧
 br (decide (i12 ≤ 122))
 (Tri Tryz.prog 192 [vU i4] h_10 fun v_10 h_11 =>
 ∃ (i13 : Int), v_10 = vU i13 ∧
 br (decide ((IntKind.u8.wrap ((IntKind.u8.wrap (i13 - 97)) + 10)) ≥ 16))
 (∃ (u22 : Value), PureRun Tryz.prog (execOp (rho []) (mkO o187_35 152)) u22 ∧
 Q (vT [.int .u64 0, u22]) h_11)
 (br (decide (i2 ≥ 1152921504606846976))
 (∃ (u23 : Value), PureRun Tryz.prog (execOp (rho []) (mkO o187_37 152)) u23 ∧
 Q (vT [.int .u64 (IntKind.u64.wrap (i1 - 1)), u23]) h_11)
 (br (decide ((IntKind.u64.wrap ((IntKind.u64.wrap (i2 * 16)) + (IntKind.u64.wrap ((IntKind.u8.wrap ((IntKind.u8.wrap (i13 - 97)) + 10)))))) < (IntKind.u64.wrap (i2 * 16))))
 (∃ (u24 : Value), PureRun Tryz.prog (execOp (rho []) (mkO o187_42 152)) u24 ∧
 Q (vT [.int .u64 (IntKind.u64.wrap (i1 - 1)), u24]) h_11)
 (br (decide ((IntKind.u64.wrap ((IntKind.u64.wrap (i2 * 16)) + (IntKind.u64.wrap ((IntKind.u8.wrap ((IntKind.u8.wrap (i13 - 97)) + 10)))))) > (IntKind.u64.wrap (i1 - 1))))
 (∃ (u25 : Value), PureRun Tryz.prog (execOp (rho []) (mkO o187_42 152)) u25 ∧
 Q (vT [.int .u64 (IntKind.u64.wrap (i1 - 1)), u25]) h_11)
 (∃ (m7 : Nat), m7 < m1 ∧ I_1 m7 c1 (IntKind.u64.wrap ((IntKind.u64.wrap (i2 * 16)) + (IntKind.u64.wrap ((IntKind.u8.wrap ((IntKind.u8.wrap (i13 - 97)) + 10)))))) (IntKind.i64.wrap (i3 + 1)) h_11 ∧
 True)))))
 (∃ (u26 : Value), PureRun Tryz.prog (execOp (rho []) (mkO o187_33 152)) u26 ∧
 Q (vT [.int .u64 0, u26]) h_10))
 (∃ (u27 : Value), PureRun Tryz.prog (execOp (rho []) (mkO o187_33 152)) u27 ∧
 Q (vT [.int .u64 0, u27]) h_9)))
 (Tri Tryz.prog 192 [vU i4] h_2 fun v_11 h_12 =>
 ∃ (i14 : Int), v_11 = vU i14 ∧
 br (decide (97 ≤ i14))
 (Tri Tryz.prog 192 [vU i4] h_12 fun v_12 h_13 =>
 ∃ (i15 : Int), v_12 = vU i15 ∧
 br (decide (i15 ≤ 122))
 (Tri Tryz.prog 192 [vU i4] h_13 fun v_13 h_14 =>
 ∃ (i16 : Int), v_13 = vU i16 ∧
 br (decide ((IntKind.u8.wrap ((IntKind.u8.wrap (i16 - 97)) + 10)) ≥ 16))
 (∃ (u28 : Value), PureRun Tryz.prog (execOp (rho []) (mkO o187_35 152)) u28 ∧
 Q (vT [.int .u64 0, u28]) h_14)
 (br (decide (i2 ≥ 1152921504606846976))
 (∃ (u29 : Value), PureRun Tryz.prog (execOp (rho []) (mkO o187_37 152)) u29 ∧
 Q (vT [.int .u64 (IntKind.u64.wrap (i1 - 1)), u29]) h_14)
 (br (decide ((IntKind.u64.wrap ((IntKind.u64.wrap (i2 * 16)) + (IntKind.u64.wrap ((IntKind.u8.wrap ((IntKind.u8.wrap (i16 - 97)) + 10)))))) < (IntKind.u64.wrap (i2 * 16))))
 (∃ (u30 : Value), PureRun Tryz.prog (execOp (rho []) (mkO o187_42 152)) u30 ∧
 Q (vT [.int .u64 (IntKind.u64.wrap (i1 - 1)), u30]) h_14)
 (br (decide ((IntKind.u64.wrap ((IntKind.u64.wrap (i2 * 16)) + (IntKind.u64.wrap ((IntKind.u8.wrap ((IntKind.u8.wrap (i16 - 97)) + 10)))))) > (IntKind.u64.wrap (i1 - 1))))
 (∃ (u31 : Value), PureRun Tryz.prog (execOp (rho []) (mkO o187_42 152)) u31 ∧
 Q (vT [.int .u64 (IntKind.u64.wrap (i1 - 1)), u31]) h_14)
 (∃ (m8 : Nat), m8 < m1 ∧ I_1 m8 c1 (IntKind.u64.wrap ((IntKind.u64.wrap (i2 * 16)) + (IntKind.u64.wrap ((IntKind.u8.wrap ((IntKind.u8.wrap (i16 - 97)) + 10)))))) (IntKind.i64.wrap (i3 + 1)) h_14 ∧
 True)))))
 (∃ (u32 : Value), PureRun Tryz.prog (execOp (rho []) (mkO o187_33 152)) u32 ∧
 Q (vT [.int .u64 0, u32]) h_13))
 (∃ (u33 : Value), PureRun Tryz.prog (execOp (rho []) (mkO o187_33 152)) u33 ∧
 Q (vT [.int .u64 0, u33]) h_12))))
 (br c1
 (Tri Tryz.prog 193 [vS l1] h_2 fun v_14 h_15 =>
 ∃ (c2 : Bool), v_14 = vB c2 ∧
 br (!c2)
 (∃ (u34 : Value), PureRun Tryz.prog (execOp (rho []) (mkO o187_45 152)) u34 ∧
 Q (vT [.int .u64 0, u34]) h_15)
 (Q (vT [.int .u64 i2, .nilIface]) h_15))
 (Q (vT [.int .u64 i2, .nilIface]) h_2)))
theorem T187pAQ {l1 : Bs} {h : PHeap} {Q : Value → PHeap → Prop} (hR : R187pAQ l1 h Q) : Tri Tryz.prog 187 [vS l1, vI 16, vI 64] h Q :=
 tri_of_dn mixed Tryz.func187 rfl (by kernel_rfl) low187 (rs := [.tmp 6, .tmp 7]) (by kernel_rfl) rfl (Eq.mpr (by kernel_rfl : dnF Tryz.prog Tryz.f187.ntmps d187 [.tmp 6, .tmp 7] [vS l1, vI 16, vI 64] h Q = R187pAQ l1 h Q) hR)
def R187pDQ (l1 : Bs) (h : PHeap) (Q : Value → PHeap → Prop) : Prop :=
 br (l1 == [])
 (∃ (u1 : Value), PureRun Tryz.prog (execOp (rho []) (mkO o187_0 152)) u1 ∧
 Q (vT [.int .u64 0, u1]) h)
 (∃ (i1 : Int), PureRun Tryz.prog (execOp (rho [(95, .int .u64 64)]) (mkO o187_21 178)) (.int .u64 i1) ∧
 Raw Tryz.prog (execOp (rho [(98, vS l1)]) (mkO o187_23 40)) h fun v_1 h_1 =>
 ∃ (a1 : OA) (n1 k1 : Nat), v_1 = vL a1 n1 k1 ∧
 ∃ (I_1 : Nat → Bool → Int → Int → PHeap → Prop), (∃ (m2 : Nat), I_1 m2 false (0 : Int) (0 : Int) h_1) ∧
 ∀ (m1 : Nat) (c1 : Bool) (i2 : Int) (i3 : Int) (h_2 : PHeap), I_1 m1 c1 i2 i3 h_2 →
 br (decide (i3 < ((n1 : Nat) : Int)))
 (∃ (b1 o1 : Nat), a1 = some ⟨b1, o1, none⟩ ∧ (0 ≤ i3 ∧ i3 < n1) ∧
 ∃ (i4 : Int), h_2.cell b1 (o1 + (i3).toNat * 1) = some (vU i4) ∧
 br (i4 == 95)
 (br (decide (48 ≤ i4))
 (br (decide (i4 ≤ 57))
 (br (decide ((IntKind.u8.wrap (i4 - 48)) ≥ 10))
 (∃ (u2 : Value), PureRun Tryz.prog (execOp (rho []) (mkO o187_35 152)) u2 ∧
 Q (vT [.int .u64 0, u2]) h_2)
 (br (decide (i2 ≥ 1844674407370955162))
 (∃ (u3 : Value), PureRun Tryz.prog (execOp (rho []) (mkO o187_37 152)) u3 ∧
 Q (vT [.int .u64 (IntKind.u64.wrap (i1 - 1)), u3]) h_2)
 (br (decide ((IntKind.u64.wrap ((IntKind.u64.wrap (i2 * 10)) + (IntKind.u64.wrap ((IntKind.u8.wrap (i4 - 48)))))) < (IntKind.u64.wrap (i2 * 10))))
 (∃ (u4 : Value), PureRun Tryz.prog (execOp (rho []) (mkO o187_42 152)) u4 ∧
 Q (vT [.int .u64 (IntKind.u64.wrap (i1 - 1)), u4]) h_2)
 (br (decide ((IntKind.u64.wrap ((IntKind.u64.wrap (i2 * 10)) + (IntKind.u64.wrap ((IntKind.u8.wrap (i4 - 48)))))) > (IntKind.u64.wrap (i1 - 1))))
 (∃ (u5 : Value), PureRun Tryz.prog (execOp (rho []) (mkO o187_42 152)) u5 ∧
 Q (vT [.int .u64 (IntKind.u64.wrap (i1 - 1)), u5]) h_2)
 (∃ (m3 : Nat), m3 < m1 ∧ I_1 m3 c1 (IntKind.u64.wrap ((IntKind.u64.wrap (i2 * 10)) + (IntKind.u64.wrap ((IntKind.u8.wrap (i4 - 48)))))) (IntKind.i64.wrap (i3 + 1)) h_2 ∧
 True)))))
 (Tri Tryz.prog 192 [vU i4] h_2 fun v_2 h_3 =>
 ∃ (i5 : Int), v_2 = vU i5 ∧
 br (decide (97 ≤ i5))
 (Tri Tryz.prog 192 [vU i4] h_3 fun v_3 h_4 =>
 ∃ (i6 : Int), v_3 = vU i6 ∧
 br (decide (i6 ≤ 122))
 (Tri Tryz.prog 192 [vU i4] h_4 fun v_4 h_5 =>
 ∃ (i7 : Int), v_4 = vU i7 ∧
 br (decide ((IntKind.u8.wrap ((IntKind.u8.wrap (i7 - 97)) + 10)) ≥ 10))
 (∃ (u6 : Value), PureRun Tryz.prog (execOp (rho []) (mkO o187_35 152)) u6 ∧
 Q (vT [.int .u64 0, u6]) h_5)
 (br (decide (i2 ≥ 1844674407370955162))
 (∃ (u7 : Value), PureRun Tryz.prog (execOp (rho []) (mkO o187_37 152)) u7 ∧
 Q (vT [.int .u64 (IntKind.u64.wrap (i1 - 1)), u7]) h_5)
 (br (decide ((IntKind.u64.wrap ((IntKind.u64.wrap (i2 * 10)) + (IntKind.u64.wrap ((IntKind.u8.wrap ((IntKind.u8.wrap (i7 - 97)) + 10)))))) < (IntKind.u64.wrap (i2 * 10))))
 (∃ (u8 : Value), PureRun Tryz.prog (execOp (rho []) (mkO o187_42 152)) u8 ∧
 Q (vT [.int .u64 (IntKind.u64.wrap (i1 - 1)), u8]) h_5)
 (br (decide ((IntKind.u64.wrap ((IntKind.u64.wrap (i2 * 10)) + (IntKind.u64.wrap ((IntKind.u8.wrap ((IntKind.u8.wrap (i7 - 97)) + 10)))))) > (IntKind.u64.wrap (i1 - 1))))
 (∃ (u9 : Value), PureRun Tryz.prog (execOp (rho []) (mkO o187_42 152)) u9 ∧
 Q (vT [.int .u64 (IntKind.u64.wrap (i1 - 1)), u9]) h_5)
 (∃ (m4 : Nat), m4 < m1 ∧ I_1 m4 c1 (IntKind.u64.wrap ((IntKind.u64.wrap (i2 * 10)) + (IntKind.u64.wrap ((IntKind.u8.wrap ((IntKind.u8.wrap (i7 - 97)) + 10)))))) (IntKind.i64.wrap (i3 + 1)) h_5 ∧
 True)))))
 (∃ (u10 : Value), PureRun Tryz.prog (execOp (rho []) (mkO o187_33 152)) u10 ∧
 Q (vT [.int .u64 0, u10]) h_4))
 (∃ (u11 : Value), PureRun Tryz.prog (execOp (rho []) (mkO o187_33 152)) u11 ∧
 Q (vT [.int .u64 0, u11]) h_3)))
 (Tri Tryz.prog 192 [vU i4] h_2 fun v_5 h_6 =>
 ∃ (i8 : Int), v_5 = vU i8 ∧
 br (decide (97 ≤ i8))
 (Tri Tryz.prog 192 [vU i4] h_6 fun v_6 h_7 =>
 ∃ (i9 : Int), v_6 = vU i9 ∧
 br (decide (i9 ≤ 122))
 (Tri Tryz.prog 192 [vU i4] h_7 fun v_7 h_8 =>
 ∃ (i10 : Int), v_7 = vU i10 ∧
 br (decide ((IntKind.u8.wrap ((IntKind.u8.wrap (i10 - 97)) + 10)) ≥ 10))
 (∃ (u12 : Value), PureRun Tryz.prog (execOp (rho []) (mkO o187_35 152)) u12 ∧
 Q (vT [.int .u64 0, u12]) h_8)
 (br (decide (i2 ≥ 1844674407370955162))
 (∃ (u13 : Value), PureRun Tryz.prog (execOp (rho []) (mkO o187_37 152)) u13 ∧
 Q (vT [.int .u64 (IntKind.u64.wrap (i1 - 1)), u13]) h_8)
 (br (decide ((IntKind.u64.wrap ((IntKind.u64.wrap (i2 * 10)) + (IntKind.u64.wrap ((IntKind.u8.wrap ((IntKind.u8.wrap (i10 - 97)) + 10)))))) < (IntKind.u64.wrap (i2 * 10))))
 (∃ (u14 : Value), PureRun Tryz.prog (execOp (rho []) (mkO o187_42 152)) u14 ∧
 Q (vT [.int .u64 (IntKind.u64.wrap (i1 - 1)), u14]) h_8)
 (br (decide ((IntKind.u64.wrap ((IntKind.u64.wrap (i2 * 10)) + (IntKind.u64.wrap ((IntKind.u8.wrap ((IntKind.u8.wrap (i10 - 97)) + 10)))))) > (IntKind.u64.wrap (i1 - 1))))
 (∃ (u15 : Value), PureRun Tryz.prog (execOp (rho []) (mkO o187_42 152)) u15 ∧
 Q (vT [.int .u64 (IntKind.u64.wrap (i1 - 1)), u15]) h_8)
 (∃ (m5 : Nat), m5 < m1 ∧ I_1 m5 c1 (IntKind.u64.wrap ((IntKind.u64.wrap (i2 * 10)) + (IntKind.u64.wrap ((IntKind.u8.wrap ((IntKind.u8.wrap (i10 - 97)) + 10)))))) (IntKind.i64.wrap (i3 + 1)) h_8 ∧
 True)))))
 (∃ (u16 : Value), PureRun Tryz.prog (execOp (rho []) (mkO o187_33 152)) u16 ∧
 Q (vT [.int .u64 0, u16]) h_7))
 (∃ (u17 : Value), PureRun Tryz.prog (execOp (rho []) (mkO o187_33 152)) u17 ∧
 Q (vT [.int .u64 0, u17]) h_6)))
 (br (decide (48 ≤ i4))
 (br (decide (i4 ≤ 57))
 (br (decide ((IntKind.u8.wrap (i4 - 48)) ≥ 10))
 (∃ (u18 : Value), PureRun Tryz.prog (execOp (rho []) (mkO o187_35 152)) u18 ∧
 Q (vT [.int .u64 0, u18]) h_2)
 (br (decide (i2 ≥ 1844674407370955162))
 (∃ (u19 : Value), PureRun Tryz.prog (execOp (rho []) (mkO o187_37 152)) u19 ∧
 Q (vT [.int .u64 (IntKind.u64.wrap (i1 - 1)), u19]) h_2)
 (br (decide ((IntKind.u64.wrap ((IntKind.u64.wrap (i2 * 10)) + (IntKind.u64.wrap ((IntKind.u8.wrap (i4 - 48)))))) < (IntKind.u64.wrap (i2 * 10))))
 (∃ (u20 : Value), PureRun Tryz.prog (execOp (rho []) (mkO o187_42 152)) u20 ∧
 Q (vT [.int .u64 (IntKind.u64.wrap (i1 - 1)), u20]) h_2)
 (br (decide ((IntKind.u64.wrap ((IntKind.u64.wrap (i2 * 10)) + (IntKind.u64.wrap ((IntKind.u8.wrap (i4 - 48)))))) > (IntKind.u64.wrap (i1 - 1))))
 (∃ (u21 : Value), PureRun Tryz.prog (execOp (rho []) (mkO o187_42 152)) u21 ∧
 Q (vT [.int .u64 (IntKind.u64.wrap (i1 - 1)), u21]) h_2)
 (∃ (m6 : Nat), m6 < m1 ∧ I_1 m6 c1 (IntKind.u64.wrap ((IntKind.u64.wrap (i2 * 10)) + (IntKind.u64.wrap ((IntKind.u8.wrap (i4 - 48)))))) (IntKind.i64.wrap (i3 + 1)) h_2 ∧
 True)))))
 (Tri Tryz.prog 192 [vU i4] h_2 fun v_8 h_9 =>
 ∃ (i11 : Int), v_8 = vU i11 ∧
 br (decide (97 ≤ i11))
 (Tri Tryz.prog 192 [vU i4] h_9 fun v_9 h_10 =>
 ∃ (i12 : Int), v_9 = vU i12 ∧
 br (decide (i12 ≤ 122))
 (Tri Tryz.prog 192 [vU i4] h_10 fun v_10 h_11 =>
 ∃ (i13 : Int), v_10 = vU i13 ∧
 br (decide ((IntKind.u8.wrap ((IntKind.u8.wrap (i13 - 97)) + 10)) ≥ 10))
 (∃ (u22 : Value), PureRun Tryz.prog (execOp (rho []) (mkO o187_35 152)) u22 ∧
 Q (vT [.int .u64 0, u22]) h_11)
 (br (decide (i2 ≥ 1844674407370955162))
 (∃ (u23 : Value), PureRun Tryz.prog (execOp (rho []) (mkO o187_37 152)) u23 ∧
 Q (vT [.int .u64 (IntKind.u64.wrap (i1 - 1)), u23]) h_11)
 (br (decide ((IntKind.u64.wrap ((IntKind.u64.wrap (i2 * 10)) + (IntKind.u64.wrap ((IntKind.u8.wrap ((IntKind.u8.wrap (i13 - 97)) + 10)))))) < (IntKind.u64.wrap (i2 * 10))))
 (∃ (u24 : Value), PureRun Tryz.prog (execOp (rho []) (mkO o187_42 152)) u24 ∧
 Q (vT [.int .u64 (IntKind.u64.wrap (i1 - 1)), u24]) h_11)
 (br (decide ((IntKind.u64.wrap ((IntKind.u64.wrap (i2 * 10)) + (IntKind.u64.wrap ((IntKind.u8.wrap ((IntKind.u8.wrap (i13 - 97)) + 10)))))) > (IntKind.u64.wrap (i1 - 1))))
 (∃ (u25 : Value), PureRun Tryz.prog (execOp (rho []) (mkO o187_42 152)) u25 ∧
 Q (vT [.int .u64 (IntKind.u64.wrap (i1 - 1)), u25]) h_11)
 (∃ (m7 : Nat), m7 < m1 ∧ I_1 m7 c1 (IntKind.u64.wrap ((IntKind.u64.wrap (i2 * 10)) + (IntKind.u64.wrap ((IntKind.u8.wrap ((IntKind.u8.wrap (i13 - 97)) + 10)))))) (IntKind.i64.wrap (i3 + 1)) h_11 ∧
 True)))))
 (∃ (u26 : Value), PureRun Tryz.prog (execOp (rho []) (mkO o187_33 152)) u26 ∧
 Q (vT [.int .u64 0, u26]) h_10))
 (∃ (u27 : Value), PureRun Tryz.prog (execOp (rho []) (mkO o187_33 152)) u27 ∧
 Q (vT [.int .u64 0, u27]) h_9)))
 (Tri Tryz.prog 192 [vU i4] h_2 fun v_11 h_12 =>
 ∃ (i14 : Int), v_11 = vU i14 ∧
 br (decide (97 ≤ i14))
 (Tri Tryz.prog 192 [vU i4] h_12 fun v_12 h_13 =>
 ∃ (i15 : Int), v_12 = vU i15 ∧
 br (decide (i15 ≤ 122))
 (Tri Tryz.prog 192 [vU i4] h_13 fun v_13 h_14 =>
 ∃ (i16 : Int), v_13 = vU i16 ∧
 br (decide ((IntKind.u8.wrap ((IntKind.u8.wrap (i16 - 97)) + 10)) ≥ 10))
 (∃ (u28 : Value), PureRun Tryz.prog (execOp (rho []) (mkO o187_35 152)) u28 ∧
 Q (vT [.int .u64 0, u28]) h_14)
 (br (decide (i2 ≥ 1844674407370955162))
 (∃ (u29 : Value), PureRun Tryz.prog (execOp (rho []) (mkO o187_37 152)) u29 ∧
 Q (vT [.int .u64 (IntKind.u64.wrap (i1 - 1)), u29]) h_14)
 (br (decide ((IntKind.u64.wrap ((IntKind.u64.wrap (i2 * 10)) + (IntKind.u64.wrap ((IntKind.u8.wrap ((IntKind.u8.wrap (i16 - 97)) + 10)))))) < (IntKind.u64.wrap (i2 * 10))))
 (∃ (u30 : Value), PureRun Tryz.prog (execOp (rho []) (mkO o187_42 152)) u30 ∧
 Q (vT [.int .u64 (IntKind.u64.wrap (i1 - 1)), u30]) h_14)
 (br (decide ((IntKind.u64.wrap ((IntKind.u64.wrap (i2 * 10)) + (IntKind.u64.wrap ((IntKind.u8.wrap ((IntKind.u8.wrap (i16 - 97)) + 10)))))) > (IntKind.u64.wrap (i1 - 1))))
 (∃ (u31 : Value), PureRun Tryz.prog (execOp (rho []) (mkO o187_42 152)) u31 ∧
 Q (vT [.int .u64 (IntKind.u64.wrap (i1 - 1)), u31]) h_14)
 (∃ (m8 : Nat), m8 < m1 ∧ I_1 m8 c1 (IntKind.u64.wrap ((IntKind.u64.wrap (i2 * 10)) + (IntKind.u64.wrap ((IntKind.u8.wrap ((IntKind.u8.wrap (i16 - 97)) + 10)))))) (IntKind.i64.wrap (i3 + 1)) h_14 ∧
 True)))))
 (∃ (u32 : Value), PureRun Tryz.prog (execOp (rho []) (mkO o187_33 152)) u32 ∧
 Q (vT [.int .u64 0, u32]) h_13))
 (∃ (u33 : Value), PureRun Tryz.prog (execOp (rho []) (mkO o187_33 152)) u33 ∧
 Q (vT [.int .u64 0, u33]) h_12))))
 (br c1
 (Tri Tryz.prog 193 [vS l1] h_2 fun v_14 h_15 =>
 ∃ (c2 : Bool), v_14 = vB c2 ∧
 br (!c2)
 (∃ (u34 : Value), PureRun Tryz.prog (execOp (rho []) (mkO o187_45 152)) u34 ∧
 Q (vT [.int .u64 0, u34]) h_15)
 (Q (vT [.int .u64 i2, .nilIface]) h_15))
 (Q (vT [.int .u64 i2, .nilIface]) h_2)))
theorem T187pDQ {l1 : Bs} {h : PHeap} {Q : Value → PHeap → Prop} (hR : R187pDQ l1 h Q) : Tri Tryz.prog 187 [vS l1, vI 10, vI 64] h Q :=
 tri_of_dn mixed Tryz.func187 rfl (by kernel_rfl) low187 (rs := [.tmp 6, .tmp 7]) (by kernel_rfl) rfl (Eq.mpr (by kernel_rfl : dnF Tryz.prog Tryz.f187.ntmps d187 [.tmp 6, .tmp 7] [vS l1, vI 10, vI 64] h Q = R187pDQ l1 h Q) hR)
noncomputable def d192 : DCode := up ⟨[], [], []⟩ (low Tryz.prog (fun _ => false) (Tryz.f192.body.getD .skip))
theorem low192 : low Tryz.prog (fun _ => false) (Tryz.f192.body.getD .skip) = some (eC d192) := by kernel_rfl
def R192 (i1 : Int) (h : PHeap) (Q : Value → PHeap → Prop) : Prop :=
 Q (vU (IntKind.u8.wrap ((BitVec.ofInt 8 i1 ||| BitVec.ofInt 8 32).toNat : Int))) h
theorem T192 {i1 : Int} {h : PHeap} {Q : Value → PHeap → Prop} (hR : R192 i1 h Q) : Tri Tryz.prog 192 [vU i1] h Q :=
 tri_of_dn mixed Tryz.func192 rfl (by kernel_rfl) low192 (rs := [.tmp 2]) (by kernel_rfl) rfl (Eq.mpr (by kernel_rfl : dnF Tryz.prog Tryz.f192.ntmps d192 [.tmp 2] [vU i1] h Q = R192 i1 h Q) hR)
end Go.Proofs.D
namespace Go.As
def numV (B : Nat) (s : Bytes) : Nat := s.foldl (fun n c => B * n + hexN c) 0
theorem numV_snoc (B : Nat) (s : Bytes) (c : UInt8) : numV B (s ++ [c]) = B * numV B s + hexN c := by simp [numV, List.foldl_append]
theorem numV_hex (s : Bytes) : numV 16 s = hexV s := rfl
theorem foldl_dec : ∀ (s : Bytes) (n : Nat), s.all digitB = true → s.foldl (fun n c => 10 * n + hexN c) n = s.foldl (fun n c => 10 * n + (c.toNat - 48)) n
 | [], _, _ => rfl
 | c :: s, n, h => by
   simp only [List.all_cons, Bool.and_eq_true] at h
   rw [List.foldl_cons, List.foldl_cons, foldl_dec s _ h.2]
   unfold hexN; rw [if_pos h.1]
theorem numV_dec {s : Bytes} (h : s.all digitB = true) : numV 10 s = decN s := foldl_dec s 0 h
theorem hexN_lt : ∀ n : Fin 256, hexB (UInt8.ofNat n.val) = true → hexN (UInt8.ofNat n.val) < 16 := by decide +kernel
theorem hexN_dig : ∀ n : Fin 256, digitB (UInt8.ofNat n.val) = true → hexN (UInt8.ofNat n.val) < 10 := by decide +kernel
theorem numV_lt {B : Nat} {p : UInt8 → Bool} (hp : ∀ c, p c = true → hexN c < B) (hB : 1 ≤ B) : ∀ (s : Bytes), s.all p = true → numV B s < B ^ s.length := by
 intro s hs
 have key : ∀ (s : Bytes) (n : Nat), s.all p = true → s.foldl (fun n c => B * n + hexN c) n < B ^ s.length * (n + 1) := by
  intro s
  induction s with
  | nil => intro n _; simp
  | cons c s ih =>
    intro n h
    simp only [List.all_cons, Bool.and_eq_true] at h
    rw [List.foldl_cons, List.length_cons, Nat.pow_succ]
    have h1 := ih (B * n + hexN c) h.2
    have h2 := hp c h.1
    refine Nat.lt_of_lt_of_le h1 ?_
    rw [Nat.mul_assoc]
    refine Nat.mul_le_mul_left _ ?_
    rw [Nat.mul_add, Nat.mul_one]; omega
 simpa [numV] using key s 0 hs
end Go.As
namespace Go.Proofs.D
open Go Go.Den Go.As
set_option maxRecDepth 100000
theorem wrapU64 {n : Int} (h1 : 0 ≤ n) (h2 : n < 18446744073709551616) : IntKind.u64.wrap n = n := by
 simp [IntKind.wrap, IntKind.bits, IntKind.signed]; omega
theorem dig_u8 : ∀ n : Fin 256, digitB (UInt8.ofNat n.val) = true → IntKind.u8.wrap ((n.val : Int) - 48) = (hexN (UInt8.ofNat n.val) : Int) ∧ 48 ≤ n.val ∧ n.val ≤ 57 := by decide +kernel
theorem hex_u8 : ∀ n : Fin 256, digitB (UInt8.ofNat n.val) = false → hexB (UInt8.ofNat n.val) = true → IntKind.u8.wrap ((BitVec.ofInt 8 (n.val : Int) ||| BitVec.ofInt 8 32).toNat : Int) = (n.val : Int) ∧ 97 ≤ n.val ∧ n.val ≤ 102 ∧ IntKind.u8.wrap (IntKind.u8.wrap ((n.val : Int) - 97) + 10) = (hexN (UInt8.ofNat n.val) : Int) := by decide +kernel
attribute [local irreducible] IntKind.wrap Tri
section
variable (h : PHeap)
theorem raw_bytes {x : Operand} {ρ : Operand → Value} {s : Bytes} (hx : ρ x = vS s) : Raw Tryz.prog (execOp ρ (mkO (.convert 9 40 x) 40)) h fun v h' => ∃ b cap rest z, v = vL (ad b 0) s.length cap ∧ h b = none ∧ h' = h.put b (.cells ⟨s.map byteV ++ rest⟩ 5 z) := by
 intro w hs
 have hrun := run_bytes_of_string (P := Tryz.prog) w 9 40 5 ⟨⟨s⟩⟩ rfl rfl rfl
 have hexec : (execOp ρ (mkO (.convert 9 40 x) 40)).run Tryz.prog w = ((convert 9 40 (.string ⟨⟨s⟩⟩)).run Tryz.prog w).andThen fun v w' => .ok (.value v) w' := by
  simp [execOp, mkO, hx]
 rw [hexec, hrun]
 have hs' : Den.Sub w.drew h := hs
 have hrow : bytesRow ⟨⟨s⟩⟩ (grownCap w (⟨⟨s⟩⟩ : ByteArray).size 0 5) = ⟨s.map byteV ++ List.replicate (grownCap w (⟨⟨s⟩⟩ : ByteArray).size 0 5 - (⟨⟨s⟩⟩ : ByteArray).size) (.int .u8 0)⟩ := by
  unfold bytesRow
  apply Array.ext'
  simp
  intro a _; rfl
 rw [hrow]
 refine ⟨_, _, _, h.put w.heap.size _, rfl, .inl rfl, ⟨w.heap.size, _, _, _, rfl, hs.fresh, rfl⟩, hs'.allocReal _, ?_⟩
 have := Keep.allocReal w.drew h (.cells ⟨s.map byteV ++ List.replicate (grownCap w (⟨⟨s⟩⟩ : ByteArray).size 0 5 - (⟨⟨s⟩⟩ : ByteArray).size) (.int .u8 0)⟩ 5 ((⟨s.map byteV ++ List.replicate (grownCap w (⟨⟨s⟩⟩ : ByteArray).size 0 5 - (⟨⟨s⟩⟩ : ByteArray).size) (.int .u8 0)⟩ : Array Value).size, (⟨s.map byteV ++ List.replicate (grownCap w (⟨⟨s⟩⟩ : ByteArray).size 0 5 - (⟨⟨s⟩⟩ : ByteArray).size) (.int .u8 0)⟩ : Array Value).size + 1))
 exact ⟨this.os, this.tape, this.output, this.size, this.out⟩
theorem lower_t (i : Int) : Tri Tryz.prog 192 [vU i] h fun v h' => v = vU (IntKind.u8.wrap ((BitVec.ofInt 8 i ||| BitVec.ofInt 8 32).toNat : Int)) ∧ h' = h := by
 refine T192 ?_
 unfold R192
 exact ⟨rfl, rfl⟩
theorem shl_64 : PureRun Tryz.prog (execOp (rho [(95, .int .u64 64)]) (mkO o187_21 178)) (.int .u64 0) := pureVal_run _ (by kernel_rfl)
theorem shl_63 : PureRun Tryz.prog (execOp (rho [(44, .int .u64 63)]) (mkO o179_10 178)) (.int .u64 9223372036854775808) := pureVal_run _ (by kernel_rfl)
theorem nil_179 : PureRun Tryz.prog (execOp (rho [(32, .nilIface)]) (mkO o179_5 4)) (vB false) := pureVal_run _ (by kernel_rfl)
theorem nil_164 : PureRun Tryz.prog (execOp (rho [(16, .nilIface)]) (mkO o164_2 4)) (vB false) := pureVal_run _ (by kernel_rfl)
theorem nil_141a : PureRun Tryz.prog (execOp (rho [(36, .nilIface)]) (mkO o141_7 4)) (vB true) := pureVal_run _ (by kernel_rfl)
theorem nil_141b : PureRun Tryz.prog (execOp (rho [(59, .nilIface)]) (mkO o141_13 4)) (vB true) := pureVal_run _ (by kernel_rfl)
theorem uint16_t {s : Bytes} (hs : s.all hexB = true) (h1 : 1 ≤ s.length) (h2 : s.length ≤ 8) : Tri Tryz.prog 187 [vS s, vI 16, vI 64] h fun v h' => v = vT [.int .u64 (numV 16 s : Int), .nilIface] ∧ Ext h h' := by
 refine T187pAQ ?_
 unfold R187pAQ
 refine br_neg (by cases s <;> simp at h1 ⊢) ⟨0, shl_64, ?_⟩
 rw [show IntKind.u64.wrap (0 - 1) = 18446744073709551615 by with_unfolding_all rfl]
 refine Raw.mono (raw_bytes h rfl) ?_
 rintro _ h1' ⟨b, cap, rest, z, rfl, hb, rfl⟩
 refine ⟨_, _, _, rfl, ?_⟩
 have hx0 : Ext h (h.put b (.cells ⟨s.map byteV ++ rest⟩ 5 z)) := Ext.put hb _
 have hb0 : (h.put b (.cells ⟨s.map byteV ++ rest⟩ 5 z)) b = some (.cells ⟨s.map byteV ++ rest⟩ 5 z) := put_same _ _ _
 generalize h.put b (.cells ⟨s.map byteV ++ rest⟩ 5 z) = h1' at *
 refine ⟨fun m c n i h' => ∃ j : Nat, i = (j : Int) ∧ j + m = s.length ∧ c = false ∧ n = (numV 16 (s.take j) : Int) ∧ h' = h1', ⟨s.length, 0, rfl, by omega, rfl, rfl, rfl⟩, ?_⟩
 rintro m _ _ _ h3 ⟨j, rfl, hjm, rfl, rfl, rfl⟩
 refine br_split (fun e => ?_) fun e => ?_
 · have hlt : j < s.length := by have := of_decide_eq_true e; omega
   have hd : hexB s[j] = true := List.all_eq_true.1 hs _ (List.getElem_mem hlt)
   have ht := List.take_append_getElem hlt
   have hall : (s.take j).all hexB = true := by
    rw [List.all_eq_true] at hs ⊢
    exact fun x hx => hs x (List.mem_of_mem_take hx)
   have hN := numV_lt (B := 16) (p := hexB) (fun c hc => by have := hexN_lt ⟨c.toNat, c.toNat_lt⟩; simp only [UInt8.ofNat_toNat] at this; exact this hc) (by omega) (s.take j) hall
   have hN2 : numV 16 (s.take j) < 1099511627776 := by
    refine Nat.lt_of_lt_of_le hN ?_
    have : (s.take j).length ≤ 10 := by rw [List.length_take]; omega
    exact Nat.le_trans (Nat.pow_le_pow_right (by omega) this) (by decide)
   have hs1 := numV_snoc 16 (s.take j) s[j]
   rw [ht] at hs1
   have hdn : hexN s[j] < 16 := by have := hexN_lt ⟨s[j].toNat, s[j].toNat_lt⟩; simp only [UInt8.ofNat_toNat] at this; exact this hd
   have hcell : h3.cell b (0 + ((j : Nat) : Int).toNat * 1) = some (vU (s[j].toNat : Int)) := by
    rw [cell_of hb0, Int.toNat_natCast, List.getElem?_append_left (by simp; omega)]
    simp [hlt, byteV]
   have hn1 : IntKind.i64.wrap ((j : Int) + 1) = ((j + 1 : Nat) : Int) := by rw [wrap64 (by omega) (by omega)]; omega
   have hw1 : IntKind.u64.wrap ((numV 16 (s.take j) : Int) * 16) = ((numV 16 (s.take j) * 16 : Nat) : Int) := by rw [wrapU64 (by omega) (by omega)]; omega
   have hw2 : IntKind.u64.wrap (hexN s[j] : Int) = (hexN s[j] : Int) := wrapU64 (by omega) (by omega)
   have hw3 : IntKind.u64.wrap (((numV 16 (s.take j) * 16 : Nat) : Int) + (hexN s[j] : Int)) = ((numV 16 (s.take (j + 1)) : Nat) : Int) := by rw [wrapU64 (by omega) (by omega), hs1]; omega
   have h95 : ((s[j].toNat : Int) == 95) = false := by
    have : ∀ n : Fin 256, hexB (UInt8.ofNat n.val) = true → ((n.val : Int) == 95) = false := by decide +kernel
    have := this ⟨s[j].toNat, s[j].toNat_lt⟩
    simp only [UInt8.ofNat_toNat] at this
    exact this hd
   refine ⟨b, 0, rfl, ⟨by omega, by omega⟩, _, hcell, br_neg h95 ?_⟩
   cases hdg : digitB s[j] with
   | true =>
     have k := dig_u8 ⟨s[j].toNat, s[j].toNat_lt⟩
     simp only [UInt8.ofNat_toNat] at k
     obtain ⟨k1, k2, k3⟩ := k hdg
     rw [k1]
     refine br_pos (decide_eq_true (by omega)) (br_pos (decide_eq_true (by omega)) (br_neg (decide_eq_false (by omega)) (br_neg (decide_eq_false (by omega)) ?_)))
     rw [hw1, hw2, hw3]
     refine br_neg (decide_eq_false (by omega)) (br_neg (decide_eq_false (by omega)) ⟨m - 1, by omega, ⟨j + 1, hn1, by omega, rfl, rfl, rfl⟩, trivial⟩)
   | false =>
     have k := hex_u8 ⟨s[j].toNat, s[j].toNat_lt⟩
     simp only [UInt8.ofNat_toNat] at k
     obtain ⟨k1, k2, k3, k4⟩ := k hdg hd
     refine br_pos (decide_eq_true (by omega)) (br_neg (decide_eq_false (by omega)) ?_)
     refine Tri.mono (lower_t h3 _) ?_
     rintro _ h4 ⟨rfl, rfl⟩
     rw [k1]
     refine ⟨_, rfl, br_pos (decide_eq_true (by omega)) ?_⟩
     refine Tri.mono (lower_t h4 _) ?_
     rintro _ h4 ⟨rfl, rfl⟩
     rw [k1]
     refine ⟨_, rfl, br_pos (decide_eq_true (by omega)) ?_⟩
     refine Tri.mono (lower_t h4 _) ?_
     rintro _ h4 ⟨rfl, rfl⟩
     rw [k1]
     refine ⟨_, rfl, ?_⟩
     rw [k4]
     refine br_neg (decide_eq_false (by omega)) (br_neg (decide_eq_false (by omega)) ?_)
     rw [hw1, hw2, hw3]
     refine br_neg (decide_eq_false (by omega)) (br_neg (decide_eq_false (by omega)) ⟨m - 1, by omega, ⟨j + 1, hn1, by omega, rfl, rfl, rfl⟩, trivial⟩)
 · have hj : j = s.length := by have := of_decide_eq_false e; omega
   subst hj
   rw [List.take_length]
   exact br_neg rfl ⟨rfl, hx0⟩
theorem uint10_t {s : Bytes} (hs : s.all digitB = true) (h1 : 1 ≤ s.length) (h2 : s.length ≤ 10) : Tri Tryz.prog 187 [vS s, vI 10, vI 64] h fun v h' => v = vT [.int .u64 (numV 10 s : Int), .nilIface] ∧ Ext h h' := by
 refine T187pDQ ?_
 unfold R187pDQ
 refine br_neg (by cases s <;> simp at h1 ⊢) ⟨0, shl_64, ?_⟩
 rw [show IntKind.u64.wrap (0 - 1) = 18446744073709551615 by with_unfolding_all rfl]
 refine Raw.mono (raw_bytes h rfl) ?_
 rintro _ h1' ⟨b, cap, rest, z, rfl, hb, rfl⟩
 refine ⟨_, _, _, rfl, ?_⟩
 have hx0 : Ext h (h.put b (.cells ⟨s.map byteV ++ rest⟩ 5 z)) := Ext.put hb _
 have hb0 : (h.put b (.cells ⟨s.map byteV ++ rest⟩ 5 z)) b = some (.cells ⟨s.map byteV ++ rest⟩ 5 z) := put_same _ _ _
 generalize h.put b (.cells ⟨s.map byteV ++ rest⟩ 5 z) = h1' at *
 refine ⟨fun m c n i h' => ∃ j : Nat, i = (j : Int) ∧ j + m = s.length ∧ c = false ∧ n = (numV 10 (s.take j) : Int) ∧ h' = h1', ⟨s.length, 0, rfl, by omega, rfl, rfl, rfl⟩, ?_⟩
 rintro m _ _ _ h3 ⟨j, rfl, hjm, rfl, rfl, rfl⟩
 refine br_split (fun e => ?_) fun e => ?_
 · have hlt : j < s.length := by have := of_decide_eq_true e; omega
   have hd : digitB s[j] = true := List.all_eq_true.1 hs _ (List.getElem_mem hlt)
   have ht := List.take_append_getElem hlt
   have hall : (s.take j).all digitB = true := by
    rw [List.all_eq_true] at hs ⊢
    exact fun x hx => hs x (List.mem_of_mem_take hx)
   have hN := numV_lt (B := 10) (p := digitB) (fun c hc => by have := hexN_dig ⟨c.toNat, c.toNat_lt⟩; simp only [UInt8.ofNat_toNat] at this; exact this hc) (by omega) (s.take j) hall
   have hN2 : numV 10 (s.take j) < 1099511627776 := by
    refine Nat.lt_of_lt_of_le hN ?_
    have : (s.take j).length ≤ 10 := by rw [List.length_take]; omega
    exact Nat.le_trans (Nat.pow_le_pow_right (by omega) this) (by decide)
   have hs1 := numV_snoc 10 (s.take j) s[j]
   rw [ht] at hs1
   have hdn : hexN s[j] < 10 := by have := hexN_dig ⟨s[j].toNat, s[j].toNat_lt⟩; simp only [UInt8.ofNat_toNat] at this; exact this hd
   have hcell : h3.cell b (0 + ((j : Nat) : Int).toNat * 1) = some (vU (s[j].toNat : Int)) := by
    rw [cell_of hb0, Int.toNat_natCast, List.getElem?_append_left (by simp; omega)]
    simp [hlt, byteV]
   have hn1 : IntKind.i64.wrap ((j : Int) + 1) = ((j + 1 : Nat) : Int) := by rw [wrap64 (by omega) (by omega)]; omega
   have hw1 : IntKind.u64.wrap ((numV 10 (s.take j) : Int) * 10) = ((numV 10 (s.take j) * 10 : Nat) : Int) := by rw [wrapU64 (by omega) (by omega)]; omega
   have hw2 : IntKind.u64.wrap (hexN s[j] : Int) = (hexN s[j] : Int) := wrapU64 (by omega) (by omega)
   have hw3 : IntKind.u64.wrap (((numV 10 (s.take j) * 10 : Nat) : Int) + (hexN s[j] : Int)) = ((numV 10 (s.take (j + 1)) : Nat) : Int) := by rw [wrapU64 (by omega) (by omega), hs1]; omega
   have k := dig_u8 ⟨s[j].toNat, s[j].toNat_lt⟩
   simp only [UInt8.ofNat_toNat] at k
   obtain ⟨k1, k2, k3⟩ := k hd
   refine ⟨b, 0, rfl, ⟨by omega, by omega⟩, _, hcell, br_neg (by simp; omega) ?_⟩
   rw [k1]
   refine br_pos (decide_eq_true (by omega)) (br_pos (decide_eq_true (by omega)) (br_neg (decide_eq_false (by omega)) (br_neg (decide_eq_false (by omega)) ?_)))
   rw [hw1, hw2, hw3]
   refine br_neg (decide_eq_false (by omega)) (br_neg (decide_eq_false (by omega)) ⟨m - 1, by omega, ⟨j + 1, hn1, by omega, rfl, rfl, rfl⟩, trivial⟩)
 · have hj : j = s.length := by have := of_decide_eq_false e; omega
   subst hj
   rw [List.take_length]
   exact br_neg rfl ⟨rfl, hx0⟩
theorem numV_lt10 {s : Bytes} (hs : s.all digitB = true) (h2 : s.length ≤ 10) : numV 10 s < 10000000000 := by
 have hN := numV_lt (B := 10) (p := digitB) (fun c hc => by have := hexN_dig ⟨c.toNat, c.toNat_lt⟩; simp only [UInt8.ofNat_toNat] at this; exact this hc) (by omega) s hs
 exact Nat.lt_of_lt_of_le hN (Nat.le_trans (Nat.pow_le_pow_right (by omega) h2) (by decide))
theorem numV_lt16 {s : Bytes} (hs : s.all hexB = true) (h2 : s.length ≤ 8) : numV 16 s < 4294967296 := by
 have hN := numV_lt (B := 16) (p := hexB) (fun c hc => by have := hexN_lt ⟨c.toNat, c.toNat_lt⟩; simp only [UInt8.ofNat_toNat] at this; exact this hc) (by omega) s hs
 exact Nat.lt_of_lt_of_le hN (Nat.le_trans (Nat.pow_le_pow_right (by omega) h2) (by decide))
theorem first_ne {p : UInt8 → Bool} {s : Bytes} (hs : s.all p = true) (h1 : 1 ≤ s.length) {k : UInt8} (hk : p k = false) : ∃ c r, s = c :: r ∧ ((c.toNat : Int) == (k.toNat : Int)) = false := by
 match s, h1 with
 | c :: r, _ =>
   refine ⟨c, r, rfl, ?_⟩
   simp only [List.all_cons, Bool.and_eq_true] at hs
   rw [u8_beq]
   cases e : c == k with
   | false => rfl
   | true => have e : c = k := by simpa using e
             subst e; rw [hk] at hs; exact absurd hs.1 (by decide)
theorem int16_t {s : Bytes} (hs : s.all hexB = true) (h1 : 1 ≤ s.length) (h2 : s.length ≤ 8) : Tri Tryz.prog 164 [vS s, vI 16, vI 64] h fun v h' => v = vT [vI (numV 16 s : Int), .nilIface] ∧ Ext h h' := by
 have hlt := numV_lt16 hs h2
 refine T164pAQ ?_
 unfold R164pAQ
 suffices hsf : Tri Tryz.prog 179 [vS s, vI 16, vI 64] h fun v h' => v = vT [vI (numV 16 s : Int), .nilIface] ∧ Ext h h' by
  refine Tri.mono hsf ?_
  rintro _ h1 ⟨rfl, hx⟩
  exact ⟨_, _, rfl, false, nil_164, br_neg rfl ⟨rfl, hx⟩⟩
 refine T179pAQ ?_
 unfold R179pAQ
 obtain ⟨c, r, hc, e43⟩ := first_ne hs h1 (k := 43) (by decide)
 obtain ⟨c', r', hc', e45⟩ := first_ne hs h1 (k := 45) (by decide)
 rw [hc] at hc'; injection hc' with hc' _; subst hc'
 refine br_neg (by rw [hc]; rfl) ⟨by decide, c, by rw [hc]; rfl, br_neg e43 (br_neg e45 ?_)⟩
 refine Tri.mono (uint16_t h hs h1 h2) ?_
 rintro _ h1 ⟨rfl, hx⟩
 refine ⟨_, _, rfl, false, nil_179, br_neg rfl ⟨_, shl_63, br_neg (decide_eq_false (by omega)) ⟨?_, hx⟩⟩⟩
 rw [wrap64 (by omega) (by omega)]
theorem int10_t {s : Bytes} (hs : s.all digitB = true) (h1 : 1 ≤ s.length) (h2 : s.length ≤ 10) : Tri Tryz.prog 164 [vS s, vI 10, vI 64] h fun v h' => v = vT [vI (numV 10 s : Int), .nilIface] ∧ Ext h h' := by
 have hlt := numV_lt10 hs h2
 refine T164pDQ ?_
 unfold R164pDQ
 suffices hsf : Tri Tryz.prog 179 [vS s, vI 10, vI 64] h fun v h' => v = vT [vI (numV 10 s : Int), .nilIface] ∧ Ext h h' by
  refine Tri.mono hsf ?_
  rintro _ h1 ⟨rfl, hx⟩
  exact ⟨_, _, rfl, false, nil_164, br_neg rfl ⟨rfl, hx⟩⟩
 refine T179pDQ ?_
 unfold R179pDQ
 obtain ⟨c, r, hc, e43⟩ := first_ne hs h1 (k := 43) (by decide)
 obtain ⟨c', r', hc', e45⟩ := first_ne hs h1 (k := 45) (by decide)
 rw [hc] at hc'; injection hc' with hc' _; subst hc'
 refine br_neg (by rw [hc]; rfl) ⟨by decide, c, by rw [hc]; rfl, br_neg e43 (br_neg e45 ?_)⟩
 refine Tri.mono (uint10_t h hs h1 h2) ?_
 rintro _ h1 ⟨rfl, hx⟩
 refine ⟨_, _, rfl, false, nil_179, br_neg rfl ⟨_, shl_63, br_neg (decide_eq_false (by omega)) ⟨?_, hx⟩⟩⟩
 rw [wrap64 (by omega) (by omega)]
theorem neg10_t {s : Bytes} (hs : s.all digitB = true) (h1 : 1 ≤ s.length) (h2 : s.length ≤ 10) : Tri Tryz.prog 164 [vS (45 :: s), vI 10, vI 64] h fun v h' => v = vT [vI (-(numV 10 s : Int)), .nilIface] ∧ Ext h h' := by
 have hlt := numV_lt10 hs h2
 refine T164pDQ ?_
 unfold R164pDQ
 suffices hsf : Tri Tryz.prog 179 [vS (45 :: s), vI 10, vI 64] h fun v h' => v = vT [vI (-(numV 10 s : Int)), .nilIface] ∧ Ext h h' by
  refine Tri.mono hsf ?_
  rintro _ h1 ⟨rfl, hx⟩
  exact ⟨_, _, rfl, false, nil_164, br_neg rfl ⟨rfl, hx⟩⟩
 refine T179pDQ ?_
 unfold R179pDQ
 refine br_neg rfl ⟨by decide, 45, rfl, br_neg rfl (br_pos rfl ⟨⟨by omega, by simp; omega, Int.le_refl _⟩, ?_⟩)⟩
 have hsl : ((45 :: s).drop 1).take (((45 :: s).length : Int).toNat - 1) = s := by
  rw [List.drop_succ_cons, List.drop_zero, List.take_of_length_le]; simp
 rw [hsl]
 refine Tri.mono (uint10_t h hs h1 h2) ?_
 rintro _ h1 ⟨rfl, hx⟩
 refine ⟨_, _, rfl, false, nil_179, br_neg rfl ⟨_, shl_63, br_neg (decide_eq_false (by omega)) ⟨?_, hx⟩⟩⟩
 rw [wrap64 (n := (numV 10 s : Int)) (by omega) (by omega), wrap64 (by omega) (by omega), Int.zero_sub]
theorem prefix_t (s p : Bytes) : Tri Tryz.prog 186 [vS s, vS p] h fun v h' => v = vB (p.isPrefixOf s) ∧ h' = h := by
 refine T186 ?_
 unfold R186
 have key : p.isPrefixOf s = (decide (p.length ≤ s.length) && s.take p.length == p) := by
  rw [Bool.eq_iff_iff]
  simp only [List.isPrefixOf_iff_prefix, Bool.and_eq_true, decide_eq_true_eq, beq_iff_eq]
  constructor
  · rintro ⟨t, rfl⟩; simp
  · rintro ⟨_, h⟩; exact ⟨s.drop p.length, by conv => lhs; lhs; rw [← h]
                                              exact List.take_append_drop _ _⟩
 refine br_split (fun e => ⟨⟨by omega, by omega, by have := of_decide_eq_true e; omega⟩, ?_, rfl⟩) fun e => ⟨?_, rfl⟩
 · have e := of_decide_eq_true e
   rw [key, decide_eq_true (by omega)]
   simp
 · have e := of_decide_eq_false e
   rw [key, decide_eq_false (by omega)]
   rfl
def numVal (s : Bytes) : Value := match numberS s with
 | some n => vT [vI n, vB true]
 | none => vT [vI 0, vB false]
theorem number_t (s : Bytes) (hl : s.length ≤ 1000000) : Tri Tryz.prog 141 [vS s] h fun v h' => v = numVal s ∧ Ext h h' := by
 refine T141 ?_
 unfold R141
 have cut : Tri Tryz.prog 162 [vS s, vS [48, 120]] h fun v h' => v = (if ([48, 120] : Bytes).isPrefixOf s then vT [vS (s.drop 2), vB true] else vT [vS s, vB false]) ∧ h' = h := by
  refine T162 ?_
  unfold R162
  have c2 : Tri Tryz.prog 178 [vS s, vS [48, 120]] h fun v h' => v = (if ([48, 120] : Bytes).isPrefixOf s then vT [vS (s.drop 2), vB true] else vT [vS s, vB false]) ∧ h' = h := by
   refine T178 ?_
   unfold R178
   refine Tri.mono (prefix_t h s [48, 120]) ?_
   rintro _ h ⟨rfl, rfl⟩
   refine ⟨_, rfl, br_split (fun e => ⟨?_, rfl⟩) fun e => ?_⟩
   · rw [if_neg (by rw [not_f e]; decide)]
   · have e := not_t e
     have hp : 2 ≤ s.length := by
      have := (List.isPrefixOf_iff_prefix.1 e).length_le
      simpa using this
     refine ⟨⟨by decide, by simp; omega, Int.le_refl _⟩, ?_, rfl⟩
     rw [if_pos e]
     have : (s.drop (([48, 120] : Bytes).length : Int).toNat).take ((s.length : Int).toNat - (([48, 120] : Bytes).length : Int).toNat) = s.drop 2 := by
      show (s.drop 2).take _ = _
      rw [List.take_of_length_le]; simp
     rw [this]
  refine Tri.mono c2 ?_
  rintro _ h ⟨rfl, rfl⟩
  by_cases hp : ([48, 120] : Bytes).isPrefixOf s = true
  · rw [if_pos hp]; exact ⟨_, _, rfl, rfl, rfl⟩
  · rw [if_neg hp]; exact ⟨_, _, rfl, rfl, rfl⟩
 refine Tri.mono cut ?_
 rintro _ h ⟨rfl, rfl⟩
 by_cases hp : ([48, 120] : Bytes).isPrefixOf s = true
 · obtain ⟨t, rfl⟩ := List.isPrefixOf_iff_prefix.1 hp
   rw [if_pos hp]
   have hd : ([48, 120] ++ t : Bytes).drop 2 = t := rfl
   rw [hd]
   simp only [List.length_append, List.length_cons, List.length_nil] at hl
   have hn : numberS ([48, 120] ++ t) = if t.length < 1 ∨ 8 < t.length ∨ t.all hexB = false then none else some ((hexV t : Nat) : Int) := rfl
   have none : (t.length < 1 ∨ 8 < t.length ∨ t.all hexB = false) → ∀ h1, Ext h h1 → vT [vI 0, vB false] = numVal ([48, 120] ++ t) ∧ Ext h h1 := fun hc h1 hx => by
    unfold numVal; rw [hn, if_pos hc]; exact ⟨rfl, hx⟩
   refine ⟨_, _, rfl, br_pos rfl (br_split (fun e => none (.inl (by have := of_decide_eq_true e; omega)) h (Ext.refl h)) fun e1 => br_split (fun e => none (.inr (.inl (by have := of_decide_eq_true e; omega))) h (Ext.refl h)) fun e2 => ?_)⟩
   have e1 := of_decide_eq_false e1
   have e2 := of_decide_eq_false e2
   refine Tri.mono (all_t h t (f := 163) (x := []) (y := []) hexB (fun c => hex_t h c) (by omega)) ?_
   rintro _ h ⟨rfl, rfl⟩
   refine ⟨_, rfl, br_split (fun e => none (.inr (.inr (not_f e))) h (Ext.refl h)) fun e3 => ?_⟩
   have e3 := not_t e3
   refine Tri.mono (int16_t h e3 (by omega) (by omega)) ?_
   rintro _ h1 ⟨rfl, hx⟩
   refine ⟨_, _, rfl, true, nil_141a, ?_, hx⟩
   unfold numVal
   rw [hn, if_neg (fun hh => by rcases hh with hh | hh | hh; omega; omega; rw [e3] at hh; cases hh), numV_hex]
 · rw [if_neg hp]
   have trim : Tri Tryz.prog 165 [vS s, vS [45]] h fun v h' => v = vS (if ([45] : Bytes).isPrefixOf s then s.drop 1 else s) ∧ h' = h := by
    refine T165 ?_
    unfold R165
    have c2 : Tri Tryz.prog 181 [vS s, vS [45]] h fun v h' => v = vS (if ([45] : Bytes).isPrefixOf s then s.drop 1 else s) ∧ h' = h := by
     refine T181 ?_
     unfold R181
     refine Tri.mono (prefix_t h s [45]) ?_
     rintro _ h ⟨rfl, rfl⟩
     refine ⟨_, rfl, br_split (fun e => ?_) fun e => ⟨?_, rfl⟩⟩
     · have hp : 1 ≤ s.length := by
        have := (List.isPrefixOf_iff_prefix.1 e).length_le
        simpa using this
       refine ⟨⟨by decide, by simp; omega, Int.le_refl _⟩, ?_, rfl⟩
       rw [if_pos e]
       have : (s.drop (([45] : Bytes).length : Int).toNat).take ((s.length : Int).toNat - (([45] : Bytes).length : Int).toNat) = s.drop 1 := by
        show (s.drop 1).take _ = _
        rw [List.take_of_length_le]; simp
       rw [this]
     · rw [if_neg (by rw [e]; decide)]
    refine Tri.mono c2 ?_
    rintro _ h ⟨rfl, rfl⟩
    exact ⟨_, rfl, rfl, rfl⟩
   refine ⟨_, _, rfl, br_neg rfl ?_⟩
   refine Tri.mono trim ?_
   rintro _ h ⟨rfl, rfl⟩
   refine ⟨_, rfl, ?_⟩
   obtain ⟨d, hd, hdl, hn, hpar⟩ : ∃ d : Bytes, (if ([45] : Bytes).isPrefixOf s then s.drop 1 else s) = d ∧ d.length ≤ s.length ∧
    (∃ f : Nat → Int, numberS s = (decB d).map f ∧ ∀ (h : PHeap), d.all digitB = true → 1 ≤ d.length → d.length ≤ 10 → Tri Tryz.prog 164 [vS s, vI 10, vI 64] h fun v h' => v = vT [vI (f (decN d)), .nilIface] ∧ Ext h h') ∧ True := by
    by_cases h45 : ([45] : Bytes).isPrefixOf s = true
    · obtain ⟨t, rfl⟩ := List.isPrefixOf_iff_prefix.1 h45
      refine ⟨t, by rw [if_pos h45]; rfl, by simp, ⟨fun n => -(n : Int), by show numberS (45 :: t) = _; cases hq : decB t <;> simp [numberS, hq], fun h a b c => ?_⟩, trivial⟩
      have := neg10_t h a b c
      rw [numV_dec a] at this
      exact this
    · refine ⟨s, by rw [if_neg h45], Nat.le_refl _, ⟨fun n => (n : Int), ?_, fun h a b c => ?_⟩, trivial⟩
      · unfold numberS
        split
        · exact absurd (by simp) hp
        · exact absurd (by simp) h45
        · cases decB s <;> rfl
      · have := int10_t h a b c
        rw [numV_dec a] at this
        exact this
   obtain ⟨f, hn, hT⟩ := hn
   rw [hd]
   have none : (d.length < 1 ∨ 10 < d.length ∨ d.all digitB = false) → ∀ h1, Ext h h1 → vT [vI 0, vB false] = numVal s ∧ Ext h h1 := fun hc h1 hx => by
    unfold numVal; rw [hn]; unfold decB; rw [if_pos hc]; exact ⟨rfl, hx⟩
   refine br_split (fun e => none (.inl (by have := of_decide_eq_true e; omega)) h (Ext.refl h)) fun e1 => br_split (fun e => none (.inr (.inl (by have := of_decide_eq_true e; omega))) h (Ext.refl h)) fun e2 => ?_
   have e1 := of_decide_eq_false e1
   have e2 := of_decide_eq_false e2
   refine Tri.mono (all_t h d (f := 53) (x := []) (y := []) digitB (fun c => digit_t h c) (by omega)) ?_
   rintro _ h ⟨rfl, rfl⟩
   refine ⟨_, rfl, br_split (fun e => none (.inr (.inr (not_f e))) h (Ext.refl h)) fun e3 => ?_⟩
   have e3 := not_t e3
   refine Tri.mono (hT h e3 (by omega) (by omega)) ?_
   rintro _ h1 ⟨rfl, hx⟩
   refine ⟨_, _, rfl, true, nil_141b, ?_, hx⟩
   unfold numVal
   rw [hn]
   unfold decB
   rw [if_neg (fun hh => by rcases hh with hh | hh | hh; omega; omega; rw [e3] at hh; cases hh)]; rfl
end
end Go.Proofs.D
namespace Go.Proofs.D
open Go Go.Den
set_option maxRecDepth 100000
set_option maxHeartbeats 4000000
abbrev eek1 : List CK := [.str, qi, qi, qi, .bool, .bool]
abbrev eek2 : List CK := [.slice, .str, qi, qi, .slice]
noncomputable def d59 : DCode := up ⟨[(5, .c (.one false [.bool])), (10, .l [qi])], [], []⟩ (low Tryz.prog (fun _ => false) (Tryz.f59.body.getD .skip))
theorem low59 : low Tryz.prog (fun _ => false) (Tryz.f59.body.getD .skip) = some (eC d59) := by kernel_rfl
def R59 (i1 : Int) (h : PHeap) (Q : Value → PHeap → Prop) : Prop :=
 Tri Tryz.prog 98 [vI i1] h fun v_1 h_1 =>
 ∃ (c1 : Bool), v_1 = vB c1 ∧
 br (!c1)
 (Q (vT [vI 0, vI 11]) h_1)
 ((0 ≤ i1 ∧ i1 < 27) ∧
 ∃ (i2 : Int), h_1.cell 0 ((0 + (i1).toNat * 6) + 1) = some (vI i2) ∧
 Q (vT [vI i2, vI 0]) h_1)
theorem T59 {i1 : Int} {h : PHeap} {Q : Value → PHeap → Prop} (hR : R59 i1 h Q) : Tri Tryz.prog 59 [vI i1] h Q :=
 tri_of_dn mixed Tryz.func59 rfl (by kernel_rfl) low59 (rs := [.tmp 2, .tmp 3]) (by kernel_rfl) rfl (Eq.mpr (by kernel_rfl : dnF Tryz.prog Tryz.f59.ntmps d59 [.tmp 2, .tmp 3] [vI i1] h Q = R59 i1 h Q) hR)
noncomputable def d61 : DCode := up ⟨[(4, .c (.one false [.bool])), (9, .l [.str])], [], []⟩ (low Tryz.prog (fun _ => false) (Tryz.f61.body.getD .skip))
theorem low61 : low Tryz.prog (fun _ => false) (Tryz.f61.body.getD .skip) = some (eC d61) := by kernel_rfl
def R61 (i1 : Int) (h : PHeap) (Q : Value → PHeap → Prop) : Prop :=
 Tri Tryz.prog 98 [vI i1] h fun v_1 h_1 =>
 ∃ (c1 : Bool), v_1 = vB c1 ∧
 br (!c1)
 (Q (vS []) h_1)
 ((0 ≤ i1 ∧ i1 < 27) ∧
 ∃ (l1 : Bs), h_1.cell 0 (0 + (i1).toNat * 6) = some (vS l1) ∧
 Q (vS l1) h_1)
theorem T61 {i1 : Int} {h : PHeap} {Q : Value → PHeap → Prop} (hR : R61 i1 h Q) : Tri Tryz.prog 61 [vI i1] h Q :=
 tri_of_dn mixed Tryz.func61 rfl (by kernel_rfl) low61 (rs := [.tmp 2]) (by kernel_rfl) rfl (Eq.mpr (by kernel_rfl : dnF Tryz.prog Tryz.f61.ntmps d61 [.tmp 2] [vI i1] h Q = R61 i1 h Q) hR)
noncomputable def d114 : DCode := up ⟨[(6, .c (.one false [.bool])), (11, .l [qi]), (12, .c (.one false [.bool])), (17, .l [qi]), (21, .l [qi])], [], []⟩ (low Tryz.prog (fun _ => false) (Tryz.f114.body.getD .skip))
theorem low114 : low Tryz.prog (fun _ => false) (Tryz.f114.body.getD .skip) = some (eC d114) := by kernel_rfl
def R114 (i1 : Int) (h : PHeap) (Q : Value → PHeap → Prop) : Prop :=
 Tri Tryz.prog 98 [vI i1] h fun v_1 h_1 =>
 ∃ (c1 : Bool), v_1 = vB c1 ∧
 br (!c1)
 (Q (vT [vI 0, vI 0, vI 11]) h_1)
 ((0 ≤ i1 ∧ i1 < 27) ∧
 ∃ (i2 : Int), h_1.cell 0 ((0 + (i1).toNat * 6) + 1) = some (vI i2) ∧
 Tri Tryz.prog 99 [vI i2] h_1 fun v_2 h_2 =>
 ∃ (c2 : Bool), v_2 = vB c2 ∧
 br (!c2)
 (Q (vT [vI 0, vI 0, vI 1]) h_2)
 ((0 ≤ i1 ∧ i1 < 27) ∧
 ∃ (i3 : Int), h_2.cell 0 ((0 + (i1).toNat * 6) + 2) = some (vI i3) ∧
 (0 ≤ i1 ∧ i1 < 27) ∧
 ∃ (i4 : Int), h_2.cell 0 ((0 + (i1).toNat * 6) + 3) = some (vI i4) ∧
 Q (vT [vI i3, vI i4, vI 0]) h_2))
theorem T114 {i1 : Int} {h : PHeap} {Q : Value → PHeap → Prop} (hR : R114 i1 h Q) : Tri Tryz.prog 114 [vI i1] h Q :=
 tri_of_dn mixed Tryz.func114 rfl (by kernel_rfl) low114 (rs := [.tmp 2, .tmp 3, .tmp 4]) (by kernel_rfl) rfl (Eq.mpr (by kernel_rfl : dnF Tryz.prog Tryz.f114.ntmps d114 [.tmp 2, .tmp 3, .tmp 4] [vI i1] h Q = R114 i1 h Q) hR)
noncomputable def d84 : DCode := up ⟨[(7, .c (.tup [(false, [qi]), (false, [qi])]))], [], []⟩ (low Tryz.prog (fun _ => false) (Tryz.f84.body.getD .skip))
theorem low84 : low Tryz.prog (fun _ => false) (Tryz.f84.body.getD .skip) = some (eC d84) := by kernel_rfl
def R84 (i1 : Int) (h : PHeap) (Q : Value → PHeap → Prop) : Prop :=
 Tri Tryz.prog 59 [vI i1] h fun v_1 h_1 =>
 ∃ (i2 i3 : Int), v_1 = vT [vI i2, vI i3] ∧
 br (i2 == 1)
 (Q (vI 1) h_1)
 (br (i2 == 6)
 (Q (vI 1) h_1)
 (br (i2 == 2)
 (Q (vI 2) h_1)
 (br (i2 == 4)
 (Q (vI 2) h_1)
 (br (i2 == 3)
 (Q (vI 3) h_1)
 (br (i2 == 5)
 (Q (vI 3) h_1)
 (Q (vI 0) h_1))))))
theorem T84 {i1 : Int} {h : PHeap} {Q : Value → PHeap → Prop} (hR : R84 i1 h Q) : Tri Tryz.prog 84 [vI i1] h Q :=
 tri_of_dn mixed Tryz.func84 rfl (by kernel_rfl) low84 (rs := [.tmp 2]) (by kernel_rfl) rfl (Eq.mpr (by kernel_rfl : dnF Tryz.prog Tryz.f84.ntmps d84 [.tmp 2] [vI i1] h Q = R84 i1 h Q) hR)
noncomputable def d98 : DCode := up ⟨[], [], []⟩ (low Tryz.prog (fun _ => false) (Tryz.f98.body.getD .skip))
theorem low98 : low Tryz.prog (fun _ => false) (Tryz.f98.body.getD .skip) = some (eC d98) := by kernel_rfl
def R98 (i1 : Int) (h : PHeap) (Q : Value → PHeap → Prop) : Prop :=
 br (decide (i1 ≥ 0))
 (Q (vB (decide (i1 < 27))) h)
 (Q (vB false) h)
theorem T98 {i1 : Int} {h : PHeap} {Q : Value → PHeap → Prop} (hR : R98 i1 h Q) : Tri Tryz.prog 98 [vI i1] h Q :=
 tri_of_dn mixed Tryz.func98 rfl (by kernel_rfl) low98 (rs := [.tmp 2]) (by kernel_rfl) rfl (Eq.mpr (by kernel_rfl : dnF Tryz.prog Tryz.f98.ntmps d98 [.tmp 2] [vI i1] h Q = R98 i1 h Q) hR)
noncomputable def d99 : DCode := up ⟨[], [], []⟩ (low Tryz.prog (fun _ => false) (Tryz.f99.body.getD .skip))
theorem low99 : low Tryz.prog (fun _ => false) (Tryz.f99.body.getD .skip) = some (eC d99) := by kernel_rfl
def R99 (i1 : Int) (h : PHeap) (Q : Value → PHeap → Prop) : Prop :=
 br (i1 == 4)
 (Q (vB true) h)
 (br (i1 == 5)
 (Q (vB true) h)
 (Q (vB (i1 == 6)) h))
theorem T99 {i1 : Int} {h : PHeap} {Q : Value → PHeap → Prop} (hR : R99 i1 h Q) : Tri Tryz.prog 99 [vI i1] h Q :=
 tri_of_dn mixed Tryz.func99 rfl (by kernel_rfl) low99 (rs := [.tmp 2]) (by kernel_rfl) rfl (Eq.mpr (by kernel_rfl : dnF Tryz.prog Tryz.f99.ntmps d99 [.tmp 2] [vI i1] h Q = R99 i1 h Q) hR)
noncomputable def d100 : DCode := up ⟨[], [], []⟩ (low Tryz.prog (fun _ => false) (Tryz.f100.body.getD .skip))
theorem low100 : low Tryz.prog (fun _ => false) (Tryz.f100.body.getD .skip) = some (eC d100) := by kernel_rfl
def R100 (i1 : Int) (h : PHeap) (Q : Value → PHeap → Prop) : Prop :=
 br (i1 != 0)
 (Q (vB (i1 != 6)) h)
 (Q (vB false) h)
theorem T100 {i1 : Int} {h : PHeap} {Q : Value → PHeap → Prop} (hR : R100 i1 h Q) : Tri Tryz.prog 100 [vI i1] h Q :=
 tri_of_dn mixed Tryz.func100 rfl (by kernel_rfl) low100 (rs := [.tmp 2]) (by kernel_rfl) rfl (Eq.mpr (by kernel_rfl : dnF Tryz.prog Tryz.f100.ntmps d100 [.tmp 2] [vI i1] h Q = R100 i1 h Q) hR)
noncomputable def d101 : DCode := up ⟨[], [], []⟩ (low Tryz.prog (fun _ => false) (Tryz.f101.body.getD .skip))
theorem low101 : low Tryz.prog (fun _ => false) (Tryz.f101.body.getD .skip) = some (eC d101) := by kernel_rfl
def R101 (i1 : Int) (h : PHeap) (Q : Value → PHeap → Prop) : Prop :=
 br (i1 == 2)
 (Q (vB true) h)
 (br (i1 == 3)
 (Q (vB true) h)
 (Q (vB (i1 == 5)) h))
theorem T101 {i1 : Int} {h : PHeap} {Q : Value → PHeap → Prop} (hR : R101 i1 h Q) : Tri Tryz.prog 101 [vI i1] h Q :=
 tri_of_dn mixed Tryz.func101 rfl (by kernel_rfl) low101 (rs := [.tmp 2]) (by kernel_rfl) rfl (Eq.mpr (by kernel_rfl : dnF Tryz.prog Tryz.f101.ntmps d101 [.tmp 2] [vI i1] h Q = R101 i1 h Q) hR)
noncomputable def d102 : DCode := up ⟨[], [], []⟩ (low Tryz.prog (fun _ => false) (Tryz.f102.body.getD .skip))
theorem low102 : low Tryz.prog (fun _ => false) (Tryz.f102.body.getD .skip) = some (eC d102) := by kernel_rfl
def R102 (i1 : Int) (h : PHeap) (Q : Value → PHeap → Prop) : Prop :=
 br (decide (i1 ≥ 0))
 (Q (vB (decide (i1 < 8))) h)
 (Q (vB false) h)
theorem T102 {i1 : Int} {h : PHeap} {Q : Value → PHeap → Prop} (hR : R102 i1 h Q) : Tri Tryz.prog 102 [vI i1] h Q :=
 tri_of_dn mixed Tryz.func102 rfl (by kernel_rfl) low102 (rs := [.tmp 2]) (by kernel_rfl) rfl (Eq.mpr (by kernel_rfl : dnF Tryz.prog Tryz.f102.ntmps d102 [.tmp 2] [vI i1] h Q = R102 i1 h Q) hR)
noncomputable def d25 : DCode := up ⟨[(4, .l [.slice])], [], []⟩ (low Tryz.prog (fun _ => false) (Tryz.f25.body.getD .skip))
theorem low25 : low Tryz.prog (fun _ => false) (Tryz.f25.body.getD .skip) = some (eC d25) := by kernel_rfl
def R25 (a1 : OA) (n1 : Nat) (eek1 : Nat) (l1 : Bs) (i1 : Int) (i2 : Int) (a2 : OA) (n2 : Nat) (eek2 : Nat) (h : PHeap) (Q : Value → PHeap → Prop) : Prop :=
 Q (vI (IntKind.i64.wrap ((IntKind.i64.wrap (Int.tdiv (IntKind.i64.wrap ((IntKind.i64.wrap ((IntKind.i64.wrap (((n1 : Nat) : Int) * 4)) + 64)) - 1)) 64)) * 64))) h
theorem T25 {a1 : OA} {n1 : Nat} {eek1 : Nat} {l1 : Bs} {i1 : Int} {i2 : Int} {a2 : OA} {n2 : Nat} {eek2 : Nat} {h : PHeap} {Q : Value → PHeap → Prop} (hR : R25 a1 n1 eek1 l1 i1 i2 a2 n2 eek2 h Q) : Tri Tryz.prog 25 [vA [vL a1 n1 eek1, vS l1, vI i1, vI i2, vL a2 n2 eek2]] h Q :=
 tri_of_dn mixed Tryz.func25 rfl (by kernel_rfl) low25 (rs := [.tmp 2]) (by kernel_rfl) rfl (Eq.mpr (by kernel_rfl : dnF Tryz.prog Tryz.f25.ntmps d25 [.tmp 2] [vA [vL a1 n1 eek1, vS l1, vI i1, vI i2, vL a2 n2 eek2]] h Q = R25 a1 n1 eek1 l1 i1 i2 a2 n2 eek2 h Q) hR)
noncomputable def d47 : DCode := up ⟨[], [], []⟩ (low Tryz.prog (fun _ => false) (Tryz.f47.body.getD .skip))
theorem low47 : low Tryz.prog (fun _ => false) (Tryz.f47.body.getD .skip) = some (eC d47) := by kernel_rfl
def R47 (i1 : Int) (i2 : Int) (h : PHeap) (Q : Value → PHeap → Prop) : Prop :=
 br (decide (i1 ≥ 0))
 (br (decide (i1 ≤ i2))
 (Q (vB ((Int.tmod i1 4) == 0)) h)
 (Q (vB false) h))
 (Q (vB false) h)
theorem T47 {i1 : Int} {i2 : Int} {h : PHeap} {Q : Value → PHeap → Prop} (hR : R47 i1 i2 h Q) : Tri Tryz.prog 47 [vI i1, vI i2] h Q :=
 tri_of_dn mixed Tryz.func47 rfl (by kernel_rfl) low47 (rs := [.tmp 4]) (by kernel_rfl) rfl (Eq.mpr (by kernel_rfl : dnF Tryz.prog Tryz.f47.ntmps d47 [.tmp 4] [vI i1, vI i2] h Q = R47 i1 i2 h Q) hR)
noncomputable def d46 : DCode := up ⟨[(6, .l [qi]), (7, .c (.one false [.bool])), (10, .l [qi]), (12, .l eek1), (14, .l [qi]), (18, .l [qi]), (19, .c (.one false [.bool])), (22, .l [qi]), (23, .c (.one false [.bool])), (27, .l [qi]), (32, .l [qi]), (33, .c (.one false [.bool])), (37, .l [qi]), (46, .l [qi]), (51, .l [qi]), (52, .c (.one false [.bool])), (56, .l [qi]), (57, .c (.one false [.bool])), (61, .l [qi]), (65, .l [qi]), (66, .c (.one false [.bool])), (71, .l [qi]), (72, .c (.one false [.bool])), (75, .l [qi]), (77, .l [qi]), (81, .l [qi]), (83, .l [qi])], [], []⟩ (low Tryz.prog (fun _ => false) (Tryz.f46.body.getD .skip))
theorem low46 : low Tryz.prog (fun _ => false) (Tryz.f46.body.getD .skip) = some (eC d46) := by kernel_rfl
def R46 (i1 : Int) (i2 : Int) (i3 : Int) (i4 : Int) (h : PHeap) (Q : Value → PHeap → Prop) : Prop :=
 Tri Tryz.prog 98 [vI i1] h fun v_1 h_1 =>
 ∃ (c1 : Bool), v_1 = vB c1 ∧
 br (!c1)
 (Q (vI 11) h_1)
 ((0 ≤ i1 ∧ i1 < 27) ∧
 ∃ (l1 : Bs) (i5 i6 i7 : Int) (c2 c3 : Bool), h_1.row 0 (0 + (i1).toNat * 6) [vS l1, vI i5, vI i6, vI i7, vB c2, vB c3] ∧
 br (i5 == 3)
 (Tri Tryz.prog 100 [vI i5] h_1 fun v_2 h_2 =>
 ∃ (c4 : Bool), v_2 = vB c4 ∧
 br (!c4)
 (br (i2 != 0)
 (Q (vI 1) h_2)
 (Tri Tryz.prog 101 [vI i5] h_2 fun v_3 h_3 =>
 ∃ (c5 : Bool), v_3 = vB c5 ∧
 br (!c5)
 (br (i3 != 0)
 (Q (vI 1) h_3)
 (Tri Tryz.prog 102 [vI i2] h_3 fun v_4 h_4 =>
 ∃ (c6 : Bool), v_4 = vB c6 ∧
 br (!c6)
 (Q (vI 2) h_4)
 (Tri Tryz.prog 102 [vI i3] h_4 fun v_5 h_5 =>
 ∃ (c7 : Bool), v_5 = vB c7 ∧
 br (!c7)
 (Q (vI 2) h_5)
 (br (i5 == 3)
 (Tri Tryz.prog 102 [vI i4] h_5 fun v_6 h_6 =>
 ∃ (c8 : Bool), v_6 = vB c8 ∧
 br (!c8)
 (Q (vI 2) h_6)
 (Tri Tryz.prog 99 [vI i5] h_6 fun v_7 h_7 =>
 ∃ (c9 : Bool), v_7 = vB c9 ∧
 br c9
 (br (decide (i4 < i6))
 (Q (vI 2) h_7)
 (br (decide (i4 > i7))
 (Q (vI 2) h_7)
 (Q (vI 0) h_7)))
 (Q (vI 0) h_7)))
 (Tri Tryz.prog 99 [vI i5] h_5 fun v_8 h_8 =>
 ∃ (c10 : Bool), v_8 = vB c10 ∧
 br c10
 (br (decide (i4 < i6))
 (Q (vI 2) h_8)
 (br (decide (i4 > i7))
 (Q (vI 2) h_8)
 (Q (vI 0) h_8)))
 (Q (vI 0) h_8))))))
 (Tri Tryz.prog 102 [vI i2] h_3 fun v_9 h_9 =>
 ∃ (c11 : Bool), v_9 = vB c11 ∧
 br (!c11)
 (Q (vI 2) h_9)
 (Tri Tryz.prog 102 [vI i3] h_9 fun v_10 h_10 =>
 ∃ (c12 : Bool), v_10 = vB c12 ∧
 br (!c12)
 (Q (vI 2) h_10)
 (br (i5 == 3)
 (Tri Tryz.prog 102 [vI i4] h_10 fun v_11 h_11 =>
 ∃ (c13 : Bool), v_11 = vB c13 ∧
 br (!c13)
 (Q (vI 2) h_11)
 (Tri Tryz.prog 99 [vI i5] h_11 fun v_12 h_12 =>
 ∃ (c14 : Bool), v_12 = vB c14 ∧
 br c14
 (br (decide (i4 < i6))
 (Q (vI 2) h_12)
 (br (decide (i4 > i7))
 (Q (vI 2) h_12)
 (Q (vI 0) h_12)))
 (Q (vI 0) h_12)))
 (Tri Tryz.prog 99 [vI i5] h_10 fun v_13 h_13 =>
 ∃ (c15 : Bool), v_13 = vB c15 ∧
 br c15
 (br (decide (i4 < i6))
 (Q (vI 2) h_13)
 (br (decide (i4 > i7))
 (Q (vI 2) h_13)
 (Q (vI 0) h_13)))
 (Q (vI 0) h_13)))))))
 (Tri Tryz.prog 101 [vI i5] h_2 fun v_14 h_14 =>
 ∃ (c16 : Bool), v_14 = vB c16 ∧
 br (!c16)
 (br (i3 != 0)
 (Q (vI 1) h_14)
 (Tri Tryz.prog 102 [vI i2] h_14 fun v_15 h_15 =>
 ∃ (c17 : Bool), v_15 = vB c17 ∧
 br (!c17)
 (Q (vI 2) h_15)
 (Tri Tryz.prog 102 [vI i3] h_15 fun v_16 h_16 =>
 ∃ (c18 : Bool), v_16 = vB c18 ∧
 br (!c18)
 (Q (vI 2) h_16)
 (br (i5 == 3)
 (Tri Tryz.prog 102 [vI i4] h_16 fun v_17 h_17 =>
 ∃ (c19 : Bool), v_17 = vB c19 ∧
 br (!c19)
 (Q (vI 2) h_17)
 (Tri Tryz.prog 99 [vI i5] h_17 fun v_18 h_18 =>
 ∃ (c20 : Bool), v_18 = vB c20 ∧
 br c20
 (br (decide (i4 < i6))
 (Q (vI 2) h_18)
 (br (decide (i4 > i7))
 (Q (vI 2) h_18)
 (Q (vI 0) h_18)))
 (Q (vI 0) h_18)))
 (Tri Tryz.prog 99 [vI i5] h_16 fun v_19 h_19 =>
 ∃ (c21 : Bool), v_19 = vB c21 ∧
 br c21
 (br (decide (i4 < i6))
 (Q (vI 2) h_19)
 (br (decide (i4 > i7))
 (Q (vI 2) h_19)
 (Q (vI 0) h_19)))
 (Q (vI 0) h_19))))))
 (Tri Tryz.prog 102 [vI i2] h_14 fun v_20 h_20 =>
 ∃ (c22 : Bool), v_20 = vB c22 ∧
 br (!c22)
 (Q (vI 2) h_20)
 (Tri Tryz.prog 102 [vI i3] h_20 fun v_21 h_21 =>
 ∃ (c23 : Bool), v_21 = vB c23 ∧
 br (!c23)
 (Q (vI 2) h_21)
 (br (i5 == 3)
 (Tri Tryz.prog 102 [vI i4] h_21 fun v_22 h_22 =>
 ∃ (c24 : Bool), v_22 = vB c24 ∧
 br (!c24)
 (Q (vI 2) h_22)
 (Tri Tryz.prog 99 [vI i5] h_22 fun v_23 h_23 =>
 ∃ (c25 : Bool), v_23 = vB c25 ∧
 br c25
 (br (decide (i4 < i6))
 (Q (vI 2) h_23)
 (br (decide (i4 > i7))
 (Q (vI 2) h_23)
 (Q (vI 0) h_23)))
 (Q (vI 0) h_23)))
 (Tri Tryz.prog 99 [vI i5] h_21 fun v_24 h_24 =>
 ∃ (c26 : Bool), v_24 = vB c26 ∧
 br c26
 (br (decide (i4 < i6))
 (Q (vI 2) h_24)
 (br (decide (i4 > i7))
 (Q (vI 2) h_24)
 (Q (vI 0) h_24)))
 (Q (vI 0) h_24)))))))
 (Tri Tryz.prog 99 [vI i5] h_1 fun v_25 h_25 =>
 ∃ (c27 : Bool), v_25 = vB c27 ∧
 Tri Tryz.prog 100 [vI i5] h_25 fun v_26 h_26 =>
 ∃ (c28 : Bool), v_26 = vB c28 ∧
 br (!c28)
 (br (i2 != 0)
 (Q (vI 1) h_26)
 (Tri Tryz.prog 101 [vI i5] h_26 fun v_27 h_27 =>
 ∃ (c29 : Bool), v_27 = vB c29 ∧
 br (!c29)
 (br (i3 != 0)
 (Q (vI 1) h_27)
 (br (!c27)
 (br (i4 != 0)
 (Q (vI 1) h_27)
 (Tri Tryz.prog 102 [vI i2] h_27 fun v_28 h_28 =>
 ∃ (c30 : Bool), v_28 = vB c30 ∧
 br (!c30)
 (Q (vI 2) h_28)
 (Tri Tryz.prog 102 [vI i3] h_28 fun v_29 h_29 =>
 ∃ (c31 : Bool), v_29 = vB c31 ∧
 br (!c31)
 (Q (vI 2) h_29)
 (br (i5 == 3)
 (Tri Tryz.prog 102 [vI i4] h_29 fun v_30 h_30 =>
 ∃ (c32 : Bool), v_30 = vB c32 ∧
 br (!c32)
 (Q (vI 2) h_30)
 (Tri Tryz.prog 99 [vI i5] h_30 fun v_31 h_31 =>
 ∃ (c33 : Bool), v_31 = vB c33 ∧
 br c33
 (br (decide (i4 < i6))
 (Q (vI 2) h_31)
 (br (decide (i4 > i7))
 (Q (vI 2) h_31)
 (Q (vI 0) h_31)))
 (Q (vI 0) h_31)))
 (Tri Tryz.prog 99 [vI i5] h_29 fun v_32 h_32 =>
 ∃ (c34 : Bool), v_32 = vB c34 ∧
 br c34
 (br (decide (i4 < i6))
 (Q (vI 2) h_32)
 (br (decide (i4 > i7))
 (Q (vI 2) h_32)
 (Q (vI 0) h_32)))
 (Q (vI 0) h_32))))))
 (Tri Tryz.prog 102 [vI i2] h_27 fun v_33 h_33 =>
 ∃ (c35 : Bool), v_33 = vB c35 ∧
 br (!c35)
 (Q (vI 2) h_33)
 (Tri Tryz.prog 102 [vI i3] h_33 fun v_34 h_34 =>
 ∃ (c36 : Bool), v_34 = vB c36 ∧
 br (!c36)
 (Q (vI 2) h_34)
 (br (i5 == 3)
 (Tri Tryz.prog 102 [vI i4] h_34 fun v_35 h_35 =>
 ∃ (c37 : Bool), v_35 = vB c37 ∧
 br (!c37)
 (Q (vI 2) h_35)
 (Tri Tryz.prog 99 [vI i5] h_35 fun v_36 h_36 =>
 ∃ (c38 : Bool), v_36 = vB c38 ∧
 br c38
 (br (decide (i4 < i6))
 (Q (vI 2) h_36)
 (br (decide (i4 > i7))
 (Q (vI 2) h_36)
 (Q (vI 0) h_36)))
 (Q (vI 0) h_36)))
 (Tri Tryz.prog 99 [vI i5] h_34 fun v_37 h_37 =>
 ∃ (c39 : Bool), v_37 = vB c39 ∧
 br c39
 (br (decide (i4 < i6))
 (Q (vI 2) h_37)
 (br (decide (i4 > i7))
 (Q (vI 2) h_37)
 (Q (vI 0) h_37)))
 (Q (vI 0) h_37)))))))
 (br (!c27)
 (br (i4 != 0)
 (Q (vI 1) h_27)
 (Tri Tryz.prog 102 [vI i2] h_27 fun v_38 h_38 =>
 ∃ (c40 : Bool), v_38 = vB c40 ∧
 br (!c40)
 (Q (vI 2) h_38)
 (Tri Tryz.prog 102 [vI i3] h_38 fun v_39 h_39 =>
 ∃ (c41 : Bool), v_39 = vB c41 ∧
 br (!c41)
 (Q (vI 2) h_39)
 (br (i5 == 3)
 (Tri Tryz.prog 102 [vI i4] h_39 fun v_40 h_40 =>
 ∃ (c42 : Bool), v_40 = vB c42 ∧
 br (!c42)
 (Q (vI 2) h_40)
 (Tri Tryz.prog 99 [vI i5] h_40 fun v_41 h_41 =>
 ∃ (c43 : Bool), v_41 = vB c43 ∧
 br c43
 (br (decide (i4 < i6))
 (Q (vI 2) h_41)
 (br (decide (i4 > i7))
 (Q (vI 2) h_41)
 (Q (vI 0) h_41)))
 (Q (vI 0) h_41)))
 (Tri Tryz.prog 99 [vI i5] h_39 fun v_42 h_42 =>
 ∃ (c44 : Bool), v_42 = vB c44 ∧
 br c44
 (br (decide (i4 < i6))
 (Q (vI 2) h_42)
 (br (decide (i4 > i7))
 (Q (vI 2) h_42)
 (Q (vI 0) h_42)))
 (Q (vI 0) h_42))))))
 (Tri Tryz.prog 102 [vI i2] h_27 fun v_43 h_43 =>
 ∃ (c45 : Bool), v_43 = vB c45 ∧
 br (!c45)
 (Q (vI 2) h_43)
 (Tri Tryz.prog 102 [vI i3] h_43 fun v_44 h_44 =>
 ∃ (c46 : Bool), v_44 = vB c46 ∧
 br (!c46)
 (Q (vI 2) h_44)
 (br (i5 == 3)
 (Tri Tryz.prog 102 [vI i4] h_44 fun v_45 h_45 =>
 ∃ (c47 : Bool), v_45 = vB c47 ∧
 br (!c47)
 (Q (vI 2) h_45)
 (Tri Tryz.prog 99 [vI i5] h_45 fun v_46 h_46 =>
 ∃ (c48 : Bool), v_46 = vB c48 ∧
 br c48
 (br (decide (i4 < i6))
 (Q (vI 2) h_46)
 (br (decide (i4 > i7))
 (Q (vI 2) h_46)
 (Q (vI 0) h_46)))
 (Q (vI 0) h_46)))
 (Tri Tryz.prog 99 [vI i5] h_44 fun v_47 h_47 =>
 ∃ (c49 : Bool), v_47 = vB c49 ∧
 br c49
 (br (decide (i4 < i6))
 (Q (vI 2) h_47)
 (br (decide (i4 > i7))
 (Q (vI 2) h_47)
 (Q (vI 0) h_47)))
 (Q (vI 0) h_47))))))))
 (Tri Tryz.prog 101 [vI i5] h_26 fun v_48 h_48 =>
 ∃ (c50 : Bool), v_48 = vB c50 ∧
 br (!c50)
 (br (i3 != 0)
 (Q (vI 1) h_48)
 (br (!c27)
 (br (i4 != 0)
 (Q (vI 1) h_48)
 (Tri Tryz.prog 102 [vI i2] h_48 fun v_49 h_49 =>
 ∃ (c51 : Bool), v_49 = vB c51 ∧
 br (!c51)
 (Q (vI 2) h_49)
 (Tri Tryz.prog 102 [vI i3] h_49 fun v_50 h_50 =>
 ∃ (c52 : Bool), v_50 = vB c52 ∧
 br (!c52)
 (Q (vI 2) h_50)
 (br (i5 == 3)
 (Tri Tryz.prog 102 [vI i4] h_50 fun v_51 h_51 =>
 ∃ (c53 : Bool), v_51 = vB c53 ∧
 br (!c53)
 (Q (vI 2) h_51)
 (Tri Tryz.prog 99 [vI i5] h_51 fun v_52 h_52 =>
 ∃ (c54 : Bool), v_52 = vB c54 ∧
 br c54
 (br (decide (i4 < i6))
 (Q (vI 2) h_52)
 (br (decide (i4 > i7))
 (Q (vI 2) h_52)
 (Q (vI 0) h_52)))
 (Q (vI 0) h_52)))
 (Tri Tryz.prog 99 [vI i5] h_50 fun v_53 h_53 =>
 ∃ (c55 : Bool), v_53 = vB c55 ∧
 br c55
 (br (decide (i4 < i6))
 (Q (vI 2) h_53)
 (br (decide (i4 > i7))
 (Q (vI 2) h_53)
 (Q (vI 0) h_53)))
 (Q (vI 0) h_53))))))
 (Tri Tryz.prog 102 [vI i2] h_48 fun v_54 h_54 =>
 ∃ (c56 : Bool), v_54 = vB c56 ∧
 br (!c56)
 (Q (vI 2) h_54)
 (Tri Tryz.prog 102 [vI i3] h_54 fun v_55 h_55 =>
 ∃ (c57 : Bool), v_55 = vB c57 ∧
 br (!c57)
 (Q (vI 2) h_55)
 (br (i5 == 3)
 (Tri Tryz.prog 102 [vI i4] h_55 fun v_56 h_56 =>
 ∃ (c58 : Bool), v_56 = vB c58 ∧
 br (!c58)
 (Q (vI 2) h_56)
 (Tri Tryz.prog 99 [vI i5] h_56 fun v_57 h_57 =>
 ∃ (c59 : Bool), v_57 = vB c59 ∧
 br c59
 (br (decide (i4 < i6))
 (Q (vI 2) h_57)
 (br (decide (i4 > i7))
 (Q (vI 2) h_57)
 (Q (vI 0) h_57)))
 (Q (vI 0) h_57)))
 (Tri Tryz.prog 99 [vI i5] h_55 fun v_58 h_58 =>
 ∃ (c60 : Bool), v_58 = vB c60 ∧
 br c60
 (br (decide (i4 < i6))
 (Q (vI 2) h_58)
 (br (decide (i4 > i7))
 (Q (vI 2) h_58)
 (Q (vI 0) h_58)))
 (Q (vI 0) h_58)))))))
 (br (!c27)
 (br (i4 != 0)
 (Q (vI 1) h_48)
 (Tri Tryz.prog 102 [vI i2] h_48 fun v_59 h_59 =>
 ∃ (c61 : Bool), v_59 = vB c61 ∧
 br (!c61)
 (Q (vI 2) h_59)
 (Tri Tryz.prog 102 [vI i3] h_59 fun v_60 h_60 =>
 ∃ (c62 : Bool), v_60 = vB c62 ∧
 br (!c62)
 (Q (vI 2) h_60)
 (br (i5 == 3)
 (Tri Tryz.prog 102 [vI i4] h_60 fun v_61 h_61 =>
 ∃ (c63 : Bool), v_61 = vB c63 ∧
 br (!c63)
 (Q (vI 2) h_61)
 (Tri Tryz.prog 99 [vI i5] h_61 fun v_62 h_62 =>
 ∃ (c64 : Bool), v_62 = vB c64 ∧
 br c64
 (br (decide (i4 < i6))
 (Q (vI 2) h_62)
 (br (decide (i4 > i7))
 (Q (vI 2) h_62)
 (Q (vI 0) h_62)))
 (Q (vI 0) h_62)))
 (Tri Tryz.prog 99 [vI i5] h_60 fun v_63 h_63 =>
 ∃ (c65 : Bool), v_63 = vB c65 ∧
 br c65
 (br (decide (i4 < i6))
 (Q (vI 2) h_63)
 (br (decide (i4 > i7))
 (Q (vI 2) h_63)
 (Q (vI 0) h_63)))
 (Q (vI 0) h_63))))))
 (Tri Tryz.prog 102 [vI i2] h_48 fun v_64 h_64 =>
 ∃ (c66 : Bool), v_64 = vB c66 ∧
 br (!c66)
 (Q (vI 2) h_64)
 (Tri Tryz.prog 102 [vI i3] h_64 fun v_65 h_65 =>
 ∃ (c67 : Bool), v_65 = vB c67 ∧
 br (!c67)
 (Q (vI 2) h_65)
 (br (i5 == 3)
 (Tri Tryz.prog 102 [vI i4] h_65 fun v_66 h_66 =>
 ∃ (c68 : Bool), v_66 = vB c68 ∧
 br (!c68)
 (Q (vI 2) h_66)
 (Tri Tryz.prog 99 [vI i5] h_66 fun v_67 h_67 =>
 ∃ (c69 : Bool), v_67 = vB c69 ∧
 br c69
 (br (decide (i4 < i6))
 (Q (vI 2) h_67)
 (br (decide (i4 > i7))
 (Q (vI 2) h_67)
 (Q (vI 0) h_67)))
 (Q (vI 0) h_67)))
 (Tri Tryz.prog 99 [vI i5] h_65 fun v_68 h_68 =>
 ∃ (c70 : Bool), v_68 = vB c70 ∧
 br c70
 (br (decide (i4 < i6))
 (Q (vI 2) h_68)
 (br (decide (i4 > i7))
 (Q (vI 2) h_68)
 (Q (vI 0) h_68)))
 (Q (vI 0) h_68)))))))))
theorem T46 {i1 : Int} {i2 : Int} {i3 : Int} {i4 : Int} {h : PHeap} {Q : Value → PHeap → Prop} (hR : R46 i1 i2 i3 i4 h Q) : Tri Tryz.prog 46 [vA [vI i1, vI i2, vI i3, vI i4]] h Q :=
 tri_of_dn mixed Tryz.func46 rfl (by kernel_rfl) low46 (rs := [.tmp 2]) (by kernel_rfl) rfl (Eq.mpr (by kernel_rfl : dnF Tryz.prog Tryz.f46.ntmps d46 [.tmp 2] [vA [vI i1, vI i2, vI i3, vI i4]] h Q = R46 i1 i2 i3 i4 h Q) hR)
noncomputable def d44 : DCode := up ⟨[(6, .l [.bool]), (7, .l eek2), (8, .c (.one false [qi])), (10, .l [qi]), (13, .l [qi])], [], []⟩ (low Tryz.prog (fun _ => false) (Tryz.f44.body.getD .skip))
theorem low44 : low Tryz.prog (fun _ => false) (Tryz.f44.body.getD .skip) = some (eC d44) := by kernel_rfl
def R44 (a1 : OA) (n1 : Nat) (eek1 : Nat) (l1 : Bs) (i1 : Int) (i2 : Int) (a2 : OA) (n2 : Nat) (eek2 : Nat) (l2 : Bs) (c1 : Bool) (i3 : Int) (h : PHeap) (Q : Value → PHeap → Prop) : Prop :=
 br c1
 (Tri Tryz.prog 25 [vA [vL a1 n1 eek1, vS l1, vI i1, vI i2, vL a2 n2 eek2]] h fun v_1 h_1 =>
 ∃ (i4 : Int), v_1 = vI i4 ∧
 (tv [vI i3]) ∧
 Q (vI (IntKind.i64.wrap (i4 + i3))) h_1)
 (Q (vI i3) h)
theorem T44 {a1 : OA} {n1 : Nat} {eek1 : Nat} {l1 : Bs} {i1 : Int} {i2 : Int} {a2 : OA} {n2 : Nat} {eek2 : Nat} {l2 : Bs} {c1 : Bool} {i3 : Int} {h : PHeap} {Q : Value → PHeap → Prop} (hR : R44 a1 n1 eek1 l1 i1 i2 a2 n2 eek2 l2 c1 i3 h Q) : Tri Tryz.prog 44 [vA [vL a1 n1 eek1, vS l1, vI i1, vI i2, vL a2 n2 eek2], vA [vS l2, vB c1, vI i3]] h Q :=
 tri_of_dn mixed Tryz.func44 rfl (by kernel_rfl) low44 (rs := [.tmp 4]) (by kernel_rfl) rfl (Eq.mpr (by kernel_rfl : dnF Tryz.prog Tryz.f44.ntmps d44 [.tmp 4] [vA [vL a1 n1 eek1, vS l1, vI i1, vI i2, vL a2 n2 eek2], vA [vS l2, vB c1, vI i3]] h Q = R44 a1 n1 eek1 l1 i1 i2 a2 n2 eek2 l2 c1 i3 h Q) hR)
end Go.Proofs.D
namespace Go.Proofs.D
open Go Go.Den Go.As
set_option maxRecDepth 100000
attribute [local irreducible] IntKind.wrap Tri
def lims (op : Nat) : Int × Int := if 4 ≤ form op then limits op else (0, 0)
def OpTab (h : PHeap) : Prop := ∀ op, op < 27 → ∃ u s : Bool, h.row 0 (op * 6) [vS (wordT op), vI (form op), vI (lims op).1, vI (lims op).2, vB u, vB s]
theorem OpTab.ext {h h' : PHeap} (x : Ext h h') (ht : OpTab h) : OpTab h' := fun op ho => let ⟨u, s, hr⟩ := ht op ho; ⟨u, s, row_ext (fun ob => x 0 ob) hr⟩
section
variable (h : PHeap)
def isOpB (i : Int) : Bool := decide (0 ≤ i) && decide (i < 27)
theorem isOp_t (i : Int) : Tri Tryz.prog 98 [vI i] h fun v h' => v = vB (isOpB i) ∧ h' = h := by
 refine T98 ?_
 unfold R98
 refine br_split (fun e => ⟨?_, rfl⟩) fun e => ⟨?_, rfl⟩
 · have : decide (0 ≤ i) = true := e
   rw [isOpB, this, Bool.true_and]
 · have : decide (0 ≤ i) = false := e
   rw [isOpB, this, Bool.false_and]
theorem isOpB_t {i : Int} (h : isOpB i = true) : ∃ k : Nat, i = k ∧ k < 27 := by
 simp only [isOpB, Bool.and_eq_true, decide_eq_true_eq] at h
 exact ⟨i.toNat, by omega, by omega⟩
theorem isOpB_k {k : Nat} (h : k < 27) : isOpB (k : Int) = true := by
 simp only [isOpB, Bool.and_eq_true, decide_eq_true_eq]; omega
theorem num_t (f : Nat) : Tri Tryz.prog 99 [vI (f : Int)] h fun v h' => v = vB (decide (f = 4) || decide (f = 5) || decide (f = 6)) ∧ h' = h := by
 refine T99 ?_
 unfold R99
 have k : ∀ n : Nat, (((f : Nat) : Int) == (n : Int)) = decide (f = n) := fun n => by rw [Bool.eq_iff_iff]; simp; omega
 have k4 := k 4; have k5 := k 5; have k6 := k 6
 refine br_split (fun e => ⟨?_, rfl⟩) fun e => br_split (fun e' => ⟨?_, rfl⟩) fun e' => ⟨?_, rfl⟩
 · rw [← k4]; exact congrArg _ (by rw [show ((f : Int) == ((4 : Nat) : Int)) = true from e]; rfl)
 · rw [← k4, ← k5]; exact congrArg _ (by rw [show ((f : Int) == ((5 : Nat) : Int)) = true from e']; simp)
 · rw [← k4, ← k5, ← k6]; exact congrArg _ (by rw [show ((f : Int) == ((4 : Nat) : Int)) = false from e, show ((f : Int) == ((5 : Nat) : Int)) = false from e']; rfl)
theorem form_t (ht : OpTab h) {k : Nat} (hk : k < 27) : Tri Tryz.prog 59 [vI (k : Int)] h fun v h' => v = vT [vI (form k), vI 0] ∧ h' = h := by
 refine T59 ?_
 unfold R59
 refine Tri.mono (isOp_t h _) ?_
 rintro _ h ⟨rfl, rfl⟩
 obtain ⟨u, s, hr⟩ := ht k hk
 refine ⟨_, rfl, br_neg (by rw [isOpB_k hk]; rfl) ⟨⟨by omega, by omega⟩, _, ?_, rfl, rfl⟩⟩
 have := row_get (j := 1) hr rfl
 simpa using this
theorem opword_t (ht : OpTab h) {k : Nat} (hk : k < 27) : Tri Tryz.prog 61 [vI (k : Int)] h fun v h' => v = vS (wordT k) ∧ h' = h := by
 refine T61 ?_
 unfold R61
 refine Tri.mono (isOp_t h _) ?_
 rintro _ h ⟨rfl, rfl⟩
 obtain ⟨u, s, hr⟩ := ht k hk
 refine ⟨_, rfl, br_neg (by rw [isOpB_k hk]; rfl) ⟨⟨by omega, by omega⟩, _, ?_, rfl, rfl⟩⟩
 have := row_get (j := 0) hr rfl
 simpa using this
theorem limits_t (ht : OpTab h) {k : Nat} (hk : k < 27) (hf : 4 ≤ form k) : Tri Tryz.prog 114 [vI (k : Int)] h fun v h' => v = vT [vI (limits k).1, vI (limits k).2, vI 0] ∧ h' = h := by
 refine T114 ?_
 unfold R114
 refine Tri.mono (isOp_t h _) ?_
 rintro _ h ⟨rfl, rfl⟩
 obtain ⟨u, s, hr⟩ := ht k hk
 have h1 := row_get (j := 1) hr rfl
 have h2 := row_get (j := 2) hr rfl
 have h3 := row_get (j := 3) hr rfl
 have hl : lims k = limits k := by unfold lims; rw [if_pos hf]
 rw [hl] at h2 h3
 have h6 := form_le k
 refine ⟨_, rfl, br_neg (by rw [isOpB_k hk]; rfl) ⟨⟨by omega, by omega⟩, _, (by simpa using h1), ?_⟩⟩
 refine Tri.mono (num_t h _) ?_
 rintro _ h ⟨rfl, rfl⟩
 refine ⟨_, rfl, br_neg ?_ ⟨⟨by omega, by omega⟩, _, (by simpa using h2), ⟨by omega, by omega⟩, _, (by simpa using h3), rfl, rfl⟩⟩
 simp; omega
theorem nops_t (ht : OpTab h) {k : Nat} (hk : k < 27) : Tri Tryz.prog 84 [vI (k : Int)] h fun v h' => v = vI (operandsN k) ∧ h' = h := by
 refine T84 ?_
 unfold R84
 refine Tri.mono (form_t h ht hk) ?_
 rintro _ h ⟨rfl, rfl⟩
 refine ⟨_, _, rfl, ?_⟩
 have h6 := form_le k
 unfold operandsN
 have hf7 : form k = 0 ∨ form k = 1 ∨ form k = 2 ∨ form k = 3 ∨ form k = 4 ∨ form k = 5 ∨ form k = 6 := by omega
 rcases hf7 with e | e | e | e | e | e | e <;> rw [e]
 · exact ⟨rfl, rfl⟩
 · exact ⟨rfl, rfl⟩
 · exact ⟨rfl, rfl⟩
 · exact ⟨rfl, rfl⟩
 · exact ⟨rfl, rfl⟩
 · exact ⟨rfl, rfl⟩
 · exact ⟨rfl, rfl⟩
theorem hasA_t (f : Nat) (hf : f ≤ 6) : Tri Tryz.prog 100 [vI (f : Int)] h fun v h' => v = vB (hasA f) ∧ h' = h := by
 refine T100 ?_
 unfold R100
 have hf7 : f = 0 ∨ f = 1 ∨ f = 2 ∨ f = 3 ∨ f = 4 ∨ f = 5 ∨ f = 6 := by omega
 rcases hf7 with e | e | e | e | e | e | e <;> subst e <;> exact ⟨rfl, rfl⟩
theorem hasB_t (f : Nat) (hf : f ≤ 6) : Tri Tryz.prog 101 [vI (f : Int)] h fun v h' => v = vB (hasB f) ∧ h' = h := by
 refine T101 ?_
 unfold R101
 have hf7 : f = 0 ∨ f = 1 ∨ f = 2 ∨ f = 3 ∨ f = 4 ∨ f = 5 ∨ f = 6 := by omega
 rcases hf7 with e | e | e | e | e | e | e <;> subst e <;> exact ⟨rfl, rfl⟩
def isR (n : Int) : Bool := decide (0 ≤ n) && decide (n < 8)
theorem isReg_t (i : Int) : Tri Tryz.prog 102 [vI i] h fun v h' => v = vB (isR i) ∧ h' = h := by
 refine T102 ?_
 unfold R102
 refine br_split (fun e => ⟨?_, rfl⟩) fun e => ⟨?_, rfl⟩
 · have : decide (0 ≤ i) = true := e
   rw [isR, this, Bool.true_and]
 · have : decide (0 ≤ i) = false := e
   rw [isR, this, Bool.false_and]
theorem checkI_at {k : Nat} (hk : k < 27) (a b c : Int) : checkI ⟨k, a, b, c⟩ = if (!hasA (form k) && a != 0) || (!hasB (form k) && b != 0) || (!hasC (form k) && c != 0) then 1
 else if a < 0 ∨ 7 < a ∨ b < 0 ∨ 7 < b ∨ (hasC (form k) = true ∧ (c < (if 4 ≤ form k then limits k else (0, 7)).1 ∨ (if 4 ≤ form k then limits k else (0, 7)).2 < c)) then 2 else 0 := by
 unfold checkI
 rw [if_neg (by simp only; omega)]
 simp only [Int.toNat_natCast]
theorem icheck_t (ht : OpTab h) (x : Ins) : Tri Tryz.prog 46 [vA [vI x.op, vI x.a, vI x.b, vI x.c]] h fun v h' => v = vI (checkI x : Int) ∧ h' = h := by
 refine T46 ?_
 unfold R46
 refine Tri.mono (isOp_t h _) ?_
 rintro _ h ⟨rfl, rfl⟩
 refine ⟨_, rfl, br_split (fun e => ⟨?_, rfl⟩) fun e => ?_⟩
 · have e := not_f e
   unfold checkI
   rw [if_pos]
   · rfl
   · simp only [isOpB, Bool.and_eq_false_iff, decide_eq_false_iff_not] at e; omega
 obtain ⟨k, hk1, hk⟩ := isOpB_t (not_t e)
 obtain ⟨xo, a, b, c⟩ := x
 simp only at hk1
 subst hk1
 obtain ⟨u, s, hr⟩ := ht k hk
 have hlims : 4 ≤ form k → lims k = limits k := fun hf => by unfold lims; rw [if_pos hf]
 refine ⟨⟨by show (0 : Int) ≤ (k : Int); omega, by show (k : Int) < 27; omega⟩, _, _, _, _, _, _, (by simpa using hr), ?_⟩
 rw [checkI_at hk]
 have h6 := form_le k
 have hf7 : form k = 0 ∨ form k = 1 ∨ form k = 2 ∨ form k = 3 ∨ form k = 4 ∨ form k = 5 ∨ form k = 6 := by omega
 generalize form k = f at *
 rcases hf7 with e | e | e | e | e | e | e <;> subst e
 all_goals first | rw [hlims (by decide)] | skip
 all_goals simp only [hasA, hasB, hasC]
 all_goals repeat' first
  | (refine Tri.mono (num_t _ 0) ?_; rintro _ h ⟨rfl, rfl⟩; refine ⟨_, rfl, ?_⟩)
  | (refine Tri.mono (num_t _ 1) ?_; rintro _ h ⟨rfl, rfl⟩; refine ⟨_, rfl, ?_⟩)
  | (refine Tri.mono (num_t _ 2) ?_; rintro _ h ⟨rfl, rfl⟩; refine ⟨_, rfl, ?_⟩)
  | (refine Tri.mono (num_t _ 3) ?_; rintro _ h ⟨rfl, rfl⟩; refine ⟨_, rfl, ?_⟩)
  | (refine Tri.mono (num_t _ 4) ?_; rintro _ h ⟨rfl, rfl⟩; refine ⟨_, rfl, ?_⟩)
  | (refine Tri.mono (num_t _ 5) ?_; rintro _ h ⟨rfl, rfl⟩; refine ⟨_, rfl, ?_⟩)
  | (refine Tri.mono (num_t _ 6) ?_; rintro _ h ⟨rfl, rfl⟩; refine ⟨_, rfl, ?_⟩)
  | refine br_pos (by decide) ?_
  | refine br_neg (by decide) ?_
  | (refine Tri.mono (hasA_t _ _ (by decide)) ?_; rintro _ h ⟨rfl, rfl⟩; refine ⟨_, rfl, ?_⟩)
  | (refine Tri.mono (hasB_t _ _ (by decide)) ?_; rintro _ h ⟨rfl, rfl⟩; refine ⟨_, rfl, ?_⟩)
  | (refine Tri.mono (isReg_t _ _) ?_; rintro _ h ⟨rfl, rfl⟩; refine ⟨_, rfl, ?_⟩)
  | (refine br_split (fun e => ?_) fun e => ?_)
 all_goals refine ⟨?_, rfl⟩
 all_goals simp only [bne_iff_ne, ne_eq, bne_eq_false_iff_eq, isR, Bool.not_eq_true', Bool.not_eq_false', Bool.and_eq_true, Bool.and_eq_false_iff, decide_eq_true_eq, decide_eq_false_iff_not] at *
 all_goals first
  | (rw [if_pos (by simp <;> omega)]; done)
  | (rw [if_pos (by simp <;> omega)]; rfl)
  | (rw [if_neg (by simp <;> omega), if_pos (by simp <;> omega)]; rfl)
  | (rw [if_neg (by simp <;> omega), if_neg (by simp <;> omega)]; rfl)
end
end Go.Proofs.D
namespace Go.Den
open Go
section
variable {P : Program} {h : PHeap} {f : Operand → Value}
theorem raw_makeMap {t ty : TypeId} {Q : Value → PHeap → Prop} (hq : ∀ b, h b = none → Q (.map (some b)) (h.put b (.map ⟨[]⟩ 0))) : Raw P (execOp f (mkO (.makeMap t none) ty)) h Q := by
 intro w hs
 refine ⟨.value (.map (some w.heap.size)), .map (some w.heap.size), w.alloc (.map ⟨[]⟩ 0), h.put w.heap.size (.map ⟨[]⟩ 0), ?_, .inl rfl, hq _ hs.fresh, hs.allocReal _, Keep.allocReal w h _⟩
 rfl
theorem beq_bytesS (a b : List UInt8) : ((⟨⟨a⟩⟩ : ByteArray) == ⟨⟨b⟩⟩) = (a == b) := by
 show ((⟨a⟩ : Array UInt8) == ⟨b⟩) = (a == b)
 rw [Bool.eq_iff_iff, beq_iff_eq, beq_iff_eq]
 constructor
 · intro e; cases e; rfl
 · rintro rfl; rfl
def ents (L : List (List UInt8 × Value × Nat)) : List MapEntry := L.map fun x => ⟨vS x.1, x.2.1, x.2.2⟩
def findS (k : List UInt8) : List (List UInt8 × Value × Nat) → Nat → Option (Nat × Value)
 | [], _ => none
 | (k', v, _) :: L, i => if k == k' then some (i, v) else findS k L (i + 1)
def mapGet (L : List (List UInt8 × Value × Nat)) (k : List UInt8) : Option Value := (findS k L 0).map (·.2)
theorem findNow_S (k : List UInt8) : ∀ (L : List (List UInt8 × Value × Nat)) (i : Nat), Instr.findNow .string (vS k) (ents L) i = some (findS k L i)
 | [], _ => rfl
 | (k', v, b) :: L, i => by
   simp only [ents, List.map_cons, Instr.findNow, Instr.sameNow, beq_bytesS, findS]
   cases e : k == k' with
   | true => rfl
   | false =>
     simp only [Bool.false_eq_true, if_false]
     exact findNow_S k L (i + 1)
theorem checkKey_S {t : TypeId} (hu : P.underlying t = some .string) (e : Bool) (v : Value) (w : World) : (Instr.checkKey e 10000 t v).run P w = .ok () w := by
 have : Instr.checkKey e 10000 t v = Instr.checkKey e (9999 + 1) t v := rfl
 rw [this, Instr.checkKey]
 simp [run_underlying hu]
def getD2 (z : Value) : Option Value → Value
 | some v => v
 | none => z
theorem raw_lookupS {t key elem ty : TypeId} {ok : Bool} {m k : Operand} {r clock : Nat} {L : List (List UInt8 × Value × Nat)} {lk : List UInt8} {z : Value}
 (hu : P.underlying t = some (.map key elem)) (hks : P.underlying key = some .string) (hz : zeroT P elem = some z) (hm : f m = vM r) (hk : f k = vS lk) (hr : h r = some (.map ⟨ents L⟩ clock)) :
 Raw P (execOp f (mkO (.lookup t m k ok) ty)) h fun v h' => v = (if ok then vT [getD2 z (mapGet L lk), vB (mapGet L lk).isSome] else getD2 z (mapGet L lk)) ∧ h = h' := by
 intro w hs
 have hw := hs _ _ hr
 have hfn := findNow_S lk L 0
 have hgo : (getObj r).run P w = .ok (.map ⟨ents L⟩ clock) w := by simp [getObj, Sem.run, hw]
 have hzr : (zeroValue elem).run P w = .ok z w := by
  unfold zeroT at hz
  cases hi : P.info? elem with
  | none => rw [hi] at hz; cases hz
  | some i => rw [hi] at hz; simp at hz; simp [zeroValue, typeInfo, program, Sem.run, hi, hz]
 refine ⟨_, _, w, h, ?_, .inl rfl, ⟨rfl, rfl⟩, hs, Keep.refl w h⟩
 unfold mapGet
 cases hres : findS lk L 0 with
 | none => rw [hres] at hfn; cases ok <;> simp [execOp, mkO, Instr.lookup, run_underlying hu, hm, hk, hgo, checkKey_S hks, Instr.findKey, run_underlying hks, hfn, hzr, getD2]
 | some p => obtain ⟨i, v⟩ := p; rw [hres] at hfn; cases ok <;> simp [execOp, mkO, Instr.lookup, run_underlying hu, hm, hk, hgo, checkKey_S hks, Instr.findKey, run_underlying hks, hfn, getD2]
theorem setObj_keepS {w : World} {r : Nat} {o o2 : Obj} (hs : Sub w h) (hr : h r = some o) : Sub { w with heap := w.heap.setIfInBounds r o2 } (h.put r o2) ∧ Keep w h { w with heap := w.heap.setIfInBounds r o2 } (h.put r o2) := by
 have hw := hs _ _ hr
 have hlt := (Array.getElem?_eq_some_iff.1 hw).1
 refine ⟨fun k o' hk => ?_, rfl, rfl, rfl, by simp, fun k hk hn => ?_⟩
 · simp only [PHeap.put] at hk
   split at hk
   · rename_i e; subst e; cases hk; simp [hlt]
   · rename_i e
     show (w.heap.setIfInBounds r o2)[k]? = _
     rw [Array.getElem?_setIfInBounds_ne (Ne.symm e)]; exact hs _ _ hk
 · have : k ≠ r := fun e => by subst e; rw [hr] at hn; cases hn
   refine ⟨by simp only [PHeap.put]; rw [if_neg this]; exact hn, ?_⟩
   show (w.heap.setIfInBounds r o2)[k]? = _
   rw [Array.getElem?_setIfInBounds_ne (Ne.symm this)]
def mapSet (k : List UInt8) (x : Value) (ck : Nat) : List (List UInt8 × Value × Nat) → List (List UInt8 × Value × Nat)
 | [] => [(k, x, ck)]
 | (k', v, b) :: L => if k == k' then (k, x, b) :: L else (k', v, b) :: mapSet k x ck L
theorem findS_shift (k : List UInt8) : ∀ (L : List (List UInt8 × Value × Nat)) (i j : Nat), findS k L (i + j) = (findS k L i).map fun p => (p.1 + j, p.2)
 | [], _, _ => rfl
 | (k', v, b) :: L, i, j => by
   simp only [findS]
   cases e : k == k' with
   | true => rfl
   | false =>
     have := findS_shift k L (i + 1) j
     rw [show i + 1 + j = i + j + 1 by omega] at this
     simpa using this
theorem mapGet_cons (k' : List UInt8) (v : Value) (b : Nat) (L : List (List UInt8 × Value × Nat)) (k : List UInt8) : mapGet ((k', v, b) :: L) k = if k == k' then some v else mapGet L k := by
 simp only [mapGet, findS]
 cases e : k == k' with
 | true => rfl
 | false =>
   have := findS_shift k L 0 1
   rw [Nat.zero_add] at this
   simp only [Nat.zero_add, Bool.false_eq_true, if_false]
   rw [this]; cases findS k L 0 <;> rfl
theorem mapGet_set (k : List UInt8) (x : Value) (ck : Nat) (k2 : List UInt8) : ∀ (L : List (List UInt8 × Value × Nat)), mapGet (mapSet k x ck L) k2 = if k2 == k then some x else mapGet L k2
 | [] => by simp [mapSet, mapGet_cons]
 | (k', v, b) :: L => by
   simp only [mapSet]
   cases e : k == k' with
   | true =>
     have e : k = k' := by simpa using e
     subst e
     simp only [if_true, mapGet_cons]
     cases k2 == k <;> rfl
   | false =>
     simp only [Bool.false_eq_true, if_false, mapGet_cons, mapGet_set k x ck k2 L]
     cases e2 : k2 == k' with
     | true =>
       have e2 : k2 = k' := by simpa using e2
       subst e2
       have : (k2 == k) = false := by rw [Bool.beq_comm]; exact e
       simp [this]
     | false => rfl
theorem set_ents (k : List UInt8) (x : Value) (ck : Nat) : ∀ (L : List (List UInt8 × Value × Nat)), (∀ i v, findS k L 0 = some (i, v) → (ents L).modify i (fun e => { e with key := vS k, val := x }) = ents (mapSet k x ck L) ∧ ∃ e, (ents L)[i]? = some e ∧ e.key = vS k) ∧
 (findS k L 0 = none → ents L ++ [⟨vS k, x, ck⟩] = ents (mapSet k x ck L))
 | [] => ⟨(fun i v h => by cases h), fun _ => rfl⟩
 | (k', v', b) :: L => by
   obtain ⟨h1, h2⟩ := set_ents k x ck L
   simp only [findS, mapSet]
   cases e : k == k' with
   | true =>
     have e : k = k' := by simpa using e
     subst e
     refine ⟨fun i v h => ?_, fun h => by simp at h⟩
     simp at h
     obtain ⟨rfl, rfl⟩ := h
     exact ⟨rfl, _, rfl, rfl⟩
   | false =>
     have hs := findS_shift k L 0 1
     simp only [Nat.zero_add] at hs
     simp only [Nat.zero_add, Bool.false_eq_true, if_false, hs]
     refine ⟨fun i v h => ?_, fun h => ?_⟩
     · cases hf : findS k L 0 with
       | none => rw [hf] at h; cases h
       | some p =>
         obtain ⟨j, u⟩ := p
         rw [hf] at h; simp at h
         obtain ⟨rfl, rfl⟩ := h
         obtain ⟨g1, g2⟩ := h1 j u hf
         exact ⟨by simpa [ents] using g1, by simpa [ents] using g2⟩
     · cases hf : findS k L 0 with
       | none => simpa [ents] using h2 hf
       | some p => rw [hf] at h; cases h
theorem raw_updS {t key elem ty : TypeId} {m k v : Operand} {op : Op} {r clock : Nat} {L : List (List UInt8 × Value × Nat)} {lk : List UInt8} {x : Value}
 (hop : op = .mapUpdate t m k v ∨ op = .insert t m k v) (hu : P.underlying t = some (.map key elem)) (hks : P.underlying key = some .string) (hm : f m = vM r) (hk : f k = vS lk) (hv : f v = x) (hr : h r = some (.map ⟨ents L⟩ clock)) :
 Raw P (execOp f (mkO op ty)) h fun v h' => v = vT [] ∧ ∃ ck, h' = h.put r (.map ⟨ents (mapSet lk x clock L)⟩ ck) ∧ (mapGet L lk = none → ck = clock + 1) := by
 intro w hs
 have hw := hs _ _ hr
 have hfn := findNow_S lk L 0
 have hgo : (getObj r).run P w = .ok (.map ⟨ents L⟩ clock) w := by simp [getObj, Sem.run, hw]
 have hso : ∀ o, (setObj r o).run P w = .ok () { w with heap := w.heap.setIfInBounds r o } := fun o => by simp [setObj, Sem.run, hw]
 have hset := set_ents lk x clock L
 cases hres : findS lk L 0 with
 | none =>
   rw [hres] at hfn
   obtain ⟨k1, k2⟩ := setObj_keepS (o2 := .map ⟨ents (mapSet lk x clock L)⟩ (clock + 1)) hs hr
   refine ⟨.skip, undef, _, _, ?_, .inr ⟨rfl, rfl⟩, ⟨rfl, clock + 1, rfl, fun _ => rfl⟩, k1, k2⟩
   rw [← hset.2 hres]
   rcases hop with rfl | rfl <;> simp [execOp, mkO, hm, hk, hv, Instr.mapUpdate, run_underlying hu, hgo, checkKey_S hks, Instr.findKey, run_underlying hks, hfn, hso]
 | some p =>
   obtain ⟨i, u⟩ := p
   rw [hres] at hfn
   obtain ⟨g1, e, he, hek⟩ := hset.1 i u hres
   obtain ⟨k1, k2⟩ := setObj_keepS (o2 := .map ⟨ents (mapSet lk x clock L)⟩ clock) hs hr
   refine ⟨.skip, undef, _, _, ?_, .inr ⟨rfl, rfl⟩, ⟨rfl, clock, rfl, fun hn => by simp [mapGet, hres] at hn⟩, k1, k2⟩
   rw [← g1]
   have hsb : Instr.sameBits 10000 e.key (vS lk) = true := by rw [hek]; simp [Instr.sameBits, beq_bytesS]
   rcases hop with rfl | rfl <;> simp [execOp, mkO, hm, hk, hv, Instr.mapUpdate, run_underlying hu, hgo, checkKey_S hks, Instr.findKey, run_underlying hks, hfn, hso, he, Instr.keyThatStays, hsb]
end
end Go.Den
namespace Go.Proofs.D
open Go Go.Den Go.As
set_option maxRecDepth 100000
attribute [local irreducible] IntKind.wrap Tri
theorem LM.keep {e k : Nat} {h0 h h' : PHeap} {a : Option Addr} {n c : Nat} {css : List (List Value)} (hk : ∀ b, a = ad b 0 → h' b = h b) (hL : LM e k h0 h a n c css) : LM e k h0 h' a n c css := by
 obtain ⟨h2, h3, h4, h5, h6⟩ := hL
 exact ⟨fun b hb => ⟨(h2 b hb).1, by rw [hk b hb]; exact (h2 b hb).2⟩, h3, h4, Own.keep hk h5, h6⟩
def NotE (e : Nat) (o : Obj) : Prop := ∀ l z, o ≠ .cells l e z
theorem notE_cells {e t : Nat} (h : t ≠ e) (l : Array Value) (z : Nat × Nat) : NotE e (.cells l t z) := fun l' z' he => by
 injection he with _ h2 _; exact h h2
theorem notE_map {e : Nat} (l : Array MapEntry) (c : Nat) : NotE e (.map l c) := fun _ _ he => by cases he
section
variable {e k : Nat} {h0 h h2 : PHeap} {a : OA} {n c : Nat} {css : List (List Value)}
theorem LM.block (hM : LM e k h0 h a n c css) {b : Nat} (hb : a = ad b 0) : ∃ l, h b = some (.cells l e (0, 0)) := by
 rcases hM.row.2 with ⟨h1, _⟩ | ⟨b', cap, rest, h1, h2, _, _⟩
 · injection h1 with h1 _ _; rw [hb] at h1; cases h1
 · injection h1 with h1 _ _
   rw [hb] at h1; injection h1 with h1; injection h1 with h1 _ _
   subst h1; exact ⟨_, h2⟩
theorem LM.ne (hM : LM e k h0 h a n c css) {q : Nat} {o : Obj} (hq : h q = some o) (ho : NotE e o) : ∀ b, a = ad b 0 → b ≠ q := fun b hb hbq => by
 subst hbq
 obtain ⟨l, hl⟩ := hM.block hb
 rw [hq] at hl; injection hl with hl
 exact ho _ _ hl
theorem LM.put (hM : LM e k h0 h a n c css) {q : Nat} {o o' : Obj} (hq : h q = some o) (ho : NotE e o) : LM e k h0 (h.put q o') a n c css :=
 LM.keep (fun b hb => put_ne (hM.ne hq ho b hb)) hM
theorem Grows.ne {a : OA} {b : Nat} (hg : Grows a h h2 b) (hM : LM e k h0 h a n c css) {q : Nat} {o : Obj} (hq : h q = some o) (ho : NotE e o) : h2 q = h q := by
 refine hg.1 q fun hqb => ?_
 subst hqb
 rcases hg.2 with h1 | h1
 · rw [hq] at h1; cases h1
 · exact hM.ne hq ho q h1 rfl
theorem LM.other {e2 k2 n2 c2 : Nat} {a2 : OA} {css2 : List (List Value)} {b : Nat} (hM2 : LM e2 k2 h0 h a2 n2 c2 css2) (hM : LM e k h0 h a n c css) (he : e2 ≠ e) (hg : Grows a h h2 b) : LM e2 k2 h0 h2 a2 n2 c2 css2 :=
 LM.keep (fun q hq => by
  obtain ⟨l, hl⟩ := hM2.block hq
  exact hg.ne hM hl (notE_cells he _ _)) hM2
end
def insC (x : Ins) : List Value := [vI x.op, vI x.a, vI x.b, vI x.c]
def inL (l : List Ins) : List (List Value) := l.map insC
def lbV (l : Lb) : Value := vA [vS l.name, vB l.data, vI l.off]
def labE : Nat → List Lb → List (Bytes × Value × Nat)
 | _, [] => []
 | i, l :: ls => (l.name, lbV l, i) :: labE (i + 1) ls
def PA (mS : Nat) (ca : OA) (cn cc : Nat) (zero entry : Int) (da : OA) (dn dc : Nat) (ind he hz : Bool) (mb : Nat) (line : Int) (ua : OA) (un uc : Nat) : Obj :=
 .cells ⟨[vM mS, vL ca cn cc, vS [], vI zero, vI entry, vL none 0 0, vL da dn dc, vB ind, vB he, vB hz, vM mb, vI line, vL ua un uc]⟩ 74 (0, 0)
def PutAt (hb : PHeap) (p kind idx f : Nat) (y : List Value) : Prop :=
 (kind = 2 ∧ f = 109 ∧ ∃ c, y = [vP c 0] ∧ hb.cell c 0 = some (vP p 0)) ∨
 (kind = 1 ∧ f = 112 ∧ ∃ c d, y = [vP c 0, vP d 0] ∧ hb.cell c 0 = some (vP p 0) ∧ hb.cell d 0 = some (vI (idx : Int))) ∨
 (kind = 0 ∧ f = 115 ∧ ∃ c d, y = [vP c 0, vP d 0] ∧ hb.cell c 0 = some (vP p 0) ∧ hb.cell d 0 = some (vI (idx : Int)))
def lowM (u : Us) : Int := if u.kind = 2 then -4611686018427387904 else u.low
def highM (u : Us) : Int := if u.kind = 2 then 4611686018427387904 else u.high
def UseAt (hb : PHeap) (p : Nat) (u : Us) (cs : List Value) : Prop :=
 ∃ b1 b2 b3 b4 b5 f y, cs = [vI (u.line : Int), vF 142 [] [vP b1 0, vP b2 0, vP b3 0, vP b4 0, vP b5 0]] ∧ hb.cell b1 0 = some (vP p 0) ∧ hb.cell b2 0 = some (vS u.name) ∧
   hb.cell b3 0 = some (vI (lowM u)) ∧ hb.cell b4 0 = some (vI (highM u)) ∧ hb.cell b5 0 = some (vF f [] y) ∧ PutAt hb p u.kind u.idx f y
theorem PutAt.ext {hb hb' : PHeap} {p kind idx f : Nat} {y : List Value} (x : Ext hb hb') (hP : PutAt hb p kind idx f y) : PutAt hb' p kind idx f y := by
 rcases hP with ⟨h0, h1, c, h2, h3⟩ | ⟨h0, h1, c, d, h2, h3, h4⟩ | ⟨h0, h1, c, d, h2, h3, h4⟩
 · exact .inl ⟨h0, h1, c, h2, cell_ext (fun ob => x c ob) h3⟩
 · exact .inr (.inl ⟨h0, h1, c, d, h2, cell_ext (fun ob => x c ob) h3, cell_ext (fun ob => x d ob) h4⟩)
 · exact .inr (.inr ⟨h0, h1, c, d, h2, cell_ext (fun ob => x c ob) h3, cell_ext (fun ob => x d ob) h4⟩)
theorem UseAt.ext {hb hb' : PHeap} {p : Nat} {u : Us} {cs : List Value} (x : Ext hb hb') (hU : UseAt hb p u cs) : UseAt hb' p u cs := by
 obtain ⟨b1, b2, b3, b4, b5, f, y, h0, h1, h2, h3, h4, h5, h6⟩ := hU
 exact ⟨b1, b2, b3, b4, b5, f, y, h0, cell_ext (fun ob => x b1 ob) h1, cell_ext (fun ob => x b2 ob) h2, cell_ext (fun ob => x b3 ob) h3, cell_ext (fun ob => x b4 ob) h4, cell_ext (fun ob => x b5 ob) h5, h6.ext x⟩
def UsesAt (hb : PHeap) (p : Nat) (us : List Us) (ul : List (List Value)) : Prop := us.length = ul.length ∧ ∀ (j : Nat) (u : Us) (cs : List Value), us[j]? = some u → ul[j]? = some cs → UseAt hb p u cs
theorem UsesAt.ext {hb hb' : PHeap} {p : Nat} {us : List Us} {ul : List (List Value)} (x : Ext hb hb') (hU : UsesAt hb p us ul) : UsesAt hb' p us ul :=
 ⟨hU.1, fun j u cs h1 h2 => (hU.2 j u cs h1 h2).ext x⟩
theorem UsesAt.snoc {hb : PHeap} {p : Nat} {us : List Us} {ul : List (List Value)} {u : Us} {cs : List Value} (hU : UsesAt hb p us ul) (hu : UseAt hb p u cs) : UsesAt hb p (us ++ [u]) (ul ++ [cs]) := by
 refine ⟨by simp [hU.1], fun j u' cs' h1 h2 => ?_⟩
 by_cases hj : j < us.length
 · rw [List.getElem?_append_left hj] at h1
   rw [List.getElem?_append_left (by rw [← hU.1]; exact hj)] at h2
   exact hU.2 j u' cs' h1 h2
 · have : j = us.length := by
    have := (List.getElem?_eq_some_iff.1 h1).1
    simp at this; omega
   subst this
   have e1 : u' = u := by simpa using h1.symm
   have e2 : cs' = cs := by rw [hU.1] at h2; simpa using h2.symm
   subst e1; subst e2; exact hu
structure AK where
 ca : OA
 cc : Nat
 da : OA
 dc : Nat
 ua : OA
 uc : Nat
 mb : Nat
 ul : List (List Value)
structure ASK (hb h : PHeap) (p mS : Nat) (a : As.St) (K : AK) : Prop where
 ext : Ext hb h
 new : hb p = none
 obj : h p = some (PA mS K.ca a.p.code.length K.cc a.p.zero a.p.entry K.da a.p.data.length K.dc a.inData a.hasEntry a.hasZero K.mb a.line K.ua a.uses.length K.uc)
 code : LM 58 4 hb h K.ca a.p.code.length K.cc (inL a.p.code)
 data : LM 5 1 hb h K.da a.p.data.length K.dc (bL a.p.data)
 uses : LM 78 2 hb h K.ua a.uses.length K.uc K.ul
 useAt : UsesAt hb p a.uses K.ul
 mnew : hb K.mb = none
 labs : h K.mb = some (.map ⟨ents (labE 0 a.p.labels)⟩ a.p.labels.length)
def AS (hb h : PHeap) (p mS : Nat) (a : As.St) : Prop := ∃ K, ASK hb h p mS a K
section
variable {hb h h' : PHeap} {p mS : Nat} {a : As.St} {K : AK}
theorem PA_cell {ca : OA} {cn cc : Nat} {zero entry : Int} {da : OA} {dn dc : Nat} {ind he hz : Bool} {mb : Nat} {line : Int} {ua : OA} {un uc : Nat} (hp : h p = some (PA mS ca cn cc zero entry da dn dc ind he hz mb line ua un uc)) (o : Nat) :
 h.cell p o = ([vM mS, vL ca cn cc, vS [], vI zero, vI entry, vL none 0 0, vL da dn dc, vB ind, vB he, vB hz, vM mb, vI line, vL ua un uc])[o]? := cell_of hp o
theorem AS.line (hA : AS hb h p mS a) : h.cell p 11 = some (vI a.line) := by
 obtain ⟨K, hA⟩ := hA
 rw [PA_cell hA.obj]; rfl
theorem AS.ext (hA : AS hb h p mS a) : Ext hb h := by
 obtain ⟨K, hA⟩ := hA
 exact hA.ext
theorem ASK.grow (x : Ext h h') (hA : ASK hb h p mS a K) : ASK hb h' p mS a K :=
 ⟨hA.ext.trans x, hA.new, x _ _ hA.obj, hA.code.ext x, hA.data.ext x, hA.uses.ext x, hA.useAt, hA.mnew, x _ _ hA.labs⟩
theorem AS.grow (x : Ext h h') (hA : AS hb h p mS a) : AS hb h' p mS a := by
 obtain ⟨K, hA⟩ := hA
 exact ⟨K, hA.grow x⟩
open Classical in
def AK.mut (K : AK) (p q : Nat) : Prop := q = p ∨ q = K.mb ∨ K.ca = ad q 0 ∨ K.da = ad q 0 ∨ K.ua = ad q 0
open Classical in
noncomputable def less (K : AK) (p : Nat) (h : PHeap) : PHeap := fun q => if K.mut p q then none else h q
theorem less_mut {q : Nat} (hq : K.mut p q) : less K p h q = none := if_pos hq
theorem less_not {q : Nat} (hq : ¬ K.mut p q) : less K p h q = h q := if_neg hq
theorem ASK.rebase (x : Ext h h') (hA : ASK hb h p mS a K) : Ext hb (less K p h') ∧ ASK (less K p h') h' p mS a K ∧ ∀ q o, h q = none → h' q = some o → less K p h' q = some o := by
 have hmut : ∀ q, K.mut p q → hb q = none ∧ h q ≠ none := by
  rintro q (rfl | rfl | hq | hq | hq)
  · exact ⟨hA.new, by rw [hA.obj]; exact fun e => by cases e⟩
  · exact ⟨hA.mnew, by rw [hA.labs]; exact fun e => by cases e⟩
  · exact hA.code.own q hq
  · exact hA.data.own q hq
  · exact hA.uses.own q hq
 have hG := hA.grow x
 have hbx : Ext hb (less K p h') := fun q o hq => by
  rw [less_not fun hm => by rw [(hmut q hm).1] at hq; cases hq]
  exact hG.ext q o hq
 have base : ∀ {e k : Nat} {aa : OA} {n c : Nat} {css : List (List Value)}, (∀ q, aa = ad q 0 → K.mut p q) → LM e k hb h' aa n c css → LM e k (less K p h') h' aa n c css := fun hm hM =>
  ⟨fun b hb => ⟨less_mut (hm b hb), (hM.own b hb).2⟩, hM.len, hM.each, hM.row, hM.emp⟩
 refine ⟨hbx, ⟨fun q o hq => ?_, less_mut (.inl rfl), hG.obj, base (fun q hq => .inr (.inr (.inl hq))) hG.code, base (fun q hq => .inr (.inr (.inr (.inl hq)))) hG.data, base (fun q hq => .inr (.inr (.inr (.inr hq)))) hG.uses, hG.useAt.ext hbx, less_mut (.inr (.inl rfl)), hG.labs⟩, fun q o hq ho => ?_⟩
 · by_cases hm : K.mut p q
   · rw [less_mut hm] at hq; cases hq
   · rw [less_not hm] at hq; exact hq
 · rw [less_not fun hm => (hmut q hm).2 hq]; exact ho
theorem AS.rebase (x : Ext h h') (hA : AS hb h p mS a) : ∃ hb', Ext hb hb' ∧ AS hb' h' p mS a ∧ ∀ q o, h q = none → h' q = some o → hb' q = some o := by
 obtain ⟨K, hA⟩ := hA
 obtain ⟨h1, h2, h3⟩ := hA.rebase x
 exact ⟨_, h1, ⟨K, h2⟩, h3⟩
theorem ASK.set {a' : As.St} (hA : ASK hb h p mS a K) (h1 : a'.p.code = a.p.code) (h2 : a'.p.data = a.p.data) (h3 : a'.uses = a.uses) (h4 : a'.p.labels = a.p.labels) {o : Obj}
 (ho : o = PA mS K.ca a'.p.code.length K.cc a'.p.zero a'.p.entry K.da a'.p.data.length K.dc a'.inData a'.hasEntry a'.hasZero K.mb a'.line K.ua a'.uses.length K.uc) : ASK hb (h.put p o) p mS a' K := by
 subst ho
 have hne : ∀ e, 74 ≠ e → NotE e (PA mS K.ca a.p.code.length K.cc a.p.zero a.p.entry K.da a.p.data.length K.dc a.inData a.hasEntry a.hasZero K.mb a.line K.ua a.uses.length K.uc) := fun e he => notE_cells he _ _
 have hmb : K.mb ≠ p := fun e => by
  have := hA.labs
  rw [e, hA.obj] at this; cases this
 refine ⟨fun q o hq => ?_, hA.new, put_same _ _ _, ?_, ?_, ?_, ?_, hA.mnew, ?_⟩
 · rw [put_ne fun e => by subst e; rw [hA.new] at hq; cases hq]; exact hA.ext q o hq
 · rw [h1]; exact hA.code.put hA.obj (hne 58 (by decide))
 · rw [h2]; exact hA.data.put hA.obj (hne 5 (by decide))
 · rw [h3]; exact hA.uses.put hA.obj (hne 78 (by decide))
 · rw [h3]; exact hA.useAt
 · rw [put_ne hmb, h4]; exact hA.labs
def Res (hb : PHeap) (p mS line : Nat) (r : As.R As.St) (v : Value) (h' : PHeap) : Prop :=
 match r with
 | .error e => v = vI (e : Int) ∧ e ≠ 0 ∧ Ext hb h' ∧ h'.cell p 11 = some (vI (line : Int))
 | .ok a' => v = vI 0 ∧ ∃ hb', Ext hb hb' ∧ AS hb' h' p mS a'
end
end Go.Proofs.D
