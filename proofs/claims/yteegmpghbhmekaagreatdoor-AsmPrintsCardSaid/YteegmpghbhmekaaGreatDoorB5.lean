import Derived.Test.YteegmpghbhmekaaGreatDoorB4
import Derived.Shelf.Small.Strs
import Derived.Shelf.Strings.Split
import Derived.Laws.CopyRow
namespace Go.As
def hexD (n : Nat) : UInt8 := UInt8.ofNat (if n < 10 then 48 + n else 87 + n)
def qc (c : UInt8) : Bytes :=
 if c == 10 then [92, 110] else if c == 9 then [92, 116] else if c == 0 then [92, 48] else if c == 92 || c == 34 then [92, c]
 else if decide (c.toNat < 32) || decide (126 < c.toNat) then [92, 120, hexD (c.toNat / 16), hexD (c.toNat % 16)] else [c]
def qcs : Bytes → Bytes
 | [] => []
 | c :: l => qc c ++ qcs l
def quoteA (s : Bytes) : Bytes := 34 :: (qcs s ++ [34])
theorem hex_all : ∀ n : Fin 256, hexB (hexD (n.val / 16)) = true ∧ hexB (hexD (n.val % 16)) = true ∧ UInt8.ofNat (16 * hexN (hexD (n.val / 16)) + hexN (hexD (n.val % 16))) = UInt8.ofNat n.val := by decide +kernel
theorem unq_esc {f : Nat} {e : Bytes} {c : UInt8} {r : Bytes} (h : escB (e ++ r) = some (c, r)) : unq (f + 1) (92 :: (e ++ r)) = (unq f r).map fun x => (c :: x.1, x.2) := by
 rw [unq, if_neg (by decide), if_pos rfl, h]
theorem unq_qc (f : Nat) (c : UInt8) (r : Bytes) : unq (f + 1) (qc c ++ r) = (unq f r).map fun x => (c :: x.1, x.2) := by
 unfold qc
 split
 · rename_i h; obtain rfl : c = 10 := by simpa using h
   exact unq_esc (e := [110]) rfl
 split
 · rename_i h; obtain rfl : c = 9 := by simpa using h
   exact unq_esc (e := [116]) rfl
 split
 · rename_i h; obtain rfl : c = 0 := by simpa using h
   exact unq_esc (e := [48]) rfl
 split
 · rename_i h
   have h : c = 92 ∨ c = 34 := by simpa using h
   rcases h with rfl | rfl
   · exact unq_esc (e := [92]) rfl
   · exact unq_esc (e := [34]) rfl
 rename_i h10 h9 h0 hq
 split
 · obtain ⟨h1, h2, h3⟩ := hex_all ⟨c.toNat, c.toNat_lt⟩
   simp only at h1 h2 h3
   refine unq_esc (e := [120, hexD (c.toNat / 16), hexD (c.toNat % 16)]) ?_
   show escB (120 :: hexD (c.toNat / 16) :: hexD (c.toNat % 16) :: r) = _
   rw [escB, h1, h2, Bool.and_self, if_pos rfl, h3]
   simp
 · rename_i h
   simp only [Bool.or_eq_true, decide_eq_true_eq, not_or] at h
   have hn : c ≠ 92 ∧ c ≠ 34 := by
    constructor
    · rintro rfl; exact hq rfl
    · rintro rfl; exact hq rfl
   show unq (f + 1) (c :: r) = _
   rw [unq, if_neg hn.2, if_neg hn.1, if_neg (by omega)]
theorem unq_qcs : ∀ (s r : Bytes) (f : Nat), s.length < f → unq f (qcs s ++ 34 :: r) = some (s, r)
 | [], r, f + 1, _ => by rw [qcs, List.nil_append, unq, if_pos rfl]
 | c :: s, r, f + 1, h => by
   rw [qcs, List.append_assoc, unq_qc, unq_qcs s r f (by simpa using h)]; rfl
theorem qc_len (c : UInt8) : 1 ≤ (qc c).length := by
 unfold qc
 repeat' split
 all_goals simp
theorem qcs_len : ∀ (s : Bytes), s.length ≤ (qcs s).length
 | [] => Nat.le_refl _
 | c :: s => by have := qc_len c; have := qcs_len s; rw [qcs, List.length_append, List.length_cons]; omega
theorem hexD_ne : ∀ n : Fin 16, hexD n.val ≠ 10 := by decide +kernel
theorem qc_nl (c : UInt8) : ∀ x ∈ qc c, x ≠ 10 := by
 have hc := c.toNat_lt
 have h1 := hexD_ne ⟨c.toNat / 16, by omega⟩
 have h2 := hexD_ne ⟨c.toNat % 16, by omega⟩
 simp only at h1 h2
 intro x hx
 unfold qc at hx
 split at hx
 · simp at hx; rcases hx with rfl | rfl <;> decide
 rename_i n10
 split at hx
 · simp at hx; rcases hx with rfl | rfl <;> decide
 split at hx
 · simp at hx; rcases hx with rfl | rfl <;> decide
 split at hx
 · simp at hx
   rcases hx with rfl | rfl
   · decide
   · intro e; exact n10 (by simp [e])
 split at hx
 · simp at hx
   rcases hx with rfl | rfl | rfl | rfl
   · decide
   · decide
   · exact h1
   · exact h2
 · simp at hx; subst hx; intro e; exact n10 (by simp [e])
theorem qcs_nl : ∀ (s : Bytes), ∀ x ∈ qcs s, x ≠ 10
 | [], x, hx => by cases hx
 | c :: s, x, hx => by
   rw [qcs, List.mem_append] at hx
   rcases hx with hx | hx
   · exact qc_nl c x hx
   · exact qcs_nl s x hx
theorem split_one : ∀ (l : Bytes), (∀ x ∈ l, x ≠ 10) → splitAt10 l = [l]
 | [], _ => rfl
 | c :: l, h => by
   rw [splitAt10, if_neg (h c (List.mem_cons_self ..)), split_one l fun x hx => h x (List.mem_cons_of_mem _ hx)]
theorem split_line : ∀ (l r : Bytes), (∀ x ∈ l, x ≠ 10) → splitAt10 (l ++ 10 :: r) = l :: splitAt10 r
 | [], r, _ => by rw [List.nil_append, splitAt10, if_pos rfl]
 | c :: l, r, h => by
   rw [List.cons_append, splitAt10, if_neg (h c (List.mem_cons_self ..)), split_line l r fun x hx => h x (List.mem_cons_of_mem _ hx)]
def qText (s : Bytes) : Bytes := [104, 97, 108, 116] ++ 10 :: (dData ++ 10 :: (dText ++ 32 :: quoteA s))
theorem tokens_quote (s : Bytes) : tokensL (dText ++ 32 :: quoteA s) = some [⟨1, dText⟩, ⟨2, s⟩] := by
 have hl := qcs_len s
 unfold tokensL quoteA
 obtain ⟨f, hf⟩ : ∃ f, (dText ++ 32 :: (34 :: (qcs s ++ [34]))).length + 1 = f + 4 := ⟨(qcs s).length + 5, by simp [dText]⟩
 rw [hf]
 have h0 : tokensS (f + 1) [] = some [] := rfl
 have h1 : tokensS (f + 2) (34 :: (qcs s ++ [34])) = some [⟨2, s⟩] := by
  rw [tokensS, if_neg (by decide), if_neg (by decide), if_neg (by decide), if_neg (by decide), if_pos rfl, unq_qcs s [] _ (by simp; omega)]
  simp only [h0, Option.map_some]
 have h2 : tokensS (f + 3) (32 :: 34 :: (qcs s ++ [34])) = some [⟨2, s⟩] := by
  rw [tokensS, if_neg (by decide), if_pos (.inl rfl), h1]
 show tokensS (f + 4) (46 :: 116 :: 101 :: 120 :: 116 :: 32 :: 34 :: (qcs s ++ [34])) = _
 rw [tokensS, if_neg (by decide), if_neg (by decide), if_neg (by decide), if_neg (by decide), if_neg (by decide), if_pos (by decide)]
 have hd : (46 :: 116 :: 101 :: 120 :: 116 :: 32 :: 34 :: (qcs s ++ [34]) : Bytes).dropWhile wordB = 32 :: 34 :: (qcs s ++ [34]) := by
  simp [List.dropWhile, wordB, letterB, digitB]
 have ht : (46 :: 116 :: 101 :: 120 :: 116 :: 32 :: 34 :: (qcs s ++ [34]) : Bytes).takeWhile wordB = dText := by
  simp [List.takeWhile, wordB, letterB, digitB, dText]
 rw [hd, ht, h2]; rfl
theorem quote_back {s : Bytes} (hs : s.length ≤ 300) : assembleS (qText s) = .ok ⟨[⟨0, 0, 0, 0⟩], s, 0, 0, []⟩ := by
 have hq : ∀ x ∈ dText ++ 32 :: quoteA s, x ≠ 10 := by
  intro x hx
  rw [List.mem_append] at hx
  rcases hx with hx | hx
  · revert x; decide
  · rw [List.mem_cons, quoteA, List.mem_cons, List.mem_append] at hx
    rcases hx with rfl | rfl | hx | hx
    · decide
    · decide
    · exact qcs_nl s x hx
    · simp at hx; subst hx; decide
 have hsp : splitAt10 (qText s) = [[104, 97, 108, 116], dData, dText ++ 32 :: quoteA s] := by
  unfold qText
  rw [split_line _ _ (by decide), split_line _ _ (by decide), split_one _ hq]
 have h4 : (qcs s).length ≤ 4 * s.length := by
  clear hsp hq hs
  induction s with
  | nil => simp [qcs]
  | cons c s ih =>
    have : (qc c).length ≤ 4 := by
     unfold qc
     repeat' split
     all_goals simp
    rw [qcs, List.length_append, List.length_cons]; omega
 have hlen : ¬ 65536 < (qText s).length := by simp [qText, dData, dText, quoteA]; omega
 unfold assembleS
 rw [if_neg hlen, hsp]
 have l1 : lineS st0 [104, 97, 108, 116] = .ok { st0 with p := { st0.p with code := [⟨0, 0, 0, 0⟩] } } := by rfl
 have l2 : ∀ a : St, lineS a dData = .ok { a with inData := true } := fun a => rfl
 have l3 : ∀ a : St, a.inData = true → a.p.data = [] → lineS a (dText ++ 32 :: quoteA s) = .ok { a with p := { a.p with data := s } } := by
  intro a h1 h2
  unfold lineS
  rw [tokens_quote]
  show stmtS a dText [⟨2, s⟩] = _
  have : wordsB.findIdx? (· == dText) = none := by decide
  unfold stmtS
  rw [this]
  simp [dText, dCode, dData, dEntry, dZero, dWord, dByte, dSpace, h1, h2, full]
  omega
 rw [linesS, l1]
 simp only
 rw [linesS, l2]
 simp only
 rw [linesS, l3 _ rfl rfl]
 simp only [linesS, resolveS, st0, sortL, List.foldl_nil]
 have hc : checkP ⟨[⟨0, 0, 0, 0⟩], s, 0, 0, []⟩ = 0 := by
  unfold checkP
  have h1 : (([⟨0, 0, 0, 0⟩] : List Ins).map checkI).find? (· ≠ 0) = none := by decide
  rw [h1]
  simp only [dataAt, labelsErr, twice, List.map_nil, List.length_nil, List.length_cons]
  rw [if_neg (by simp; omega), if_neg (by simp)]
  rfl
 exact if_neg (fun h => h hc)
end Go.As
namespace Go.As
def haltB : Bytes := [104, 97, 108, 116]
theorem take_words : ∀ (s r : Bytes), s.all wordB = true → (s ++ 58 :: r).takeWhile wordB = s ∧ (s ++ 58 :: r).dropWhile wordB = 58 :: r
 | [], r, _ => by
   have h : wordB 58 = false := by decide
   simp [List.takeWhile, List.dropWhile, h]
 | c :: s, r, h => by
   simp only [List.all_cons, Bool.and_eq_true] at h
   obtain ⟨h1, h2⟩ := take_words s r h.2
   simp only [List.cons_append, List.takeWhile, List.dropWhile, h.1, h1, h2, and_self]
theorem word_ne {c : UInt8} (h : wordB c = true) : c ≠ 59 ∧ ¬ (c = 32 ∨ c = 9) ∧ c ≠ 44 ∧ c ≠ 58 ∧ c ≠ 34 := by
 refine ⟨?_, ?_, ?_, ?_, ?_⟩
 · rintro rfl; exact absurd h (by decide)
 · rintro (rfl | rfl) <;> exact absurd h (by decide)
 · rintro rfl; exact absurd h (by decide)
 · rintro rfl; exact absurd h (by decide)
 · rintro rfl; exact absurd h (by decide)
theorem tokens_name {s : Bytes} (h : s.all wordB = true) (hn : s ≠ []) : tokensL (s ++ 58 :: haltB) = some [⟨1, s⟩, ⟨4, [58]⟩, ⟨1, haltB⟩] := by
 have htw := take_words s haltB h
 unfold tokensL
 have hend : ∀ f, tokensS (f + 3) (58 :: haltB) = some [⟨4, [58]⟩, ⟨1, haltB⟩] := fun f => rfl
 match s, hn, h, htw with
 | c :: s, _, h, htw =>
   simp only [List.all_cons, Bool.and_eq_true] at h
   obtain ⟨n1, n2, n3, n4, n5⟩ := word_ne h.1
   have hf : (c :: s ++ 58 :: haltB).length + 1 = (s.length + 3) + 3 + 1 := by simp [haltB]
   rw [hf, List.cons_append, tokensS, if_neg n1, if_neg n2, if_neg n3, if_neg n4, if_neg n5, if_pos h.1]
   rw [List.cons_append] at htw
   rw [htw.1, htw.2, hend]; rfl
theorem names_back {s : Bytes} (h : s.all wordB = true) (hs : s.length ≤ 60) :
 assembleS (s ++ 58 :: haltB) = if s = [] then .error (1, 30) else if isLabel s = false then .error (1, 12) else .ok ⟨[⟨0, 0, 0, 0⟩], [], 0, 0, [⟨s, false, 0⟩]⟩ := by
 by_cases hn : s = []
 · subst hn; rfl
 rw [if_neg hn]
 have hnl : ∀ x ∈ s ++ 58 :: haltB, x ≠ 10 := by
  intro x hx
  rw [List.mem_append] at hx
  rcases hx with hx | hx
  · rintro rfl
    have := List.all_eq_true.1 h 10 hx
    exact absurd this (by decide)
  · revert x; decide
 unfold assembleS
 rw [if_neg (by simp [haltB]; omega), split_one _ hnl, linesS]
 have hline : lineS st0 (s ++ 58 :: haltB) = if isLabel s = false then .error 12 else .ok { st0 with p := { st0.p with code := [⟨0, 0, 0, 0⟩], labels := [⟨s, false, 0⟩] } } := by
  unfold lineS
  rw [tokens_name h hn]
  show (defineS st0 [s] >>= fun a => stmtS a haltB []) = _
  rw [defineS]
  by_cases hl : isLabel s = false
  · rw [if_pos hl, if_pos hl]; rfl
  · rw [if_neg hl, if_neg hl]; rfl
 rw [hline]
 by_cases hl : isLabel s = false
 · rw [if_pos hl, if_pos hl]; rfl
 · rw [if_neg hl, if_neg hl]
   have hl : isLabel s = true := by simpa using hl
   simp only [linesS, resolveS, st0, sortL, List.foldl_cons, List.foldl_nil, insL]
   have hc : checkP ⟨[⟨0, 0, 0, 0⟩], [], 0, 0, [⟨s, false, 0⟩]⟩ = 0 := by
    unfold checkP
    have h1 : (([⟨0, 0, 0, 0⟩] : List Ins).map checkI).find? (· ≠ 0) = none := by decide
    rw [h1]
    simp [dataAt, labelsErr, twice, hl]
   exact if_neg (fun h => h hc)
theorem names_at (s : Bytes) : address ⟨[⟨0, 0, 0, 0⟩], [], 0, 0, [⟨s, false, 0⟩]⟩ s = some 0 := by
 simp [address, placeOf]
end Go.As
namespace Go.As
theorem tokens_sp (r : Bytes) (f : Nat) : ∀ n, tokensS (f + n) (List.replicate n 32 ++ r) = tokensS f r
 | 0 => rfl
 | n + 1 => by
   rw [List.replicate_succ, List.cons_append, ← Nat.add_assoc, tokensS, if_neg (by decide), if_pos (.inl rfl)]
   exact tokens_sp r f n
theorem limits_long (n : Nat) : assembleS (List.replicate (65531 + n) 32 ++ haltB) = if 1 < n then .error (0, 5) else .ok ⟨[⟨0, 0, 0, 0⟩], [], 0, 0, []⟩ := by
 have hlen : (List.replicate (65531 + n) 32 ++ haltB).length = 65535 + n := by simp [haltB]; omega
 unfold assembleS
 by_cases h : 1 < n
 · rw [if_pos (by rw [hlen]; omega), if_pos h]
 · rw [if_neg (by rw [hlen]; omega), if_neg h]
   have hnl : ∀ x ∈ List.replicate (65531 + n) (32 : UInt8) ++ haltB, x ≠ 10 := by
    intro x hx
    rw [List.mem_append] at hx
    rcases hx with hx | hx
    · rw [(List.mem_replicate.1 hx).2]; decide
    · revert x; decide
   have htok : tokensL (List.replicate (65531 + n) 32 ++ haltB) = some [⟨1, haltB⟩] := by
    unfold tokensL
    rw [hlen, show 65535 + n + 1 = 5 + (65531 + n) by omega, tokens_sp]; rfl
   rw [split_one _ hnl, linesS]
   have hline : lineS st0 (List.replicate (65531 + n) 32 ++ haltB) = .ok { st0 with p := { st0.p with code := [⟨0, 0, 0, 0⟩] } } := by
    unfold lineS
    rw [htok]; rfl
   rw [hline]; rfl
theorem number_dec {d : Bytes} (h : d.all digitB = true) (h1 : 1 ≤ d.length) (h2 : d.length ≤ 10) : numberS d = some ((decN d : Nat) : Int) := by
 have hdec : decB d = some (decN d) := by
  unfold decB
  refine if_neg fun h3 => ?_
  rcases h3 with h3 | h3 | h3
  · omega
  · omega
  · rw [h] at h3; cases h3
 unfold numberS
 split
 · exact absurd h (by simp [digitB])
 · exact absurd h (by simp [digitB])
 · rw [hdec]; rfl
def zText (d : Bytes) : Bytes := haltB ++ 10 :: (dData ++ 10 :: ([46, 115, 112, 97, 99, 101, 32, 49, 48, 48] ++ 10 :: (dZero ++ 32 :: d)))
theorem digit_word {c : UInt8} (h : digitB c = true) : wordB c = true := by simp [wordB, h]
theorem tokens_zero {d : Bytes} (h : d.all digitB = true) (h1 : 1 ≤ d.length) : tokensL (dZero ++ 32 :: d) = some [⟨1, dZero⟩, ⟨1, d⟩] := by
 have hw : d.all wordB = true := by
  rw [List.all_eq_true] at h ⊢
  exact fun x hx => digit_word (h x hx)
 have htd : d.takeWhile wordB = d ∧ d.dropWhile wordB = [] := by
  clear h1 h
  induction d with
  | nil => exact ⟨rfl, rfl⟩
  | cons c d ih =>
    simp only [List.all_cons, Bool.and_eq_true] at hw
    obtain ⟨i1, i2⟩ := ih hw.2
    simp only [List.takeWhile, List.dropWhile, hw.1, i1, i2, and_self]
 have ht : ∀ f, tokensS (f + 2) d = some [⟨1, d⟩] := by
  intro f
  match d, hw, h1, htd with
  | c :: d, hw, _, htd =>
    simp only [List.all_cons, Bool.and_eq_true] at hw
    obtain ⟨n1, n2, n3, n4, n5⟩ := word_ne hw.1
    rw [tokensS, if_neg n1, if_neg n2, if_neg n3, if_neg n4, if_neg n5, if_pos hw.1, htd.1, htd.2]; rfl
 unfold tokensL
 have hl : (dZero ++ 32 :: d).length + 1 = d.length + 3 + 2 + 1 + 1 := by simp [dZero]
 rw [hl]
 show tokensS (d.length + 3 + 2 + 1 + 1) (46 :: 122 :: 101 :: 114 :: 111 :: 32 :: d) = _
 rw [tokensS, if_neg (by decide), if_neg (by decide), if_neg (by decide), if_neg (by decide), if_neg (by decide), if_pos (by decide)]
 have hd : (46 :: 122 :: 101 :: 114 :: 111 :: 32 :: d : Bytes).dropWhile wordB = 32 :: d ∧ (46 :: 122 :: 101 :: 114 :: 111 :: 32 :: d : Bytes).takeWhile wordB = dZero := by
  simp [List.dropWhile, List.takeWhile, wordB, letterB, digitB, dZero]
 rw [hd.1, hd.2, tokensS, if_neg (by decide), if_pos (.inl rfl), ht]; rfl
theorem limits_zero {d : Bytes} (h : d.all digitB = true) (h1 : 1 ≤ d.length) (h2 : d.length ≤ 10) :
 assembleS (zText d) = if 4096 < decN d then .error (4, 2) else if 3932 < decN d then .error (0, 9) else .ok ⟨[⟨0, 0, 0, 0⟩], List.replicate 100 0, decN d, 0, []⟩ := by
 have hnl : ∀ x ∈ dZero ++ 32 :: d, x ≠ 10 := by
  intro x hx
  rw [List.mem_append, List.mem_cons] at hx
  rcases hx with hx | rfl | hx
  · revert x; decide
  · decide
  · rintro rfl
    exact absurd (List.all_eq_true.1 h 10 hx) (by decide)
 have hsp : splitAt10 (zText d) = [haltB, dData, [46, 115, 112, 97, 99, 101, 32, 49, 48, 48], dZero ++ 32 :: d] := by
  unfold zText
  rw [split_line _ _ (by decide), split_line _ _ (by decide), split_line _ _ (by decide), split_one _ hnl]
 unfold assembleS
 rw [if_neg (by simp [zText, haltB, dData, dZero]; omega), hsp]
 have l1 : lineS st0 haltB = .ok { st0 with p := { st0.p with code := [⟨0, 0, 0, 0⟩] } } := by rfl
 have l2 : ∀ a : St, lineS a dData = .ok { a with inData := true } := fun a => rfl
 have l3 : lineS ⟨⟨[⟨0, 0, 0, 0⟩], [], 0, 0, []⟩, true, false, false, [], 3⟩ [46, 115, 112, 97, 99, 101, 32, 49, 48, 48] = .ok ⟨⟨[⟨0, 0, 0, 0⟩], List.replicate 100 0, 0, 0, []⟩, true, false, false, [], 3⟩ := by rfl
 have l4 : lineS ⟨⟨[⟨0, 0, 0, 0⟩], List.replicate 100 0, 0, 0, []⟩, true, false, false, [], 4⟩ (dZero ++ 32 :: d) = if 4096 < decN d then .error 2 else .ok ⟨⟨[⟨0, 0, 0, 0⟩], List.replicate 100 0, decN d, 0, []⟩, true, false, true, [], 4⟩ := by
  unfold lineS
  rw [tokens_zero h h1]
  show stmtS ⟨⟨[⟨0, 0, 0, 0⟩], List.replicate 100 0, 0, 0, []⟩, true, false, false, [], 4⟩ dZero [⟨1, d⟩] = _
  have : wordsB.findIdx? (· == dZero) = none := by decide
  unfold stmtS
  rw [this]
  simp only [dZero, dCode, dData, dEntry]
  rw [if_neg (by decide), if_neg (by decide), if_pos trivial, if_neg (by decide), if_neg (by simp [noStr])]
  show (literalS d 0 4096 >>= _) = _
  unfold literalS
  rw [number_dec h h1 h2]
  simp only
  by_cases hz : 4096 < decN d
  · rw [if_pos (.inr (by omega)), if_pos hz]; rfl
  · rw [if_neg (by omega), if_neg hz]; rfl
 rw [linesS, l1]
 simp only
 rw [linesS, l2]
 simp only
 rw [linesS]
 simp only [st0]
 rw [l3]
 simp only
 rw [linesS, l4]
 by_cases hz : 4096 < decN d
 · rw [if_pos hz, if_pos hz]
 · rw [if_neg hz, if_neg hz]
   simp only [linesS, resolveS, sortL, List.foldl_nil]
   have hc : checkP ⟨[⟨0, 0, 0, 0⟩], List.replicate 100 0, decN d, 0, []⟩ = if 3932 < decN d then 9 else 0 := by
    unfold checkP
    have h1 : (([⟨0, 0, 0, 0⟩] : List Ins).map checkI).find? (· ≠ 0) = none := by decide
    rw [h1]
    simp only [dataAt, List.length_cons, List.length_nil, List.length_replicate]
    by_cases h3 : 3932 < decN d
    · rw [if_pos (by omega), if_pos h3]
    · rw [if_neg (by omega), if_neg h3, if_neg (by omega)]; rfl
   by_cases h3 : 3932 < decN d
   · rw [if_pos h3]
     rw [if_pos h3] at hc
     refine (if_pos (fun h => ?_)).trans ?_
     · rw [hc] at h; cases h
     · rw [hc]
   · rw [if_neg h3]
     rw [if_neg h3] at hc
     exact if_neg (fun h => h hc)
end Go.As
namespace Go.As
structure Tail (x : Bytes) : Prop where
 none : ∀ f, x.length < f → tokensS f x = some []
 head : ∀ c r, x = c :: r → wordB c = false
theorem while_app {x : Bytes} (hx : Tail x) : ∀ l : Bytes, (l ++ x).takeWhile wordB = l.takeWhile wordB ∧ (l ++ x).dropWhile wordB = l.dropWhile wordB ++ x
 | [] => by
   cases x with
   | nil => exact ⟨rfl, rfl⟩
   | cons c r => have := hx.head c r rfl; simp [List.takeWhile, List.dropWhile, this]
 | c :: l => by
   obtain ⟨h1, h2⟩ := while_app hx l
   rw [List.cons_append]
   cases hc : wordB c with
   | true => simp only [List.takeWhile, List.dropWhile, hc, h1, h2, and_self]
   | false => simp [List.takeWhile, List.dropWhile, hc]
theorem drop_len : ∀ l : Bytes, (l.dropWhile wordB).length ≤ l.length
 | [] => Nat.le_refl _
 | c :: l => by
   have := drop_len l
   cases hc : wordB c <;> simp [List.dropWhile, hc]; omega
theorem drop_mem : ∀ (l : Bytes) (x : UInt8), x ∈ l.dropWhile wordB → x ∈ l
 | [], x, h => h
 | c :: l, x, h => by
   cases hc : wordB c
   · simpa [List.dropWhile, hc] using h
   · simp only [List.dropWhile, hc] at h
     exact List.mem_cons_of_mem _ (drop_mem l x h)
theorem tok_tail {x : Bytes} (hx : Tail x) : ∀ (f : Nat) (l : Bytes) (g : Nat), (∀ c ∈ l, c ≠ 34 ∧ c ≠ 59) → l.length + x.length < f → l.length < g → tokensS f (l ++ x) = tokensS g l := by
 intro f
 induction f with
 | zero => intro l g _ h; omega
 | succ f ih =>
   intro l g hl hf hg
   obtain ⟨g, rfl⟩ : ∃ k, g = k + 1 := ⟨g - 1, by omega⟩
   match l, hl, hf, hg with
   | [], _, hf, _ => rw [List.nil_append, hx.none _ (by simpa using hf)]; rfl
   | c :: r, hl, hf, hg =>
     simp only [List.length_cons] at hf hg
     have hc := hl c (List.mem_cons_self ..)
     have hr := ih r g (fun c h => hl c (List.mem_cons_of_mem _ h)) (by omega) (by omega)
     rw [List.cons_append, tokensS, tokensS, if_neg hc.2, if_neg hc.2, if_neg hc.1, if_neg hc.1, hr]
     by_cases h1 : c = 32 ∨ c = 9
     · rw [if_pos h1, if_pos h1]
     rw [if_neg h1, if_neg h1]
     by_cases h2 : c = 44
     · rw [if_pos h2, if_pos h2]
     rw [if_neg h2, if_neg h2]
     by_cases h3 : c = 58
     · rw [if_pos h3, if_pos h3]
     rw [if_neg h3, if_neg h3]
     cases hw : wordB c with
     | false => rfl
     | true =>
       obtain ⟨w1, w2⟩ := while_app hx (c :: r)
       rw [List.cons_append] at w1 w2
       rw [w1, w2]
       have hd : (c :: r).dropWhile wordB = r.dropWhile wordB := by simp [List.dropWhile, hw]
       rw [hd]
       have hlen := drop_len r
       rw [ih (r.dropWhile wordB) g (fun c h => hl c (List.mem_cons_of_mem _ (drop_mem _ _ h))) (by omega) (by omega)]
theorem tok_blank {b : Bytes} (hb : ∀ c ∈ b, c = 32 ∨ c = 9) : ∀ (r : Bytes) (f : Nat), tokensS (f + b.length) (b ++ r) = tokensS f r := by
 induction b with
 | nil => intro r f; rfl
 | cons c b ih =>
   intro r f
   have hc := hb c (List.mem_cons_self ..)
   rw [List.length_cons, ← Nat.add_assoc, List.cons_append, tokensS, if_neg (by rcases hc with rfl | rfl <;> decide), if_pos hc]
   exact ih (fun c h => hb c (List.mem_cons_of_mem _ h)) r f
theorem line_same {b l x : Bytes} (hb : ∀ c ∈ b, c = 32 ∨ c = 9) (hl : ∀ c ∈ l, c ≠ 34 ∧ c ≠ 59) (hx : Tail x) : tokensL (b ++ (l ++ x)) = tokensL l := by
 unfold tokensL
 have h1 : (b ++ (l ++ x)).length + 1 = ((l ++ x).length + 1) + b.length := by simp; omega
 rw [h1, tok_blank hb]
 exact tok_tail hx _ l _ hl (by simp) (by omega)
theorem Tail.comment (r : Bytes) : Tail (59 :: r) := by
 refine ⟨fun f h => ?_, fun c r' h => by injection h with h _; subst h; decide⟩
 obtain ⟨f, rfl⟩ : ∃ k, f = k + 1 := ⟨f - 1, by simp at h; omega⟩
 rw [tokensS, if_pos rfl]
theorem Tail.blank {c : UInt8} {x : Bytes} (hc : c = 32 ∨ c = 9) (hx : Tail x) : Tail (c :: x) := by
 refine ⟨fun f h => ?_, fun c' r' h => by injection h with h _; subst h; rcases hc with rfl | rfl <;> decide⟩
 obtain ⟨f, rfl⟩ : ∃ k, f = k + 1 := ⟨f - 1, by simp at h; omega⟩
 rw [tokensS, if_neg (by rcases hc with rfl | rfl <;> decide), if_pos hc]
 exact hx.none f (by simpa using h)
theorem Tail.nil : Tail [] := ⟨fun f h => by obtain ⟨f, rfl⟩ : ∃ k, f = k + 1 := ⟨f - 1, by simp at h; omega⟩; rfl, fun c r h => by cases h⟩
def between : Nat → Bytes
 | 0 => [32]
 | 1 => [9, 59, 32, 120, 58, 32, 34]
 | 2 => [32, 32, 9]
 | _ => [59, 44, 58]
theorem between_tail : ∀ n, Tail (between n)
 | 0 => .blank (.inl rfl) .nil
 | 1 => .blank (.inr rfl) (.comment _)
 | 2 => .blank (.inl rfl) (.blank (.inl rfl) (.blank (.inr rfl) .nil))
 | _ + 3 => .comment _
theorem lines_same : ∀ (l m : List Bytes) (a : St), l.map tokensL = m.map tokensL → linesS a l = linesS a m
 | [], [], _, _ => rfl
 | [], _ :: _, _, h => by cases h
 | _ :: _, [], _, h => by cases h
 | x :: l, y :: m, a, h => by
   simp only [List.map_cons, List.cons.injEq] at h
   have : lineS a x = lineS a y := by unfold lineS; rw [h.1]
   rw [linesS, linesS, this]
   cases lineS a y with
   | error e => rfl
   | ok a' => exact lines_same l m _ h.2
end Go.As
namespace Go.As
def spread (β : Bytes) : Bytes → Bytes
 | [] => []
 | c :: r => if c = 10 then β ++ (10 :: 9 :: 32 :: spread β r) else c :: spread β r
theorem nl_app {a b : Bytes} (ha : ∀ x ∈ a, x ≠ 10) (hb : ∀ x ∈ b, x ≠ 10) : ∀ x ∈ a ++ b, x ≠ 10 := fun x hx => (List.mem_append.1 hx).elim (ha x) (hb x)
theorem split_ne : ∀ s : Bytes, ∃ h t, splitAt10 s = h :: t
 | [] => ⟨_, _, rfl⟩
 | c :: r => by
   rw [splitAt10]
   split
   · exact ⟨_, _, rfl⟩
   · obtain ⟨h, t, e⟩ := split_ne r
     rw [e]; exact ⟨_, _, rfl⟩
theorem split_spread {β : Bytes} (hβ : ∀ x ∈ β, x ≠ 10) (r : Bytes) : ∀ (s b : Bytes), (∀ x ∈ b, x ≠ 10) → ∀ h t, splitAt10 s = h :: t →
 splitAt10 (b ++ (spread β s ++ (β ++ 10 :: r))) = ((b ++ (h ++ β)) :: t.map fun l => [9, 32] ++ (l ++ β)) ++ splitAt10 r
 | [], b, hb, h, t, e => by
   cases e
   rw [spread, List.nil_append, ← List.append_assoc, split_line _ _ (nl_app hb hβ)]
   simp
 | c :: s, b, hb, h, t, e => by
   obtain ⟨h', t', e'⟩ := split_ne s
   rw [splitAt10] at e
   by_cases hc : c = 10
   · rw [if_pos hc] at e
     cases e
     rw [spread, if_pos hc]
     have h1 : b ++ ((β ++ 10 :: 9 :: 32 :: spread β s) ++ (β ++ 10 :: r)) = (b ++ β) ++ 10 :: ([9, 32] ++ (spread β s ++ (β ++ 10 :: r))) := by simp
     rw [h1, split_line _ _ (nl_app hb hβ)]
     rw [split_spread hβ r s [9, 32] (by decide) h' t' e', e']
     simp
   · rw [if_neg hc, e'] at e
     cases e
     rw [spread, if_neg hc]
     have h1 : b ++ ((c :: spread β s) ++ (β ++ 10 :: r)) = (b ++ [c]) ++ (spread β s ++ (β ++ 10 :: r)) := by simp
     rw [h1, split_spread hβ r s (b ++ [c]) (nl_app hb (fun x hx => by simp at hx; subst hx; exact hc)) _ _ e']
     simp
theorem lines_app : ∀ (l m : List Bytes) (a : St), linesS a (l ++ m) = match linesS a l with | .error e => .error e | .ok a' => linesS a' m
 | [], _, _ => rfl
 | x :: l, m, a => by
   rw [List.cons_append, linesS, linesS]
   cases lineS a x with
   | error e => rfl
   | ok a' => exact lines_app l m _
theorem split_mem : ∀ (s : Bytes) (l : Bytes), l ∈ splitAt10 s → ∀ x ∈ l, x ∈ s
 | [], l, hl, x, hx => by simp [splitAt10] at hl; subst hl; cases hx
 | c :: s, l, hl, x, hx => by
   rw [splitAt10] at hl
   split at hl
   · rcases List.mem_cons.1 hl with rfl | hl
     · cases hx
     · exact List.mem_cons_of_mem _ (split_mem s l hl x hx)
   · obtain ⟨h', t', e'⟩ := split_ne s
     rw [e'] at hl
     simp only at hl
     rcases List.mem_cons.1 hl with rfl | hl
     · rcases List.mem_cons.1 hx with rfl | hx
       · exact List.mem_cons_self ..
       · exact List.mem_cons_of_mem _ (split_mem s h' (by rw [e']; exact List.mem_cons_self ..) x hx)
     · exact List.mem_cons_of_mem _ (split_mem s l (by rw [e']; exact List.mem_cons_of_mem _ hl) x hx)
theorem between_nl : ∀ n, (∀ x ∈ between n, x ≠ 10) ∧ (between n).length ≤ 7
 | 0 => by decide
 | 1 => by decide
 | 2 => by decide
 | _ + 3 => by simp [between]
theorem spread_len (β : Bytes) : ∀ s : Bytes, (spread β s).length ≤ (β.length + 3) * s.length
 | [] => by simp [spread]
 | c :: s => by
   have := spread_len β s
   rw [spread]
   split
   · simp only [List.length_append, List.length_cons, Nat.mul_add]; omega
   · simp only [List.length_cons, Nat.mul_add]; omega
def blanksT (n : Nat) (s : Bytes) : Bytes := 32 :: (spread (between n) s ++ (between n ++ [10, 10, 32, 59, 32, 101, 110, 100]))
theorem blanks_same (n : Nat) {s : Bytes} (hl : s.length ≤ 1500) (hs : ∀ c ∈ s, c ≠ 34 ∧ c ≠ 59) : assembleS (blanksT n s) = assembleS s := by
 obtain ⟨hβ, hβl⟩ := between_nl n
 obtain ⟨h, t, e⟩ := split_ne s
 have hsp : splitAt10 (blanksT n s) = (([32] ++ (h ++ between n)) :: t.map fun l => [9, 32] ++ (l ++ between n)) ++ [[], [32, 59, 32, 101, 110, 100]] := by
  have := split_spread hβ [10, 32, 59, 32, 101, 110, 100] s [32] (by decide) h t e
  have h2 : splitAt10 [10, 32, 59, 32, 101, 110, 100] = [[], [32, 59, 32, 101, 110, 100]] := by decide
  rw [h2] at this
  exact this
 have hlen := spread_len (between n) s
 have hlen2 : (between n).length * s.length ≤ 7 * 1500 := Nat.mul_le_mul hβl hl
 rw [Nat.add_mul] at hlen
 have hmem := split_mem s
 rw [e] at hmem
 have htok : ((([32] ++ (h ++ between n)) :: t.map fun l => [9, 32] ++ (l ++ between n))).map tokensL = (h :: t).map tokensL := by
  rw [List.map_cons, List.map_cons, line_same (by decide) (fun c hc => hs c (hmem h (List.mem_cons_self ..) c hc)) (between_tail n), List.map_map]
  congr 1
  refine List.map_congr_left fun l hl => ?_
  exact line_same (by decide) (fun c hc => hs c (hmem l (List.mem_cons_of_mem _ hl) c hc)) (between_tail n)
 unfold assembleS
 rw [if_neg (by simp [blanksT]; omega), if_neg (by omega), hsp, e, lines_app, lines_same _ _ _ htok]
 cases linesS st0 (h :: t) with
 | error x => rfl
 | ok a => rfl
end Go.As
namespace Go.As
theorem ite_ok {e : Nat} {q p : Pg} (h : (if e ≠ 0 then (Except.error (0, e) : Except (Nat × Nat) Pg) else .ok q) = .ok p) : e = 0 ∧ q = p := by
 by_cases h0 : e = 0
 · rw [if_neg (fun h => h h0)] at h
   exact ⟨h0, by injection h⟩
 · rw [if_pos h0] at h; cases h
theorem assemble_ok {s : Bytes} {p : Pg} (h : assembleS s = .ok p) : checkP p = 0 := by
 unfold assembleS at h
 split at h
 · cases h
 split at h
 · cases h
 split at h
 · cases h
 · obtain ⟨h1, h2⟩ := ite_ok h
   rw [← h2]; exact h1
end Go.As
namespace Go.As
def digs (u : Nat) : Bytes := if h : u < 10 then [UInt8.ofNat (48 + u)] else digs (u / 10) ++ [UInt8.ofNat (48 + u % 10)]
termination_by u
decreasing_by omega
def decI (n : Int) : Bytes := if n < 0 then 45 :: digs n.natAbs else digs n.toNat
theorem digit_all : ∀ n : Fin 10, digitB (UInt8.ofNat (48 + n.val)) = true ∧ (UInt8.ofNat (48 + n.val)).toNat - 48 = n.val := by decide +kernel
theorem digit_at {n : Nat} (h : n < 10) : digitB (UInt8.ofNat (48 + n)) = true ∧ (UInt8.ofNat (48 + n)).toNat - 48 = n := digit_all ⟨n, h⟩
theorem decN_app (a : Bytes) (c : UInt8) : decN (a ++ [c]) = 10 * decN a + (c.toNat - 48) := by simp [decN, List.foldl_append]
theorem digs_ok (n : Nat) : (digs n).all digitB = true ∧ decN (digs n) = n ∧ 1 ≤ (digs n).length := by
 induction n using Nat.strongRecOn with
 | ind n ih =>
   rw [digs]
   split
   · rename_i h
     obtain ⟨h1, h2⟩ := digit_at h
     refine ⟨by rw [List.all_cons, h1]; rfl, ?_, by simp⟩
     show 10 * 0 + ((UInt8.ofNat (48 + n)).toNat - 48) = n
     rw [h2]; omega
   · rename_i h
     obtain ⟨h1, h2⟩ := digit_at (show n % 10 < 10 by omega)
     obtain ⟨i1, i2, i3⟩ := ih (n / 10) (by omega)
     refine ⟨by rw [List.all_append, i1, List.all_cons, h1]; rfl, ?_, by simp⟩
     rw [decN_app, i2, h2]; omega
theorem digs_len : ∀ (k n : Nat), n < 10 ^ (k + 1) → (digs n).length ≤ k + 1
 | 0, n, h => by rw [digs, dif_pos (by simpa using h)]; simp
 | k + 1, n, h => by
   rw [digs]
   split
   · simp
   · have := digs_len k (n / 10) (by rw [Nat.pow_succ] at h; omega)
     simp; omega
theorem number_decI {n : Int} (h1 : -10000000000 < n) (h2 : n < 10000000000) : numberS (decI n) = some n := by
 unfold decI
 by_cases hn : n < 0
 · rw [if_pos hn]
   obtain ⟨a, b, c⟩ := digs_ok n.natAbs
   have hl := digs_len 9 n.natAbs (by omega)
   have hdec : decB (digs n.natAbs) = some n.natAbs := by
    unfold decB
    rw [b]
    refine if_neg fun h3 => ?_
    rcases h3 with h3 | h3 | h3
    · omega
    · omega
    · rw [a] at h3; cases h3
   show (decB (digs n.natAbs)).map (fun n => -(n : Int)) = _
   rw [hdec]
   simp; omega
 · rw [if_neg hn]
   obtain ⟨a, b, c⟩ := digs_ok n.toNat
   have hl := digs_len 9 n.toNat (by omega)
   rw [number_dec a c hl, b]
   simp; omega
theorem escB_len : ∀ {r : Bytes} {b : UInt8} {r' : Bytes}, escB r = some (b, r') → r'.length < r.length := by
 intro r b r' h
 unfold escB at h
 split at h
 all_goals first | (simp only [Option.some.injEq, Prod.mk.injEq] at h; obtain ⟨_, rfl⟩ := h; simp) | skip
 · split at h
   · simp only [Option.some.injEq, Prod.mk.injEq] at h; obtain ⟨_, rfl⟩ := h; simp; omega
   · cases h
 · cases h
theorem unq_len : ∀ {f : Nat} {r x r' : Bytes}, unq f r = some (x, r') → r'.length < r.length
 | 0, _, _, _, h => by simp [unq] at h
 | f + 1, [], _, _, h => by simp [unq] at h
 | f + 1, c :: r, x, r', h => by
   rw [unq] at h
   split at h
   · simp only [Option.some.injEq, Prod.mk.injEq] at h; obtain ⟨_, rfl⟩ := h; simp
   split at h
   · split at h
     · cases h
     · rename_i b r2 he
       have h1 := escB_len he
       simp only [Option.map_eq_some_iff] at h
       obtain ⟨⟨y, r3⟩, h2, h3⟩ := h
       have := unq_len h2
       simp only [Prod.mk.injEq] at h3
       obtain ⟨_, rfl⟩ := h3
       simp; omega
   split at h
   · cases h
   · simp only [Option.map_eq_some_iff] at h
     obtain ⟨⟨y, r3⟩, h2, h3⟩ := h
     have := unq_len h2
     simp only [Prod.mk.injEq] at h3
     obtain ⟨_, rfl⟩ := h3
     simp; omega
theorem tok_fuel : ∀ (f g : Nat) (s : Bytes), s.length < f → s.length < g → tokensS f s = tokensS g s := by
 intro f
 induction f with
 | zero => intro g s h; omega
 | succ f ih =>
   intro g s hf hg
   obtain ⟨g, rfl⟩ : ∃ k, g = k + 1 := ⟨g - 1, by omega⟩
   match s, hf, hg with
   | [], _, _ => rfl
   | c :: r, hf, hg =>
     simp only [List.length_cons] at hf hg
     have hr := ih g r (by omega) (by omega)
     have hd : (c :: r).dropWhile wordB = (c :: r).dropWhile wordB := rfl
     rw [tokensS, tokensS, hr]
     by_cases h34 : c = 34
     · rw [if_pos h34, if_pos h34]
       cases hu : unq (r.length + 1) r with
       | none => rfl
       | some x =>
         obtain ⟨x, r'⟩ := x
         have := unq_len hu
         simp only [ih g r' (by omega) (by omega)]
     rw [if_neg h34, if_neg h34]
     cases hw : wordB c with
     | false => rfl
     | true =>
       have hd : (c :: r).dropWhile wordB = r.dropWhile wordB := by simp [List.dropWhile, hw]
       have hlen := drop_len r
       rw [hd, ih g (r.dropWhile wordB) (by omega) (by omega)]
def Stop (r : Bytes) : Prop := ∀ c t, r = c :: t → wordB c = false
theorem while_stop {r : Bytes} (hr : Stop r) : ∀ s : Bytes, s.all wordB = true → (s ++ r).takeWhile wordB = s ∧ (s ++ r).dropWhile wordB = r
 | [], _ => by
   cases r with
   | nil => exact ⟨rfl, rfl⟩
   | cons c r => have := hr c r rfl; simp [List.takeWhile, List.dropWhile, this]
 | c :: s, h => by
   simp only [List.all_cons, Bool.and_eq_true] at h
   obtain ⟨h1, h2⟩ := while_stop hr s h.2
   simp only [List.cons_append, List.takeWhile, List.dropWhile, h.1, h1, h2, and_self]
theorem tokL_word {w r : Bytes} (hw : w.all wordB = true) (hn : w ≠ []) (hr : Stop r) : tokensL (w ++ r) = (tokensL r).map fun l => ⟨1, w⟩ :: l := by
 obtain ⟨h1, h2⟩ := while_stop hr w hw
 match w, hn, hw, h1, h2 with
 | c :: w, _, hw, h1, h2 =>
   simp only [List.all_cons, Bool.and_eq_true] at hw
   obtain ⟨n1, n2, n3, n4, n5⟩ := word_ne hw.1
   unfold tokensL
   rw [List.cons_append] at h1 h2 ⊢
   rw [tokensS, if_neg n1, if_neg n2, if_neg n3, if_neg n4, if_neg n5, if_pos hw.1, h1, h2]
   rw [tok_fuel _ (r.length + 1) r (by simp; omega) (by omega)]
theorem tokL_sp {c : UInt8} (hc : c = 32 ∨ c = 9) (r : Bytes) : tokensL (c :: r) = tokensL r := by
 unfold tokensL
 rw [tokensS, if_neg (by rcases hc with rfl | rfl <;> decide), if_pos hc]; rfl
theorem tokL_comma (r : Bytes) : tokensL (44 :: r) = (tokensL r).map fun l => ⟨3, [44]⟩ :: l := by
 unfold tokensL
 rw [tokensS, if_neg (by decide), if_neg (by decide), if_pos rfl]; rfl
theorem tokL_colon (r : Bytes) : tokensL (58 :: r) = (tokensL r).map fun l => ⟨4, [58]⟩ :: l := by
 unfold tokensL
 rw [tokensS, if_neg (by decide), if_neg (by decide), if_neg (by decide), if_pos rfl]; rfl
theorem tokL_nil : tokensL [] = some [] := rfl
theorem stop_nil : Stop [] := fun _ _ h => by cases h
theorem stop_cons {c : UInt8} (h : wordB c = false) (r : Bytes) : Stop (c :: r) := fun _ _ e => by injection e with e _; subst e; exact h
def commaT : List Bytes → Bytes
 | [] => []
 | [x] => x
 | x :: y :: l => x ++ ([44, 32] ++ commaT (y :: l))
def commaK : List Bytes → List Tk
 | [] => []
 | [x] => [⟨1, x⟩]
 | x :: y :: l => ⟨1, x⟩ :: ⟨3, [44]⟩ :: commaK (y :: l)
def isW (x : Bytes) : Prop := x.all wordB = true ∧ x ≠ []
theorem tok_comma : ∀ (l : List Bytes), (∀ x ∈ l, isW x) → tokensL (commaT l) = some (commaK l)
 | [], _ => rfl
 | [x], h => by
   obtain ⟨h1, h2⟩ := h x (List.mem_cons_self ..)
   have := tokL_word h1 h2 stop_nil
   rw [List.append_nil] at this
   rw [commaT, this]; rfl
 | x :: y :: l, h => by
   obtain ⟨h1, h2⟩ := h x (List.mem_cons_self ..)
   show tokensL (x ++ 44 :: 32 :: commaT (y :: l)) = _
   rw [tokL_word h1 h2 (stop_cons (by decide) _)]
   rw [tokL_comma, tokL_sp (.inl rfl), tok_comma (y :: l) fun z hz => h z (List.mem_cons_of_mem _ hz)]; rfl
theorem operands_comma : ∀ (l : List Bytes), operandsS (commaK l) = some (l.map fun x => ⟨1, x⟩)
 | [] => rfl
 | [x] => rfl
 | x :: y :: l => by
   have := operands_comma (y :: l)
   rw [commaK]
   obtain ⟨t, r, e⟩ : ∃ t r, commaK (y :: l) = t :: r := by cases l <;> exact ⟨_, _, rfl⟩
   rw [e] at this ⊢
   rw [operandsS, if_pos ⟨.inl rfl, rfl⟩, this]; rfl
theorem split_comma (w : Bytes) (l : List Bytes) : splitL (⟨1, w⟩ :: commaK l) = some ([], some (w, l.map fun x => ⟨1, x⟩)) := by
 match l with
 | [] => rfl
 | [x] => rfl
 | x :: y :: l =>
   have := operands_comma (x :: y :: l)
   rw [commaK] at this ⊢
   rw [splitL, if_neg (by simp)]
   simp only
   rw [if_neg (by simp), this]; rfl
def regT (n : Int) : Bytes := 114 :: decI n
def operT (x : Ins) : List Bytes := match form x.op.toNat with
 | 0 => []
 | 1 => [regT x.a]
 | 2 => [regT x.a, regT x.b]
 | 3 => [regT x.a, regT x.b, regT x.c]
 | 4 => [regT x.a, decI x.c]
 | 5 => [regT x.a, regT x.b, decI x.c]
 | _ => [decI x.c]
def wordT (op : Nat) : Bytes := wordsB.getD op []
def stmtT (w : Bytes) (l : List Bytes) : Bytes := if l.isEmpty then w else w ++ 32 :: commaT l
def lineT (x : Ins) : Bytes := stmtT (wordT x.op.toNat) (operT x)
theorem tok_stmt {w : Bytes} (hw : isW w) {l : List Bytes} (hl : ∀ x ∈ l, isW x) : tokensL (stmtT w l) = some (⟨1, w⟩ :: commaK l) := by
 unfold stmtT
 match l with
 | [] =>
   have := tokL_word hw.1 hw.2 stop_nil
   rw [List.append_nil] at this
   show tokensL w = _
   rw [this]; rfl
 | x :: l =>
   show tokensL (w ++ 32 :: commaT (x :: l)) = _
   rw [tokL_word hw.1 hw.2 (stop_cons (by decide) _), tokL_sp (.inl rfl), tok_comma _ hl]; rfl
theorem line_stmt {w : Bytes} (hw : isW w) {l : List Bytes} (hl : ∀ x ∈ l, isW x) (a : St) : lineS a (stmtT w l) = stmtS a w (l.map fun x => ⟨1, x⟩) := by
 unfold lineS
 rw [tok_stmt hw hl]
 simp only [split_comma]
 rfl
theorem line_tab (a : St) (s : Bytes) : lineS a (9 :: s) = lineS a s := by
 unfold lineS
 rw [tokL_sp (.inr rfl)]
theorem isW_decI (n : Int) : isW (decI n) := by
 have hd : ∀ n, isW (digs n) := fun n => by
  obtain ⟨a, _, c⟩ := digs_ok n
  refine ⟨?_, fun e => by rw [e] at c; simp at c⟩
  rw [List.all_eq_true] at a ⊢
  exact fun x hx => digit_word (a x hx)
 unfold decI
 split
 · refine ⟨?_, by simp⟩
   rw [List.all_cons, (hd _).1]; decide
 · exact hd _
theorem isW_regT (n : Int) : isW (regT n) := by
 refine ⟨?_, by simp [regT]⟩
 unfold regT
 rw [List.all_cons, (isW_decI n).1]; decide
theorem isW_oper (x : Ins) : ∀ y ∈ operT x, isW y := by
 intro y hy
 unfold operT at hy
 split at hy <;> simp at hy
 · subst hy; exact isW_regT _
 · rcases hy with rfl | rfl <;> exact isW_regT _
 · rcases hy with rfl | rfl | rfl <;> exact isW_regT _
 · rcases hy with rfl | rfl
   · exact isW_regT _
   · exact isW_decI _
 · rcases hy with rfl | rfl | rfl
   · exact isW_regT _
   · exact isW_regT _
   · exact isW_decI _
 · subst hy; exact isW_decI _
theorem word_all : ∀ n : Fin 27, (wordT n.val).all wordB = true ∧ wordT n.val ≠ [] ∧ wordsB.findIdx? (· == wordT n.val) = some n.val ∧ (wordT n.val).length ≤ 6 := by decide +kernel
theorem regB_T {n : Int} (h0 : 0 ≤ n) (h7 : n ≤ 7) : regB (regT n) = some n.toNat := by
 obtain ⟨k, rfl⟩ : ∃ k : Nat, n = k := ⟨n.toNat, by omega⟩
 have : ∀ k : Fin 8, regB (114 :: [UInt8.ofNat (48 + k.val)]) = some k.val := by decide +kernel
 have h := this ⟨k, by omega⟩
 unfold regT decI
 rw [if_neg (by omega), Int.toNat_natCast, digs, dif_pos (by omega)]
 exact h
structure InsOk (x : Ins) : Prop where
 op : 0 ≤ x.op ∧ x.op ≤ 26
 a : 0 ≤ x.a ∧ x.a ≤ 7
 b : 0 ≤ x.b ∧ x.b ≤ 7
 a0 : hasA (form x.op.toNat) = false → x.a = 0
 b0 : hasB (form x.op.toNat) = false → x.b = 0
 c0 : hasC (form x.op.toNat) = false → x.c = 0
 c3 : form x.op.toNat = 3 → 0 ≤ x.c ∧ x.c ≤ 7
 c4 : 4 ≤ form x.op.toNat → (limits x.op.toNat).1 ≤ x.c ∧ x.c ≤ (limits x.op.toNat).2
theorem ite_zero {c : Prop} [Decidable c] {n m : Nat} (h : (if c then n + 1 else m) = 0) : ¬ c ∧ m = 0 := by
 by_cases hc : c
 · rw [if_pos hc] at h; cases h
 · rw [if_neg hc] at h; exact ⟨hc, h⟩
theorem ins_ok {x : Ins} (h : checkI x = 0) : InsOk x := by
 unfold checkI at h
 obtain ⟨hop, h⟩ := ite_zero (n := 10) h
 obtain ⟨hz, h⟩ := ite_zero (n := 0) h
 obtain ⟨hr, _⟩ := ite_zero (n := 1) h
 simp only [Bool.or_eq_true, Bool.and_eq_true, Bool.not_eq_true', bne_iff_ne, ne_eq, not_or, not_and, Decidable.not_not] at hz
 simp only [not_or] at hr
 obtain ⟨⟨z1, z2⟩, z3⟩ := hz
 obtain ⟨r1, r2, r3, r4, r5⟩ := hr
 refine ⟨by omega, by omega, by omega, z1, z2, z3, fun h3 => ?_, fun h4 => ?_⟩
 · have hc : hasC (form x.op.toNat) = true := by rw [h3]; rfl
   simp only [hc, true_and, not_or] at r5
   rw [if_neg (by omega)] at r5
   simp only at r5
   omega
 · have hc : hasC (form x.op.toNat) = true := by unfold hasC; simp; omega
   simp only [hc, true_and, not_or] at r5
   rw [if_pos h4] at r5
   omega
theorem limits_small (op : Nat) : -40000 ≤ (limits op).1 ∧ (limits op).2 ≤ 70000 := by
 unfold limits
 repeat' split
 all_goals simp
theorem form_le (op : Nat) : form op ≤ 6 := by
 unfold form
 repeat' split
 all_goals omega
theorem value_num {line kind at' : Nat} {n low high : Int} (h1 : low ≤ n) (h2 : n ≤ high) (h3 : -10000000000 < n) (h4 : n < 10000000000) : valueS line (decI n) kind at' low high = .ok (n, []) := by
 unfold valueS
 rw [number_decI h3 h4]
 simp only
 rw [if_neg (by omega)]
theorem instr_back {a : St} {x : Ins} (hx : checkI x = 0) (hc : a.p.code.length < 1024) (hl : (operT x).length = operandsN x.op.toNat → True) :
 instrS a x.op.toNat ((operT x).map fun y => ⟨1, y⟩) = .ok { a with p := { a.p with code := a.p.code ++ [x] } } ∧ (operT x).length = operandsN x.op.toNat := by
 have ho := ins_ok hx
 obtain ⟨o1, o2⟩ := ho.op
 have hopc : ((x.op.toNat : Nat) : Int) = x.op := by omega
 have ra := regB_T ho.a.1 ho.a.2
 have rb := regB_T ho.b.1 ho.b.2
 have ea : ((x.a.toNat : Nat) : Int) = x.a := by have := ho.a; omega
 have eb : ((x.b.toNat : Nat) : Int) = x.b := by have := ho.b; omega
 have hn : ¬ 1024 ≤ a.p.code.length := by omega
 have hlim := limits_small x.op.toNat
 have hv : 4 ≤ form x.op.toNat → ∀ i, valueS a.line (decI x.c) 0 i (limits x.op.toNat).1 (limits x.op.toNat).2 = .ok (x.c, []) := fun h4 i => by
  have := ho.c4 h4
  exact value_num this.1 this.2 (by omega) (by omega)
 have hf := form_le x.op.toNat
 obtain ⟨xo, xa, xb, xc⟩ := x
 simp only at *
 unfold instrS operT operandsN
 simp only
 have hf7 : form xo.toNat = 0 ∨ form xo.toNat = 1 ∨ form xo.toNat = 2 ∨ form xo.toNat = 3 ∨ form xo.toNat = 4 ∨ form xo.toNat = 5 ∨ form xo.toNat = 6 := by omega
 rcases hf7 with hfm | hfm | hfm | hfm | hfm | hfm | hfm
 · simp only [hfm]
   have h1 := ho.a0 (by rw [hfm]; rfl); have h2 := ho.b0 (by rw [hfm]; rfl); have h3 := ho.c0 (by rw [hfm]; rfl)
   simp only at h1 h2 h3
   subst h1 h2 h3
   refine ⟨?_, rfl⟩
   rw [if_pos (by omega)]
   show (if 1024 ≤ a.p.code.length then (.error 9 : R St) else _) = _
   rw [if_neg hn]
   simp [fieldsI, hfm, hopc]
 · simp only [hfm]
   have h2 := ho.b0 (by rw [hfm]; rfl); have h3 := ho.c0 (by rw [hfm]; rfl)
   simp only at h2 h3
   subst h2 h3
   refine ⟨?_, rfl⟩
   rw [if_pos (by omega)]
   simp only [List.map_cons, List.map_nil, regsS, ra]
   show (if 1024 ≤ a.p.code.length then (.error 9 : R St) else _) = _
   rw [if_neg hn]
   simp [fieldsI, hfm, hopc, ea]
 · simp only [hfm]
   have h3 := ho.c0 (by rw [hfm]; rfl)
   simp only at h3
   subst h3
   refine ⟨?_, rfl⟩
   rw [if_pos (by omega)]
   simp only [List.map_cons, List.map_nil, regsS, ra, rb]
   show (if 1024 ≤ a.p.code.length then (.error 9 : R St) else _) = _
   rw [if_neg hn]
   simp [fieldsI, hfm, hopc, ea, eb]
 · simp only [hfm]
   have h3 := ho.c3 hfm
   simp only at h3
   have rc := regB_T h3.1 h3.2
   have ec : ((xc.toNat : Nat) : Int) = xc := by omega
   refine ⟨?_, rfl⟩
   rw [if_pos (by omega)]
   simp only [List.map_cons, List.map_nil, regsS, ra, rb, rc]
   show (if 1024 ≤ a.p.code.length then (.error 9 : R St) else _) = _
   rw [if_neg hn]
   simp [fieldsI, hfm, hopc, ea, eb, ec]
 · simp only [hfm]
   have h2 := ho.b0 (by rw [hfm]; rfl)
   simp only at h2
   subst h2
   refine ⟨?_, rfl⟩
   rw [if_neg (by omega)]
   simp only [List.map_cons, List.map_nil, List.dropLast, regsS, ra, List.getLast?_cons_cons, List.getLast?_singleton, Option.getD_some]
   show (valueS a.line (decI xc) 0 a.p.code.length (limits xo.toNat).1 (limits xo.toNat).2 >>= _) = _
   rw [hv (by omega)]
   show (if 1024 ≤ a.p.code.length then (.error 9 : R St) else _) = _
   rw [if_neg hn]
   simp [fieldsI, hfm, hopc, ea]
 · simp only [hfm]
   refine ⟨?_, rfl⟩
   rw [if_neg (by omega)]
   simp only [List.map_cons, List.map_nil, List.dropLast, regsS, ra, rb, List.getLast?_cons_cons, List.getLast?_singleton, Option.getD_some]
   show (valueS a.line (decI xc) 0 a.p.code.length (limits xo.toNat).1 (limits xo.toNat).2 >>= _) = _
   rw [hv (by omega)]
   show (if 1024 ≤ a.p.code.length then (.error 9 : R St) else _) = _
   rw [if_neg hn]
   simp [fieldsI, hfm, hopc, ea, eb]
 · simp only [hfm]
   have h1 := ho.a0 (by rw [hfm]; rfl); have h2 := ho.b0 (by rw [hfm]; rfl)
   simp only at h1 h2
   subst h1 h2
   refine ⟨?_, rfl⟩
   rw [if_neg (by omega)]
   simp only [List.map_cons, List.map_nil, List.dropLast, regsS, List.getLast?_singleton, Option.getD_some]
   show (valueS a.line (decI xc) 0 a.p.code.length (limits xo.toNat).1 (limits xo.toNat).2 >>= _) = _
   rw [hv (by omega)]
   show (if 1024 ≤ a.p.code.length then (.error 9 : R St) else _) = _
   rw [if_neg hn]
   simp [fieldsI, hfm, hopc]
theorem noStr_words (l : List Bytes) : noStr (l.map fun x => ⟨1, x⟩) = true := by simp [noStr]
theorem line_ins {a : St} {x : Ins} (hx : checkI x = 0) (hd : a.inData = false) (hc : a.p.code.length < 1024) : lineS a (lineT x) = .ok { a with p := { a.p with code := a.p.code ++ [x] } } := by
 have ho := ins_ok hx
 obtain ⟨w1, w2, w3, _⟩ := word_all ⟨x.op.toNat, by have := ho.op; omega⟩
 simp only at w1 w2 w3
 obtain ⟨h1, h2⟩ := instr_back hx hc (fun _ => trivial)
 unfold lineT
 rw [line_stmt ⟨w1, w2⟩ (isW_oper x)]
 unfold stmtS
 rw [w3]
 simp only
 rw [if_neg (by simp [hd]), if_neg (by simp [h2, noStr_words]), h1]
end Go.As
namespace Go.As
theorem line_nil (a : St) : lineS a [] = .ok a := rfl
theorem line_data (a : St) : lineS a dData = .ok { a with inData := true } := rfl
theorem label_word {n : Bytes} (h : isLabel n = true) : isW n := by
 unfold isLabel at h
 split at h
 · cases h
 · simp only [Bool.and_eq_true] at h
   refine ⟨?_, by simp⟩
   obtain ⟨_, h⟩ := h
   rw [List.all_eq_true] at h ⊢
   intro x hx
   have := h x hx
   unfold wordB
   rw [this]; rfl
theorem line_label {a : St} {n : Bytes} (hn : isLabel n = true) : lineS a (n ++ [58]) = defineS a [n] := by
 have hw := label_word hn
 unfold lineS
 rw [tokL_word hw.1 hw.2 (stop_cons (by decide) _), tokL_colon]
 rfl
theorem line_entry {a : St} {n : Int} (he : a.hasEntry = false) (h0 : 0 ≤ n) (h1 : n ≤ 100000) : lineS a (dEntry ++ 32 :: decI n) = .ok { a with p := { a.p with entry := n }, hasEntry := true } := by
 have hw : isW dEntry := ⟨by decide, by decide⟩
 have := line_stmt hw (l := [decI n]) (fun x hx => by simp at hx; subst hx; exact isW_decI n) a
 refine Eq.trans this ?_
 have hf : wordsB.findIdx? (· == dEntry) = none := by decide
 unfold stmtS
 rw [hf]
 simp only
 rw [if_neg (by decide), if_pos trivial, if_neg (by simp [he]), if_neg (by simp [noStr])]
 show (valueS a.line (decI n) 2 0 (-9999999999) 9999999999 >>= _) = _
 rw [value_num (by omega) (by omega) (by omega) (by omega)]
 simp [bind, Except.bind]
theorem line_zero {a : St} {n : Int} (hz : a.hasZero = false) (h0 : 0 ≤ n) (h1 : n ≤ 4096) : lineS a (dZero ++ 32 :: decI n) = .ok { a with p := { a.p with zero := n }, hasZero := true } := by
 have hw : isW dZero := ⟨by decide, by decide⟩
 have := line_stmt hw (l := [decI n]) (fun x hx => by simp at hx; subst hx; exact isW_decI n) a
 refine Eq.trans this ?_
 have hf : wordsB.findIdx? (· == dZero) = none := by decide
 unfold stmtS
 rw [hf]
 simp only
 rw [if_neg (by decide), if_neg (by decide), if_pos trivial, if_neg (by simp [hz]), if_neg (by simp [noStr])]
 show (literalS (decI n) 0 4096 >>= _) = _
 unfold literalS
 rw [number_decI (by omega) (by omega)]
 simp only
 rw [if_neg (by omega)]
 simp [bind, Except.bind]
theorem line_text {a : St} {s : Bytes} (hd : a.inData = true) (hl : a.p.data.length + s.length ≤ 4096) : lineS a (dText ++ 32 :: quoteA s) = .ok { a with p := { a.p with data := a.p.data ++ s } } := by
 unfold lineS
 rw [tokens_quote]
 show stmtS a dText [⟨2, s⟩] = _
 have hf : wordsB.findIdx? (· == dText) = none := by decide
 unfold stmtS
 rw [hf]
 simp [dText, dCode, dData, dEntry, dZero, dWord, dByte, dSpace, hd, full]
 omega
theorem lines_step {a a' : St} {s : Bytes} {l : List Bytes} (h : lineS a s = .ok a') : linesS a (s :: l) = linesS { a' with line := a.line + 1 } l := by rw [linesS, h]
def takeM (d : Bool) (off : Nat) (ls : List Lb) : List Lb := ls.takeWhile fun l => l.data == d && l.off == (off : Int)
def dropM (d : Bool) (off : Nat) (ls : List Lb) : List Lb := ls.dropWhile fun l => l.data == d && l.off == (off : Int)
def marksT (ls : List Lb) : List Bytes := ls.map fun l => l.name ++ [58]
def codeP : Nat → List Ins → List Lb → List Bytes × List Lb
 | i, [], ls => (marksT (takeM false (4 * i) ls), dropM false (4 * i) ls)
 | i, x :: c, ls => (marksT (takeM false (4 * i) ls) ++ (9 :: lineT x) :: (codeP (i + 1) c (dropM false (4 * i) ls)).1, (codeP (i + 1) c (dropM false (4 * i) ls)).2)
def chunkN (at' : Nat) (r : Bytes) (ls : List Lb) : Nat := min (min 32 r.length) (match ls with | [] => 32 | l :: _ => (l.off - at').toNat)
def dataP : Nat → Nat → Bytes → List Lb → List Bytes × List Lb
 | 0, _, _, ls => ([], ls)
 | f + 1, at', r, ls =>
   if r.isEmpty then (marksT (takeM true at' ls), dropM true at' ls)
   else
    let n := chunkN at' r (dropM true at' ls)
    (marksT (takeM true at' ls) ++ (9 :: (dText ++ 32 :: quoteA (r.take n))) :: (dataP f (at' + n) (r.drop n) (dropM true at' ls)).1, (dataP f (at' + n) (r.drop n) (dropM true at' ls)).2)
def headP (p : Pg) : List Bytes := (dEntry ++ 32 :: decI p.entry) :: (if p.zero = 0 then [] else [dZero ++ 32 :: decI p.zero])
def tailP (p : Pg) (ls : List Lb) : List Bytes := if p.data.isEmpty && ls.isEmpty then [] else dData :: (dataP (p.data.length + 1) 0 p.data ls).1
def printP (p : Pg) : List Bytes := headP p ++ ((codeP 0 p.code p.labels).1 ++ tailP p (codeP 0 p.code p.labels).2)
def joinL : List Bytes → Bytes
 | [] => []
 | x :: l => x ++ 10 :: joinL l
def isBehind (p : Pg) : Bool := p.labels.any fun l => l.data && decide ((p.data.length : Int) < l.off)
def printS (p : Pg) : Except Nat Bytes := if checkP p ≠ 0 then .error (checkP p) else if isBehind p then .error 33 else .ok (joinL (printP p))
theorem follows_iff {a b : Lb} : follows a b = true ↔ (a.data = false ∧ b.data = true) ∨ (a.data = b.data ∧ (a.off < b.off ∨ (a.off = b.off ∧ a.name < b.name))) := by
 obtain ⟨an, ad, ao⟩ := a
 obtain ⟨bn, bd, bo⟩ := b
 unfold follows
 by_cases h : ao = bo
 · subst h; cases ad <;> cases bd <;> simp
 · cases ad <;> cases bd <;> simp [h]
theorem follows_trans {a b c : Lb} (h1 : follows a b = true) (h2 : follows b c = true) : follows a c = true := by
 rw [follows_iff] at *
 rcases h1 with ⟨x1, x2⟩ | ⟨x1, x2⟩ <;> rcases h2 with ⟨y1, y2⟩ | ⟨y1, y2⟩
 · rw [x2] at y1; cases y1
 · exact .inl ⟨x1, by rw [← y1, x2]⟩
 · exact .inl ⟨by rw [x1, y1], y2⟩
 · refine .inr ⟨x1.trans y1, ?_⟩
   rcases x2 with x2 | ⟨x2, x3⟩ <;> rcases y2 with y2 | ⟨y2, y3⟩
   · exact .inl (by omega)
   · exact .inl (by omega)
   · exact .inl (by omega)
   · exact .inr ⟨x2.trans y2, List.lt_trans x3 y3⟩
def Wk (a b : Lb) : Prop := (a.data = true → b.data = true) ∧ (a.data = b.data → a.off ≤ b.off)
theorem follows_wk {a b : Lb} (h : follows a b = true) : Wk a b := by
 rw [follows_iff] at h
 rcases h with ⟨x1, x2⟩ | ⟨x1, x2⟩
 · exact ⟨fun _ => x2, fun e => by rw [x1, x2] at e; cases e⟩
 · exact ⟨fun e => by rw [← x1, e], fun _ => by omega⟩
theorem pair_of {p : Pg} : ∀ {ls : List Lb} {q : Lb}, labelsErr p (some q) ls = 0 → (q :: ls).Pairwise fun a b => follows a b = true
 | [], q, _ => by simp
 | l :: ls, q, h => by
   rw [labelsErr] at h
   split at h
   · cases h
   split at h
   · cases h
   split at h
   · cases h
   rename_i hf
   have hf : follows q l = true := by simpa using hf
   have ih := pair_of h
   refine List.pairwise_cons.2 ⟨fun x hx => ?_, ih⟩
   rcases List.mem_cons.1 hx with rfl | hx
   · exact hf
   · exact follows_trans hf ((List.pairwise_cons.1 ih).1 x hx)
theorem sorted_of {p : Pg} : ∀ {ls : List Lb}, labelsErr p none ls = 0 → ls.Pairwise fun a b => follows a b = true
 | [], _ => List.Pairwise.nil
 | l :: ls, h => by
   rw [labelsErr] at h
   split at h
   · cases h
   split at h
   · cases h
   simp only [Bool.false_eq_true, if_false] at h
   exact pair_of h
structure LbOk (p : Pg) (l : Lb) : Prop where
 name : isLabel l.name = true
 lo : 0 ≤ l.off
 code : l.data = false → l.off % 4 = 0 ∧ l.off ≤ 4 * (p.code.length : Int)
 dat : l.data = true → l.off ≤ (p.data.length : Int) + p.zero
theorem each_of {p : Pg} : ∀ {ls : List Lb} {q : Option Lb}, labelsErr p q ls = 0 → ∀ l ∈ ls, LbOk p l
 | [], _, _, l, hl => by cases hl
 | x :: ls, q, h, l, hl => by
   unfold labelsErr at h
   obtain ⟨h1, h⟩ := ite_zero (n := 11) h
   obtain ⟨h2, h⟩ := ite_zero (n := 1) h
   obtain ⟨_, h⟩ := ite_zero (n := 31) h
   simp only [not_or, not_and] at h2
   rcases List.mem_cons.1 hl with rfl | hl
   · refine ⟨by simpa using h1, by omega, fun hd => ?_, fun hd => ?_⟩
     · have := h2.2.1 hd
       omega
     · have := h2.2.2 hd
       omega
   · exact each_of h l hl
theorem ins_end {x : Lb} : ∀ {s : List Lb}, (∀ y ∈ s, follows y x = true) → insL x s = s ++ [x]
 | [], _ => rfl
 | y :: s, h => by
   rw [insL, if_pos (h y (List.mem_cons_self ..)), ins_end fun z hz => h z (List.mem_cons_of_mem _ hz)]; rfl
theorem sort_fold : ∀ (l s : List Lb), (s ++ l).Pairwise (fun a b => follows a b = true) → l.foldl (fun s x => insL x s) s = s ++ l
 | [], s, _ => by simp
 | x :: l, s, h => by
   rw [List.foldl_cons, ins_end fun y hy => (List.pairwise_append.1 h).2.2 y hy x (List.mem_cons_self ..), sort_fold l (s ++ [x]) (by simpa using h)]
   simp
theorem sort_same {l : List Lb} (h : l.Pairwise fun a b => follows a b = true) : sortL l = l := sort_fold l [] (by simpa using h)
structure POkS (p : Pg) : Prop where
 ins : ∀ x ∈ p.code, checkI x = 0
 zero : 0 ≤ p.zero ∧ p.zero ≤ 4096
 mem : dataAt p + p.data.length + p.zero ≤ 4096
 count : p.labels.length ≤ 1024
 entry : 0 ≤ p.entry ∧ p.entry < 4 * (p.code.length : Int)
 sorted : p.labels.Pairwise fun a b => follows a b = true
 each : ∀ l ∈ p.labels, LbOk p l
 names : twice (p.labels.map (·.name)) = false
theorem check_ok {p : Pg} (h : checkP p = 0) : POkS p := by
 unfold checkP at h
 split at h
 · rename_i e he
   have := List.find?_some he
   simp at this; exact absurd h this
 rename_i hn
 split at h
 · cases h
 rename_i h2
 split at h
 · cases h
 rename_i h3
 simp only at h
 split at h
 · rename_i h4; exact absurd h h4
 rename_i h4
 split at h
 · cases h
 rename_i h5
 have h4 : labelsErr p none p.labels = 0 := by simpa using h4
 simp only [not_or] at h2 h3
 refine ⟨fun x hx => ?_, by omega, by omega, by omega, by omega, sorted_of h4, each_of h4, by simpa using h5⟩
 have := List.find?_eq_none.1 hn (checkI x) (List.mem_map.2 ⟨x, hx, rfl⟩)
 simpa using this
theorem POkS.codeLen {p : Pg} (h : POkS p) : 4 * p.code.length + p.data.length ≤ 4096 := by
 have := h.mem
 have := h.zero.1
 unfold dataAt at *
 omega
theorem take_drop_M (d : Bool) (off : Nat) (ls : List Lb) : takeM d off ls ++ dropM d off ls = ls := List.takeWhile_append_dropWhile
theorem take_mem {d : Bool} {off : Nat} : ∀ {ls : List Lb}, ∀ l ∈ takeM d off ls, l.data = d ∧ l.off = (off : Int)
 | [], l, hl => by cases hl
 | x :: ls, l, hl => by
   unfold takeM at hl
   rw [List.takeWhile_cons] at hl
   split at hl
   · rename_i hx
     rcases List.mem_cons.1 hl with rfl | hl
     · simpa using hx
     · exact take_mem (ls := ls) l hl
   · cases hl
theorem drop_head {d : Bool} {off : Nat} : ∀ {ls : List Lb} {x : Lb} {t : List Lb}, dropM d off ls = x :: t → ¬ (x.data = d ∧ x.off = (off : Int))
 | [], _, _, h => by cases h
 | y :: ls, x, t, h => by
   unfold dropM at h
   rw [List.dropWhile_cons] at h
   split at h
   · exact drop_head (ls := ls) h
   · rename_i hy
     injection h with h _
     subst h
     simpa using hy
theorem twice_mid : ∀ {l : List Bytes} {x : Bytes} {m : List Bytes}, twice (l ++ x :: m) = false → l.contains x = false
 | [], _, _, _ => rfl
 | y :: l, x, m, h => by
   rw [List.cons_append, twice] at h
   simp only [Bool.or_eq_false_iff] at h
   have h1 := h.1
   have h2 := twice_mid h.2
   rw [List.contains_cons, h2, Bool.or_false]
   cases e : x == y with
   | false => rfl
   | true =>
     have e : x = y := by simpa using e
     subst e
     simp at h1
section
variable {z e : Int} {he hz : Bool} {us : List Us}
theorem marks_step : ∀ (ms : List Lb) (c : List Ins) (d : Bytes) (lb : List Lb) (ind : Bool) (n : Nat) (rest : List Bytes), (∀ l ∈ ms, isLabel l.name = true ∧ l.data = ind ∧ l.off = (if ind then (d.length : Int) else ((4 * c.length : Nat) : Int))) →
 twice ((lb ++ ms).map (·.name)) = false → lb.length + ms.length ≤ 1024 →
 ∃ n', linesS ⟨⟨c, d, z, e, lb⟩, ind, he, hz, us, n⟩ (marksT ms ++ rest) = linesS ⟨⟨c, d, z, e, lb ++ ms⟩, ind, he, hz, us, n'⟩ rest
 | [], c, d, lb, ind, n, rest, _, _, _ => ⟨n, by simp [marksT]⟩
 | m :: ms, c, d, lb, ind, n, rest, h1, h2, h3 => by
   obtain ⟨g1, g2, g3⟩ := h1 m (List.mem_cons_self ..)
   have hc : (lb.any fun x => x.name == m.name) = false := by
    rw [List.map_append, List.map_cons] at h2
    have := twice_mid h2
    rw [Bool.eq_false_iff] at this ⊢
    intro h
    refine this ?_
    rw [List.any_eq_true] at h
    obtain ⟨x, hx, he⟩ := h
    rw [List.contains_iff_mem]
    exact List.mem_map.2 ⟨x, hx, by simpa using he⟩
   have hl : lineS ⟨⟨c, d, z, e, lb⟩, ind, he, hz, us, n⟩ (m.name ++ [58]) = .ok ⟨⟨c, d, z, e, lb ++ [m]⟩, ind, he, hz, us, n⟩ := by
    rw [line_label g1, defineS, if_neg (by simp [g1]), if_neg (by simp [hc]), if_neg (by simp at h3 ⊢; omega), defineS]
    obtain ⟨mn, md, mo⟩ := m
    simp only at g2 g3
    subst g2 g3
    rfl
   obtain ⟨n', ih⟩ := marks_step ms c d (lb ++ [m]) ind (n + 1) rest (fun l hl => h1 l (List.mem_cons_of_mem _ hl)) (by simpa using h2) (by simp at h3 ⊢; omega)
   refine ⟨n', ?_⟩
   show linesS _ ((m.name ++ [58]) :: (marksT ms ++ rest)) = _
   rw [lines_step hl]
   refine ih.trans ?_
   simp
structure Rd (p : Pg) (lb ls : List Lb) : Prop where
 labels : lb ++ ls = p.labels
 ok : POkS p
theorem Rd.wk {p : Pg} {lb ls : List Lb} (h : Rd p lb ls) : ls.Pairwise Wk := by
 have := h.ok.sorted
 rw [← h.labels] at this
 exact (List.pairwise_append.1 this).2.1.imp fun h => follows_wk h
theorem Rd.each {p : Pg} {lb ls : List Lb} (h : Rd p lb ls) : ∀ l ∈ ls, LbOk p l := fun l hl => h.ok.each l (by rw [← h.labels]; exact List.mem_append_right _ hl)
theorem twice_app : ∀ (x y : List Bytes), twice (x ++ y) = false → twice x = false
 | [], _, _ => rfl
 | c :: x, y, hy => by
   rw [List.cons_append, twice, Bool.or_eq_false_iff] at hy
   rw [twice, Bool.or_eq_false_iff]
   refine ⟨?_, twice_app x y hy.2⟩
   have := hy.1
   rw [Bool.eq_false_iff] at this ⊢
   intro hc
   refine this ?_
   rw [List.contains_iff_mem] at hc ⊢
   exact List.mem_append_left _ hc
theorem Rd.marks {p : Pg} {lb ls : List Lb} (h : Rd p lb ls) (c : List Ins) (d : Bytes) (ind : Bool) (n : Nat) {off : Nat} (ho : (off : Int) = (if ind then (d.length : Int) else ((4 * c.length : Nat) : Int))) (rest : List Bytes) :
 (∃ n', linesS ⟨⟨c, d, z, e, lb⟩, ind, he, hz, us, n⟩ (marksT (takeM ind off ls) ++ rest) = linesS ⟨⟨c, d, z, e, lb ++ takeM ind off ls⟩, ind, he, hz, us, n'⟩ rest) ∧
  Rd p (lb ++ takeM ind off ls) (dropM ind off ls) := by
 have hl := h.labels
 have htd := take_drop_M ind off ls
 have hsub : ∀ l ∈ takeM ind off ls, l ∈ ls := fun l hl => by rw [← htd]; exact List.mem_append_left _ hl
 have hmem : lb ++ takeM ind off ls ++ dropM ind off ls = p.labels := by rw [List.append_assoc, htd, hl]
 refine ⟨marks_step (takeM ind off ls) c d lb ind n rest (fun l hm => ?_) ?_ ?_, ⟨hmem, h.ok⟩⟩
 · obtain ⟨g1, g2⟩ := take_mem l hm
   exact ⟨(h.each l (hsub l hm)).name, g1, g2.trans ho⟩
 · have := h.ok.names
   rw [← hmem, List.map_append] at this
   exact twice_app _ _ this
 · have := h.ok.count
   rw [← hmem] at this
   simp at this; omega
theorem code_back {p : Pg} : ∀ (c : List Ins) (i : Nat) (cd : List Ins) (d : Bytes) (lb ls : List Lb) (n : Nat) (rest : List Bytes), Rd p lb ls → cd.length = i → cd ++ c = p.code → (∀ l ∈ ls, l.data = false → ((4 * i : Nat) : Int) ≤ l.off) →
 ∃ n' m, linesS ⟨⟨cd, d, z, e, lb⟩, false, he, hz, us, n⟩ ((codeP i c ls).1 ++ rest) = linesS ⟨⟨p.code, d, z, e, m⟩, false, he, hz, us, n'⟩ rest ∧ m ++ (codeP i c ls).2 = p.labels ∧ ∀ l ∈ (codeP i c ls).2, l.data = true
 | [], i, cd, d, lb, ls, n, rest, hR, hi, hc, hlo => by
   obtain ⟨⟨n', h1⟩, h2⟩ := hR.marks (z := z) (e := e) (he := he) (hz := hz) (us := us) cd d false n (off := 4 * i) (by rw [if_neg (by decide), hi]) rest
   rw [List.append_nil] at hc
   subst hc
   refine ⟨n', _, h1, h2.labels, fun l hl => ?_⟩
   cases hdl : l.data with
   | true => rfl
   | false =>
     exfalso
     have hsub : ∀ l ∈ dropM false (4 * i) ls, l ∈ ls := fun l hl => by rw [← take_drop_M false (4 * i) ls]; exact List.mem_append_right _ hl
     have hl2 : l ∈ dropM false (4 * i) ls := hl
     have h3 := ((hR.each l (hsub l hl2)).code hdl).2
     obtain ⟨x, t, hx⟩ : ∃ x t, dropM false (4 * i) ls = x :: t := by
      cases e : dropM false (4 * i) ls with
      | nil => rw [e] at hl2; cases hl2
      | cons x t => exact ⟨x, t, rfl⟩
     have hw := h2.wk
     rw [hx] at hw hl2
     have hhd := drop_head hx
     have hxm : x ∈ ls := hsub x (by rw [hx]; exact List.mem_cons_self ..)
     have h5 := hlo x hxm
     rcases List.mem_cons.1 hl2 with rfl | hlt
     · have := hlo l hxm hdl; exact hhd ⟨hdl, by omega⟩
     · have := (List.pairwise_cons.1 hw).1 l hlt
       obtain ⟨w1, w2⟩ := this
       cases hxd : x.data with
       | true => rw [w1 hxd] at hdl; cases hdl
       | false =>
         have := w2 (by rw [hxd, hdl])
         have := h5 hxd
         exact hhd ⟨hxd, by omega⟩
 | x :: c, i, cd, d, lb, ls, n, rest, hR, hi, hc, hlo => by
   obtain ⟨⟨n', h1⟩, h2⟩ := hR.marks (z := z) (e := e) (he := he) (hz := hz) (us := us) cd d false n (off := 4 * i) (by rw [if_neg (by decide), hi]) ((9 :: lineT x) :: ((codeP (i + 1) c (dropM false (4 * i) ls)).1 ++ rest))
   have hx : x ∈ p.code := by rw [← hc]; simp
   have hlen : cd.length < 1024 := by
    have := hR.ok.codeLen
    rw [← hc] at this
    simp at this; omega
   have hl : lineS ⟨⟨cd, d, z, e, lb ++ takeM false (4 * i) ls⟩, false, he, hz, us, n'⟩ (9 :: lineT x) = .ok ⟨⟨cd ++ [x], d, z, e, lb ++ takeM false (4 * i) ls⟩, false, he, hz, us, n'⟩ := by
    rw [line_tab]; exact line_ins (hR.ok.ins x hx) rfl hlen
   have hsub : ∀ l ∈ dropM false (4 * i) ls, l ∈ ls := fun l hl => by rw [← take_drop_M false (4 * i) ls]; exact List.mem_append_right _ hl
   obtain ⟨n2, m, g1, g2, g3⟩ := code_back c (i + 1) (cd ++ [x]) d (lb ++ takeM false (4 * i) ls) (dropM false (4 * i) ls) (n' + 1) rest h2 (by simp [hi]) (by simpa using hc) (fun l hl hdl => by
    have hle := hlo l (hsub l hl) hdl
    have h4 := ((hR.each l (hsub l hl)).code hdl).1
    have hne : l.off ≠ ((4 * i : Nat) : Int) := by
     intro hoff
     obtain ⟨y, t, hy⟩ : ∃ y t, dropM false (4 * i) ls = y :: t := by
      cases e : dropM false (4 * i) ls with
      | nil => rw [e] at hl; cases hl
      | cons x t => exact ⟨x, t, rfl⟩
     have hw := h2.wk
     rw [hy] at hw hl
     have hhd := drop_head hy
     have hym : y ∈ ls := hsub y (by rw [hy]; exact List.mem_cons_self ..)
     rcases List.mem_cons.1 hl with rfl | hlt
     · exact hhd ⟨hdl, hoff⟩
     · obtain ⟨w1, w2⟩ := (List.pairwise_cons.1 hw).1 l hlt
       cases hyd : y.data with
       | true => rw [w1 hyd] at hdl; cases hdl
       | false =>
         have := w2 (by rw [hyd, hdl])
         have := hlo y hym hyd
         exact hhd ⟨hyd, by omega⟩
    omega)
   refine ⟨n2, m, ?_, g2, g3⟩
   show linesS _ ((marksT (takeM false (4 * i) ls) ++ (9 :: lineT x) :: (codeP (i + 1) c (dropM false (4 * i) ls)).1) ++ rest) = _
   rw [List.append_assoc, List.cons_append]
   refine h1.trans ?_
   rw [lines_step hl]
   exact g1
theorem data_back {p : Pg} {cd : List Ins} : ∀ (f at' : Nat) (r d : Bytes) (lb ls : List Lb) (n : Nat) (rest : List Bytes), r.length < f → Rd p lb ls → d.length = at' → d ++ r = p.data → (∀ l ∈ ls, l.data = true ∧ (at' : Int) ≤ l.off ∧ l.off ≤ p.data.length) →
 ∃ n', linesS ⟨⟨cd, d, z, e, lb⟩, true, he, hz, us, n⟩ ((dataP f at' r ls).1 ++ rest) = linesS ⟨⟨cd, p.data, z, e, p.labels⟩, true, he, hz, us, n'⟩ rest
 | 0, _, _, _, _, _, _, _, h, _, _, _, _ => by omega
 | f + 1, at', [], d, lb, ls, n, rest, _, hR, hi, hc, hlo => by
   obtain ⟨⟨n', h1⟩, h2⟩ := hR.marks (z := z) (e := e) (he := he) (hz := hz) (us := us) cd d true n (off := at') (by rw [if_pos rfl, hi]) rest
   refine ⟨n', h1.trans ?_⟩
   have hnil : dropM true at' ls = [] := by
    cases e : dropM true at' ls with
    | nil => rfl
    | cons x t =>
      exfalso
      have hxm : x ∈ ls := by rw [← take_drop_M true at' ls, e]; exact List.mem_append_right _ (List.mem_cons_self ..)
      obtain ⟨g1, g2, g3⟩ := hlo x hxm
      rw [← hc] at g3
      simp [hi] at g3
      exact drop_head e ⟨g1, by omega⟩
   have h3 := h2.labels
   rw [hnil] at h3
   simp only [List.append_nil] at h3 hc
   rw [← hc, ← h3]
 | f + 1, at', c :: r, d, lb, ls, n, rest, hf, hR, hi, hc, hlo => by
   have hsub : ∀ l ∈ dropM true at' ls, l ∈ ls := fun l hl => by rw [← take_drop_M true at' ls]; exact List.mem_append_right _ hl
   obtain ⟨k, hk⟩ : ∃ k, chunkN at' (c :: r) (dropM true at' ls) = k := ⟨_, rfl⟩
   have hk1 : 1 ≤ k ∧ k ≤ (c :: r).length ∧ ∀ l ∈ dropM true at' ls, ((at' + k : Nat) : Int) ≤ l.off := by
    unfold chunkN at hk
    cases e : dropM true at' ls with
    | nil => rw [e] at hk; simp only [List.length_cons] at hk ⊢; refine ⟨by omega, by omega, fun l hl => by cases hl⟩
    | cons x t =>
      rw [e] at hk
      have hxm : x ∈ ls := hsub x (by rw [e]; exact List.mem_cons_self ..)
      obtain ⟨g1, g2, g3⟩ := hlo x hxm
      have hhd := drop_head e
      have hne : x.off ≠ (at' : Int) := fun h => hhd ⟨g1, h⟩
      simp only [List.length_cons] at hk ⊢
      refine ⟨by omega, by omega, fun l hl => ?_⟩
      have hxo : ((at' + k : Nat) : Int) ≤ x.off := by omega
      rcases List.mem_cons.1 hl with rfl | hlt
      · exact hxo
      · have hw : (dropM true at' ls).Pairwise Wk := by
         have := hR.wk
         rw [← take_drop_M true at' ls] at this
         exact (List.pairwise_append.1 this).2.1
        rw [e] at hw
        obtain ⟨w1, w2⟩ := (List.pairwise_cons.1 hw).1 l hlt
        have := w2 (by rw [g1, w1 g1])
        omega
   obtain ⟨k1, k2, k3⟩ := hk1
   obtain ⟨⟨n', h1⟩, h2⟩ := hR.marks (z := z) (e := e) (he := he) (hz := hz) (us := us) cd d true n (off := at') (by rw [if_pos rfl, hi]) ((9 :: (dText ++ 32 :: quoteA ((c :: r).take k))) :: ((dataP f (at' + k) ((c :: r).drop k) (dropM true at' ls)).1 ++ rest))
   have hlen : d.length + ((c :: r).take k).length ≤ 4096 := by
    have := hR.ok.codeLen
    rw [← hc, List.length_append] at this
    simp only [List.length_take] at *
    omega
   have hl : lineS ⟨⟨cd, d, z, e, lb ++ takeM true at' ls⟩, true, he, hz, us, n'⟩ (9 :: (dText ++ 32 :: quoteA ((c :: r).take k))) = .ok ⟨⟨cd, d ++ (c :: r).take k, z, e, lb ++ takeM true at' ls⟩, true, he, hz, us, n'⟩ := by
    rw [line_tab]; exact line_text rfl hlen
   have htk : ((c :: r).take k).length = k := by rw [List.length_take]; omega
   obtain ⟨n2, g1⟩ := data_back f (at' + k) ((c :: r).drop k) (d ++ (c :: r).take k) (lb ++ takeM true at' ls) (dropM true at' ls) (n' + 1) rest (by rw [List.length_drop]; simp at hf ⊢; omega) h2 (by simp only [List.length_append, htk, hi])
    (by rw [List.append_assoc, List.take_append_drop]; exact hc) (fun l hl => ⟨(hlo l (hsub l hl)).1, k3 l hl, (hlo l (hsub l hl)).2.2⟩)
   refine ⟨n2, ?_⟩
   rw [dataP, if_neg (by simp)]
   simp only [hk]
   rw [List.append_assoc, List.cons_append]
   refine h1.trans ?_
   rw [lines_step hl]
   exact g1
end
theorem split_join : ∀ (ls : List Bytes), (∀ l ∈ ls, ∀ x ∈ l, x ≠ 10) → splitAt10 (joinL ls) = ls ++ [[]]
 | [], _ => rfl
 | l :: ls, h => by rw [joinL, split_line _ _ (h l (List.mem_cons_self ..)), split_join ls fun l hl => h l (List.mem_cons_of_mem _ hl)]; rfl
theorem isW_nl {w : Bytes} (h : w.all wordB = true) : ∀ x ∈ w, x ≠ 10 := fun x hx e => by
 subst e
 exact absurd (List.all_eq_true.1 h 10 hx) (by decide)
theorem comma_nl : ∀ (l : List Bytes), (∀ x ∈ l, isW x) → ∀ x ∈ commaT l, x ≠ 10
 | [], _, x, hx => by cases hx
 | [w], h, x, hx => isW_nl (h w (List.mem_cons_self ..)).1 x hx
 | w :: y :: l, h, x, hx => by
   rw [commaT, List.mem_append, List.mem_append] at hx
   rcases hx with hx | hx | hx
   · exact isW_nl (h w (List.mem_cons_self ..)).1 x hx
   · revert x; decide
   · exact comma_nl (y :: l) (fun z hz => h z (List.mem_cons_of_mem _ hz)) x hx
theorem stmt_nl {w : Bytes} (hw : isW w) {l : List Bytes} (hl : ∀ x ∈ l, isW x) : ∀ x ∈ stmtT w l, x ≠ 10 := by
 intro x hx
 unfold stmtT at hx
 split at hx
 · exact isW_nl hw.1 x hx
 · rw [List.mem_append, List.mem_cons] at hx
   rcases hx with hx | rfl | hx
   · exact isW_nl hw.1 x hx
   · decide
   · exact comma_nl l hl x hx
theorem line_nl {x : Ins} (hx : checkI x = 0) : ∀ c ∈ lineT x, c ≠ 10 := by
 have ho := ins_ok hx
 obtain ⟨w1, w2, _⟩ := word_all ⟨x.op.toNat, by have := ho.op; omega⟩
 exact stmt_nl ⟨w1, w2⟩ (isW_oper x)
theorem quote_nl (s : Bytes) : ∀ c ∈ dText ++ 32 :: quoteA s, c ≠ 10 := by
 intro x hx
 rw [List.mem_append] at hx
 rcases hx with hx | hx
 · revert x; decide
 · rw [List.mem_cons, quoteA, List.mem_cons, List.mem_append] at hx
   rcases hx with rfl | rfl | hx | hx
   · decide
   · decide
   · exact qcs_nl s x hx
   · simp at hx; subst hx; decide
theorem marks_nl {ls : List Lb} (h : ∀ l ∈ ls, isLabel l.name = true) : ∀ t ∈ marksT ls, ∀ x ∈ t, x ≠ 10 := by
 intro t ht x hx
 obtain ⟨l, hl, rfl⟩ := List.mem_map.1 ht
 rw [List.mem_append] at hx
 rcases hx with hx | hx
 · exact isW_nl (label_word (h l hl)).1 x hx
 · simp at hx; subst hx; decide
theorem takeM_sub {d : Bool} {off : Nat} {ls : List Lb} : ∀ l ∈ takeM d off ls, l ∈ ls := fun l hl => by rw [← take_drop_M d off ls]; exact List.mem_append_left _ hl
theorem dropM_sub {d : Bool} {off : Nat} {ls : List Lb} : ∀ l ∈ dropM d off ls, l ∈ ls := fun l hl => by rw [← take_drop_M d off ls]; exact List.mem_append_right _ hl
theorem code_nl : ∀ (c : List Ins) (i : Nat) (ls : List Lb), (∀ x ∈ c, checkI x = 0) → (∀ l ∈ ls, isLabel l.name = true) → (∀ t ∈ (codeP i c ls).1, ∀ x ∈ t, x ≠ 10) ∧ ∀ l ∈ (codeP i c ls).2, l ∈ ls
 | [], i, ls, _, h2 => ⟨marks_nl fun l hl => h2 l (takeM_sub l hl), fun l hl => dropM_sub l hl⟩
 | y :: c, i, ls, h1, h2 => by
   obtain ⟨g1, g2⟩ := code_nl c (i + 1) (dropM false (4 * i) ls) (fun x hx => h1 x (List.mem_cons_of_mem _ hx)) fun l hl => h2 l (dropM_sub l hl)
   refine ⟨fun t ht x hx => ?_, fun l hl => dropM_sub l (g2 l hl)⟩
   rw [codeP, List.mem_append, List.mem_cons] at ht
   rcases ht with ht | rfl | ht
   · exact marks_nl (fun l hl => h2 l (takeM_sub l hl)) t ht x hx
   · rcases List.mem_cons.1 hx with rfl | hx
     · decide
     · exact line_nl (h1 y (List.mem_cons_self ..)) x hx
   · exact g1 t ht x hx
theorem data_nl : ∀ (f at' : Nat) (r : Bytes) (ls : List Lb), (∀ l ∈ ls, isLabel l.name = true) → ∀ t ∈ (dataP f at' r ls).1, ∀ x ∈ t, x ≠ 10
 | 0, _, _, _, _, t, ht, _, _ => by cases ht
 | f + 1, at', r, ls, h, t, ht, x, hx => by
   rw [dataP] at ht
   split at ht
   · exact marks_nl (fun l hl => h l (takeM_sub l hl)) t ht x hx
   · simp only [List.mem_append, List.mem_cons] at ht
     rcases ht with ht | rfl | ht
     · exact marks_nl (fun l hl => h l (takeM_sub l hl)) t ht x hx
     · rcases List.mem_cons.1 hx with rfl | hx
       · decide
       · exact quote_nl _ x hx
     · exact data_nl f _ _ _ (fun l hl => h l (dropM_sub l hl)) t ht x hx
theorem print_nl {p : Pg} (h : POkS p) : ∀ t ∈ printP p, ∀ x ∈ t, x ≠ 10 := by
 have hn : ∀ l ∈ p.labels, isLabel l.name = true := fun l hl => (h.each l hl).name
 obtain ⟨g1, g2⟩ := code_nl p.code 0 p.labels h.ins hn
 intro t ht x hx
 unfold printP headP tailP at ht
 rw [List.mem_append, List.mem_append] at ht
 rcases ht with ht | ht | ht
 · rcases List.mem_cons.1 ht with rfl | ht
   · exact stmt_nl (w := dEntry) (l := [decI p.entry]) ⟨by decide, by decide⟩ (fun y hy => by simp at hy; subst hy; exact isW_decI _) x hx
   · split at ht
     · cases ht
     · simp only [List.mem_singleton] at ht
       subst ht
       exact stmt_nl (w := dZero) (l := [decI p.zero]) ⟨by decide, by decide⟩ (fun y hy => by simp at hy; subst hy; exact isW_decI _) x hx
 · exact g1 t ht x hx
 · split at ht
   · cases ht
   · rcases List.mem_cons.1 ht with rfl | ht
     · revert x; decide
     · exact data_nl _ _ _ _ (fun l hl => hn l (g2 l hl)) t ht x hx
theorem lines_all {p : Pg} (h : POkS p) (hb : isBehind p = false) : ∃ a : St, linesS st0 (printP p ++ [[]]) = .ok a ∧ a.p = p ∧ a.uses = [] := by
 have hz := h.zero
 have he := h.entry
 have hcl := h.codeLen
 have fin : ∀ a : St, linesS a [[]] = .ok { a with line := a.line + 1 } := fun a => rfl
 have hhead : ∀ rest : List Bytes, ∃ n z, linesS st0 (headP p ++ rest) = linesS ⟨⟨[], [], p.zero, p.entry, []⟩, false, true, z, [], n⟩ rest := by
  intro rest
  unfold headP
  rw [List.cons_append, lines_step (line_entry (a := st0) rfl he.1 (by omega))]
  split
  · rename_i h0
    refine ⟨2, false, ?_⟩
    rw [List.nil_append, h0]; rfl
  · rename_i h0
    refine ⟨3, true, ?_⟩
    rw [List.cons_append, lines_step (line_zero (a := { st0 with p := { st0.p with entry := p.entry }, hasEntry := true, line := st0.line + 1 }) rfl hz.1 hz.2)]
    rfl
 unfold printP
 rw [List.append_assoc, List.append_assoc]
 obtain ⟨n, z, h1⟩ := hhead ((codeP 0 p.code p.labels).1 ++ (tailP p (codeP 0 p.code p.labels).2 ++ [[]]))
 rw [h1]
 obtain ⟨n2, m, h2, h3, h4⟩ := code_back (z := p.zero) (e := p.entry) (he := true) (hz := z) (us := []) p.code 0 [] [] [] p.labels n (tailP p (codeP 0 p.code p.labels).2 ++ [[]]) ⟨rfl, h⟩ rfl rfl (fun l hl _ => by have := (h.each l hl).lo; omega)
 rw [h2]
 generalize (codeP 0 p.code p.labels).2 = rem at *
 unfold tailP
 split
 · rename_i hc
   simp only [Bool.and_eq_true, List.isEmpty_iff] at hc
   obtain ⟨c1, rfl⟩ := hc
   rw [List.append_nil] at h3
   subst h3
   refine ⟨_, fin _, ?_, rfl⟩
   simp only
   rw [← c1]
 · rw [List.cons_append, lines_step (line_data _)]
   obtain ⟨n3, g1⟩ := data_back (z := p.zero) (e := p.entry) (he := true) (hz := z) (us := []) (cd := p.code) (p.data.length + 1) 0 p.data [] m rem (n2 + 1) [[]] (by omega) ⟨h3, h⟩ rfl rfl (fun l hl => by
    have hm : l ∈ p.labels := by rw [← h3]; exact List.mem_append_right _ hl
    have hd := h4 l hl
    refine ⟨hd, (h.each l hm).lo, ?_⟩
    unfold isBehind at hb
    rw [List.any_eq_false] at hb
    have := hb l hm
    simp [hd] at this
    exact this)
   exact ⟨_, g1.trans (fin _), rfl, rfl⟩
theorem print_back {p : Pg} (h : checkP p = 0) (hb : isBehind p = false) (hl : (joinL (printP p)).length ≤ 65536) : assembleS (joinL (printP p)) = .ok p := by
 have ho := check_ok h
 obtain ⟨a, h1, h2, h3⟩ := lines_all ho hb
 unfold assembleS
 rw [if_neg (by omega), split_join _ (print_nl ho), h1]
 simp only [h3, resolveS, h2, sort_same ho.sorted]
 exact if_neg (fun g => g h)
end Go.As
namespace Go.As
def sumN (ls : List Lb) : Nat := (ls.map fun l => l.name.length + 2).sum
theorem joinL_app : ∀ (a b : List Bytes), joinL (a ++ b) = joinL a ++ joinL b
 | [], _ => rfl
 | x :: a, b => by rw [List.cons_append, joinL, joinL, joinL_app a b]; simp
theorem marks_len : ∀ (ls : List Lb), (joinL (marksT ls)).length = sumN ls
 | [] => rfl
 | l :: ls => by
   have := marks_len ls
   unfold marksT at this
   unfold marksT sumN at *
   rw [List.map_cons, joinL, List.length_append, List.length_cons, this]
   simp; omega
theorem sumN_app (a b : List Lb) : sumN (a ++ b) = sumN a + sumN b := by simp [sumN]
theorem sumN_td (d : Bool) (off : Nat) (ls : List Lb) : sumN (takeM d off ls) + sumN (dropM d off ls) = sumN ls := by rw [← sumN_app, take_drop_M]
theorem comma_len : ∀ (l : List Bytes), (∀ x ∈ l, x.length ≤ 12) → (commaT l).length ≤ 14 * l.length
 | [], _ => Nat.le_refl _
 | [x], h => by have := h x (List.mem_cons_self ..); simp [commaT]; omega
 | x :: y :: l, h => by
   have h1 := h x (List.mem_cons_self ..)
   have := comma_len (y :: l) fun z hz => h z (List.mem_cons_of_mem _ hz)
   rw [commaT]
   simp only [List.length_append, List.length_cons, List.length_nil] at *
   omega
theorem decI_len {n : Int} (h1 : -10000000000 < n) (h2 : n < 10000000000) : (decI n).length ≤ 11 := by
 unfold decI
 split
 · have := digs_len 9 n.natAbs (by omega)
   simp; omega
 · have := digs_len 9 n.toNat (by omega)
   omega
theorem line_len {x : Ins} (hx : checkI x = 0) : (lineT x).length ≤ 49 := by
 have ho := ins_ok hx
 obtain ⟨_, _, _, w⟩ := word_all ⟨x.op.toNat, by have := ho.op; omega⟩
 simp only at w
 have hlim := limits_small x.op.toNat
 have hra : (regT x.a).length ≤ 12 := by have := decI_len (n := x.a) (by have := ho.a; omega) (by have := ho.a; omega); simp [regT]; omega
 have hrb : (regT x.b).length ≤ 12 := by have := decI_len (n := x.b) (by have := ho.b; omega) (by have := ho.b; omega); simp [regT]; omega
 have hcc : 3 ≤ form x.op.toNat → -10000000000 < x.c ∧ x.c < 10000000000 := fun h => by
  by_cases h4 : 4 ≤ form x.op.toNat
  · have := ho.c4 h4; omega
  · have := ho.c3 (by omega); omega
 have hf := form_le x.op.toNat
 have hop : (operT x).length ≤ 3 ∧ ∀ y ∈ operT x, y.length ≤ 12 := by
  unfold operT
  split <;> rename_i hfm
  · exact ⟨by simp, fun y hy => by cases hy⟩
  · exact ⟨by simp, fun y hy => by simp at hy; subst hy; exact hra⟩
  · exact ⟨by simp, fun y hy => by simp at hy; rcases hy with rfl | rfl; exact hra; exact hrb⟩
  · have := decI_len (hcc (by omega)).1 (hcc (by omega)).2
    exact ⟨by simp, fun y hy => by simp at hy; rcases hy with rfl | rfl | rfl; exact hra; exact hrb; simp [regT]; omega⟩
  · have := decI_len (hcc (by omega)).1 (hcc (by omega)).2
    exact ⟨by simp, fun y hy => by simp at hy; rcases hy with rfl | rfl; exact hra; omega⟩
  · have := decI_len (hcc (by omega)).1 (hcc (by omega)).2
    exact ⟨by simp, fun y hy => by simp at hy; rcases hy with rfl | rfl | rfl; exact hra; exact hrb; omega⟩
  · rename_i nn n0 n1 n2 n3 n4
    have h6 : form x.op.toNat = 6 := by
     match h : form x.op.toNat, hf with
     | 0, _ => exact absurd h n0
     | 1, _ => exact absurd h n1
     | 2, _ => exact absurd h n2
     | 3, _ => exact absurd h n3
     | 4, _ => exact absurd h n4
     | 5, _ => exact absurd h hfm
     | 6, _ => rfl
    have := decI_len (hcc (by omega)).1 (hcc (by omega)).2
    exact ⟨by simp, fun y hy => by simp at hy; subst hy; omega⟩
 have := comma_len _ hop.2
 unfold lineT stmtT
 split
 · omega
 · simp only [List.length_append, List.length_cons]; omega
theorem code_len : ∀ (c : List Ins) (i : Nat) (ls : List Lb), (∀ x ∈ c, checkI x = 0) → (joinL (codeP i c ls).1).length + sumN (codeP i c ls).2 ≤ sumN ls + 56 * c.length
 | [], i, ls, _ => by
   have := sumN_td false (4 * i) ls
   rw [codeP, marks_len]; simp; omega
 | x :: c, i, ls, h => by
   have := sumN_td false (4 * i) ls
   have h1 := line_len (h x (List.mem_cons_self ..))
   have h2 := code_len c (i + 1) (dropM false (4 * i) ls) fun y hy => h y (List.mem_cons_of_mem _ hy)
   rw [codeP]
   simp only [joinL_app, joinL, List.length_append, marks_len, List.length_cons]
   omega
theorem qc_len4 (c : UInt8) : (qc c).length ≤ 4 := by
 unfold qc
 repeat' split
 all_goals simp
theorem qcs_len4 : ∀ s : Bytes, (qcs s).length ≤ 4 * s.length
 | [] => Nat.le_refl _
 | c :: s => by have := qc_len4 c; have := qcs_len4 s; rw [qcs, List.length_append, List.length_cons]; omega
theorem data_len : ∀ (f at' : Nat) (r : Bytes) (ls : List Lb), (joinL (dataP f at' r ls).1).length ≤ sumN ls + 10 * f + 4 * r.length
 | 0, _, _, _ => by simp [dataP, joinL]
 | f + 1, at', r, ls => by
   have := sumN_td true at' ls
   rw [dataP]
   split
   · rw [marks_len]; omega
   · have h1 := data_len f (at' + chunkN at' r (dropM true at' ls)) (r.drop (chunkN at' r (dropM true at' ls))) (dropM true at' ls)
     have h2 := qcs_len4 (r.take (chunkN at' r (dropM true at' ls)))
     have h3 : (r.take (chunkN at' r (dropM true at' ls))).length + (r.drop (chunkN at' r (dropM true at' ls))).length = r.length := by rw [← List.length_append, List.take_append_drop]
     have hd : dText.length = 5 := rfl
     simp only [joinL_app, joinL, List.length_append, marks_len, List.length_cons, quoteA, hd, List.length_nil] at *
     omega
theorem print_len {p : Pg} (h : POkS p) : (joinL (printP p)).length ≤ sumN p.labels + 14 * (4 * p.code.length + p.data.length) + 70 := by
 have h1 := code_len p.code 0 p.labels h.ins
 have h2 := data_len (p.data.length + 1) 0 p.data (codeP 0 p.code p.labels).2
 have hz := h.zero
 have he := h.entry
 have hcl := h.codeLen
 have hE : dEntry.length = 6 := rfl
 have hZ : dZero.length = 5 := rfl
 have hD : dData.length = 5 := rfl
 have e1 := decI_len (n := p.entry) (by omega) (by omega)
 have e2 := decI_len (n := p.zero) (by omega) (by omega)
 have hh : (joinL (headP p)).length ≤ 40 := by
  unfold headP
  split <;> simp only [joinL, List.length_append, List.length_cons, hE, hZ, List.length_nil] <;> omega
 have ht : (joinL (tailP p (codeP 0 p.code p.labels).2)).length ≤ 6 + (sumN (codeP 0 p.code p.labels).2 + 10 * (p.data.length + 1) + 4 * p.data.length) := by
  unfold tailP
  split
  · simp [joinL]
  · simp only [joinL, List.length_append, List.length_cons, hD]; omega
 unfold printP
 rw [joinL_app, joinL_app, List.length_append, List.length_append]
 omega
theorem line_back {x : Ins} (hx : checkI x = 0) : assembleS (lineT x) = .ok ⟨[x], [], 0, 0, []⟩ := by
 have hl := line_len hx
 unfold assembleS
 rw [if_neg (by omega), split_one _ (line_nl hx), lines_step (line_ins (a := st0) hx rfl (by decide))]
 simp only [linesS, resolveS, st0, sortL, List.foldl_nil, List.nil_append]
 have hc : checkP ⟨[x], [], 0, 0, []⟩ = 0 := by
  unfold checkP
  have h1 : (([x] : List Ins).map checkI).find? (· ≠ 0) = none := by simp [hx]
  rw [h1]
  simp [dataAt, labelsErr, twice]
 exact if_neg (fun h => h hc)
def sumB (l : List Bytes) : Nat := (l.map fun x => x.length + 1).sum
def tokW (ts : List Tk) : Nat := (ts.map fun t => if t.kind = 1 then t.text.length else if t.kind = 4 then 1 else 0).sum
theorem take_drop_len (s : Bytes) : (s.takeWhile wordB).length + (s.dropWhile wordB).length = s.length := by rw [← List.length_append, List.takeWhile_append_dropWhile]
theorem tokW_le : ∀ (f : Nat) (s : Bytes) (ts : List Tk), tokensS f s = some ts → tokW ts ≤ s.length
 | 0, _, _, h => by simp [tokensS] at h
 | f + 1, [], ts, h => by simp [tokensS] at h; subst h; simp [tokW]
 | f + 1, c :: r, ts, h => by
   rw [tokensS] at h
   split at h
   · simp at h; subst h; simp [tokW]
   split at h
   · have := tokW_le f r ts h; simp; omega
   split at h
   · simp only [Option.map_eq_some_iff] at h
     obtain ⟨l, h1, rfl⟩ := h
     have := tokW_le f r l h1
     simp [tokW] at *; omega
   split at h
   · simp only [Option.map_eq_some_iff] at h
     obtain ⟨l, h1, rfl⟩ := h
     have := tokW_le f r l h1
     simp [tokW] at *; omega
   split at h
   · split at h
     · cases h
     · rename_i x r' hu
       have hu := unq_len hu
       simp only [Option.map_eq_some_iff] at h
       obtain ⟨l, h1, rfl⟩ := h
       have := tokW_le f r' l h1
       simp [tokW] at *; omega
   split at h
   · simp only [Option.map_eq_some_iff] at h
     obtain ⟨l, h1, rfl⟩ := h
     have := tokW_le f _ l h1
     have h2 := take_drop_len (c :: r)
     simp only [tokW, List.map_cons, List.sum_cons, if_true] at *
     omega
   · cases h
theorem split_w : ∀ (ts : List Tk) (ls : List Bytes) (o : Option (Bytes × List Tk)), splitL ts = some (ls, o) → sumB ls ≤ tokW ts
 | [], ls, o, h => by simp [splitL] at h; obtain ⟨rfl, _⟩ := h; simp [sumB]
 | [t], ls, o, h => by
   rw [splitL] at h
   split at h
   · cases h
   · simp at h; obtain ⟨rfl, _⟩ := h; simp [sumB]
 | t :: u :: l, ls, o, h => by
   rw [splitL] at h
   split at h
   · cases h
   rename_i ht
   have ht : t.kind = 1 := by simpa using ht
   split at h
   · rename_i hu
     simp only [Option.map_eq_some_iff] at h
     obtain ⟨⟨ls', o'⟩, h1, h2⟩ := h
     simp only [Prod.mk.injEq] at h2
     obtain ⟨rfl, rfl⟩ := h2
     have := split_w l ls' o' h1
     simp [sumB, tokW, ht, hu] at *; omega
   · simp only [Option.map_eq_some_iff] at h
     obtain ⟨x, _, h2⟩ := h
     simp only [Prod.mk.injEq] at h2
     obtain ⟨rfl, _⟩ := h2
     simp [sumB]
structure Fit (a : St) (k : Nat) : Prop where
 fit : ∀ l ∈ a.p.labels, l.data = true → l.off ≤ (a.p.data.length : Int)
 sum : sumN a.p.labels ≤ 2 * k
theorem define_fit : ∀ (ns : List Bytes) (a a' : St) (k : Nat), defineS a ns = .ok a' → Fit a k → Fit a' (k + sumB ns)
 | [], a, a', k, h, hF => by
   simp [defineS] at h; subst h; simpa [sumB] using hF
 | n :: ns, a, a', k, h, hF => by
   rw [defineS] at h
   split at h
   · cases h
   split at h
   · cases h
   split at h
   · cases h
   have := define_fit ns _ a' (k + (n.length + 1)) h ⟨fun l hl hd => ?_, ?_⟩
   · have e : k + sumB (n :: ns) = k + (n.length + 1) + sumB ns := by simp [sumB]; omega
     rw [e]; exact this
   · simp only [List.mem_append, List.mem_singleton] at hl
     rcases hl with hl | rfl
     · exact hF.fit l hl hd
     · simp only at hd ⊢
       rw [if_pos hd]; exact Int.le_refl _
   · have := hF.sum
     simp only [sumN_app]
     simp [sumN] at *; omega
def Grow (p q : Pg) : Prop := q.labels = p.labels ∧ p.data.length ≤ q.data.length
theorem Grow.refl (p : Pg) : Grow p p := ⟨rfl, Nat.le_refl _⟩
theorem Grow.trans {p q r : Pg} (h1 : Grow p q) (h2 : Grow q r) : Grow p r := ⟨h2.1.trans h1.1, Nat.le_trans h1.2 h2.2⟩
theorem bind_ok {α β : Type} {x : R α} {f : α → R β} {y : β} (h : (x >>= f) = .ok y) : ∃ z, x = .ok z ∧ f z = .ok y := by
 cases x with
 | error e => cases h
 | ok z => exact ⟨z, rfl, h⟩
theorem instr_grow {a a' : St} {op : Nat} {l : List Tk} (h : instrS a op l = .ok a') : Grow a.p a'.p := by
 unfold instrS at h
 split at h
 · obtain ⟨r, _, h⟩ := bind_ok h
   split at h
   · cases h
   · injection h with h; subst h; exact ⟨rfl, Nat.le_refl _⟩
 · obtain ⟨r, _, h⟩ := bind_ok h
   obtain ⟨⟨n, u⟩, _, h⟩ := bind_ok h
   simp only at h
   split at h
   · cases h
   · injection h with h; subst h; exact ⟨rfl, Nat.le_refl _⟩
theorem words_grow : ∀ (l : List Tk) (a a' : St), wordsS a l = .ok a' → Grow a.p a'.p
 | [], a, a', h => by simp [wordsS] at h; subst h; exact Grow.refl _
 | t :: l, a, a', h => by
   rw [wordsS] at h
   obtain ⟨⟨n, u⟩, _, h⟩ := bind_ok h
   have := words_grow l _ _ h
   refine Grow.trans ?_ this
   exact ⟨rfl, by simp⟩
theorem bytes_grow : ∀ (l : List Tk) (a a' : St), bytesS a l = .ok a' → Grow a.p a'.p
 | [], a, a', h => by simp [bytesS] at h; subst h; exact Grow.refl _
 | t :: l, a, a', h => by
   rw [bytesS] at h
   obtain ⟨n, _, h⟩ := bind_ok h
   have := bytes_grow l _ _ h
   refine Grow.trans ?_ this
   exact ⟨rfl, by simp⟩
theorem full_ok {a a' : St} (h : full a = .ok a') : a' = a := by
 unfold full at h
 split at h
 · cases h
 · injection h with h; exact h.symm
theorem ite_err {α : Type} {c : Prop} [Decidable c] {e : Nat} {y : R α} {z : α} (h : (if c then .error e else y) = .ok z) : y = .ok z := by
 by_cases hc : c
 · rw [if_pos hc] at h; cases h
 · rw [if_neg hc] at h; exact h
theorem stmt_grow {a a' : St} {n : Bytes} {l : List Tk} (h : stmtS a n l = .ok a') : Grow a.p a'.p := by
 unfold stmtS at h
 cases hf : wordsB.findIdx? (· == n) with
 | some op =>
   rw [hf] at h
   exact instr_grow (ite_err (ite_err h))
 | none =>
   rw [hf] at h
   by_cases c1 : n = dCode ∨ n = dData
   · simp only [if_pos c1] at h
     have h := ite_err h
     injection h with h; subst h; exact Grow.refl _
   simp only [if_neg c1] at h
   by_cases c2 : n = dEntry
   · simp only [if_pos c2] at h
     obtain ⟨⟨n, u⟩, _, h⟩ := bind_ok (ite_err (ite_err h))
     injection h with h; subst h; exact ⟨rfl, Nat.le_refl _⟩
   simp only [if_neg c2] at h
   by_cases c3 : n = dZero
   · simp only [if_pos c3] at h
     obtain ⟨n, _, h⟩ := bind_ok (ite_err (ite_err h))
     injection h with h; subst h; exact ⟨rfl, Nat.le_refl _⟩
   simp only [if_neg c3] at h
   by_cases c4 : n = dWord ∨ n = dByte ∨ n = dText ∨ n = dSpace
   · simp only [if_pos c4] at h
     have h := ite_err (ite_err (ite_err h))
     by_cases c5 : n = dWord
     · simp only [if_pos c5] at h
       obtain ⟨b, hb, h⟩ := bind_ok h
       rw [full_ok h]; exact words_grow _ _ _ hb
     simp only [if_neg c5] at h
     by_cases c6 : n = dByte
     · simp only [if_pos c6] at h
       obtain ⟨b, hb, h⟩ := bind_ok h
       rw [full_ok h]; exact bytes_grow _ _ _ hb
     simp only [if_neg c6] at h
     by_cases c7 : n = dText
     · simp only [if_pos c7] at h
       rw [full_ok h]; exact ⟨rfl, by simp⟩
     simp only [if_neg c7] at h
     obtain ⟨n, _, h⟩ := bind_ok h
     rw [full_ok h]; exact ⟨rfl, by simp⟩
   · simp only [if_neg c4] at h
     cases h
theorem Fit.grow {a a' : St} {k : Nat} (hF : Fit a k) (h : Grow a.p a'.p) : Fit a' k := by
 refine ⟨fun l hl hd => ?_, ?_⟩
 · rw [h.1] at hl
   have := hF.fit l hl hd
   have := h.2
   omega
 · rw [h.1]; exact hF.sum
theorem Fit.le {a : St} {k k' : Nat} (hF : Fit a k) (h : k ≤ k') : Fit a k' := ⟨hF.fit, by have := hF.sum; omega⟩
theorem line_fit {a a' : St} {s : Bytes} {k : Nat} (h : lineS a s = .ok a') (hF : Fit a k) : Fit a' (k + s.length) := by
 unfold lineS at h
 split at h
 · cases h
 rename_i ts ht
 have h1 := tokW_le _ _ _ ht
 split at h
 · cases h
 · rename_i ls hs
   have h2 := split_w _ _ _ hs
   exact (define_fit ls a a' k h hF).le (by omega)
 · rename_i ls n os hs
   have h2 := split_w _ _ _ hs
   obtain ⟨b, hb, h⟩ := bind_ok h
   exact ((define_fit ls a b k hb hF).grow (stmt_grow h)).le (by omega)
theorem lines_fit : ∀ (ls : List Bytes) (a a' : St) (k : Nat), linesS a ls = .ok a' → Fit a k → Fit a' (k + (ls.map List.length).sum)
 | [], a, a', k, h, hF => by simp [linesS] at h; subst h; simpa using hF
 | s :: ls, a, a', k, h, hF => by
   rw [linesS] at h
   split at h
   · cases h
   · rename_i b hb
     have h1 := line_fit hb hF
     have := lines_fit ls _ a' (k + s.length) h ⟨h1.fit, h1.sum⟩
     refine this.le ?_
     simp; omega
theorem split_sum : ∀ s : Bytes, ((splitAt10 s).map List.length).sum ≤ s.length
 | [] => by simp [splitAt10]
 | c :: s => by
   have ih := split_sum s
   rw [splitAt10]
   split
   · simp; omega
   · obtain ⟨h, t, e⟩ := split_ne s
     rw [e] at ih ⊢
     simp at *; omega
theorem resolve_grow : ∀ (us : List Us) (p q : Pg), resolveS p us = .ok q → Grow p q
 | [], p, q, h => by simp [resolveS] at h; subst h; exact Grow.refl _
 | u :: us, p, q, h => by
   rw [resolveS] at h
   split at h
   · cases h
   split at h
   · cases h
   refine Grow.trans ?_ (resolve_grow us _ q h)
   split
   · exact ⟨rfl, Nat.le_refl _⟩
   split
   · refine ⟨rfl, ?_⟩
     simp [putW, wordOf]; omega
   · exact ⟨rfl, Nat.le_refl _⟩
theorem ins_perm (x : Lb) : ∀ s : List Lb, (insL x s).Perm (x :: s)
 | [] => List.Perm.refl _
 | y :: s => by
   rw [insL]
   split
   · exact ((ins_perm x s).cons y).trans (List.Perm.swap x y s)
   · exact List.Perm.refl _
theorem sort_perm (l : List Lb) : (sortL l).Perm l := by
 have : ∀ (l s : List Lb), (l.foldl (fun s x => insL x s) s).Perm (s ++ l) := by
  intro l
  induction l with
  | nil => intro s; simp
  | cons x l ih =>
    intro s
    rw [List.foldl_cons]
    refine (ih _).trans ?_
    refine ((ins_perm x s).append_right l).trans ?_
    exact (List.perm_middle (l₁ := s)).symm
 have := this l []
 rw [List.nil_append] at this
 exact this
theorem sumN_perm {a b : List Lb} (h : a.Perm b) : sumN a = sumN b := by
 unfold sumN
 exact (h.map _).sum_nat
theorem assemble_fit {s : Bytes} {p : Pg} (h : assembleS s = .ok p) : isBehind p = false ∧ sumN p.labels ≤ 2 * s.length := by
 unfold assembleS at h
 split at h
 · cases h
 split at h
 · cases h
 rename_i a ha
 split at h
 · cases h
 rename_i q hq
 obtain ⟨_, h2⟩ := ite_ok h
 subst h2
 have h1 := lines_fit _ _ _ 0 ha ⟨fun l hl => by simp [st0] at hl, by simp [st0, sumN]⟩
 have h3 := split_sum s
 have hg := resolve_grow _ _ _ hq
 refine ⟨?_, ?_⟩
 · unfold isBehind
   rw [List.any_eq_false]
   intro l hl
   have hl := (sort_perm q.labels).mem_iff.1 hl
   simp only [Bool.and_eq_true, decide_eq_true_eq, not_and]
   intro hd
   have := h1.fit l (by rw [← hg.1]; exact hl) hd
   have := hg.2
   omega
 · have e := sumN_perm (sort_perm q.labels)
   rw [hg.1] at e
   show sumN (sortL q.labels) ≤ _
   rw [hg.1, e]
   have := h1.sum
   omega
theorem valid_back {s : Bytes} {p : Pg} (hs : s.length ≤ 1500) (h : assembleS s = .ok p) : printS p = .ok (joinL (printP p)) ∧ assembleS (joinL (printP p)) = .ok p := by
 have h0 := assemble_ok h
 obtain ⟨h1, h2⟩ := assemble_fit h
 have ho := check_ok h0
 have hl := print_len ho
 have := ho.codeLen
 refine ⟨?_, print_back h0 h1 (by omega)⟩
 unfold printS
 rw [if_neg (fun g => g h0), h1]
 rfl
end Go.As
namespace Go.Proofs.D
open Go Go.Den Go.As Go.Shelf
set_option maxRecDepth 100000
def layC_ren : Go.Shelf.Ren := ⟨fun | 106 => 93 | 213 => 131 | 265 => 153 | n => n, fun | 9 => 9 | 3 => 3 | n => n, fun | n => n⟩
theorem layC : Go.Proofs.Lays.n106 Tryz.prog layC_ren where
 mixed := by kernel_rfl
 f106 := Tryz.func93.trans (congrArg some (by kernel_rfl))
 f213 := Tryz.func131.trans (congrArg some (by kernel_rfl))
 f265 := Tryz.func153.trans (congrArg some (by kernel_rfl))
 t3 := Tryz.underlying3
 a3 := Tryz.isAgg3
 z3 := Tryz.sizeOf3
 v3 := Tryz.zeroValue3
 t9 := Tryz.underlying9
 a9 := Tryz.isAgg9
 z9 := Tryz.sizeOf9
 v9 := Tryz.zeroValue9
def layS_ren : Go.Shelf.Ren := ⟨fun | 146 => 38 | 221 => 87 | 268 => 116 | 138 => 117 | 143 => 118 | 195 => 143 | 197 => 144 | 218 => 145 | 219 => 146 | 260 => 166 | 217 => 167 | 225 => 168 | 224 => 169 | 267 => 170 | 266 => 182 | 314 => 183 | n => n, fun | 9 => 9 | 31 => 52 | 3 => 3 | 4 => 4 | 0 => 0 | 105 => 187 | 21 => 21 | 5 => 5 | 46 => 98 | 119 => 220 | 139 => 223 | 138 => 222 | 146 => 224 | 51 => 161 | n => n, fun | 1 => 1 | 3 => 3 | 4 => 4 | n => n⟩
theorem layS : Go.Proofs.Lays.n146 Tryz.prog layS_ren where
 mixed := by kernel_rfl
 f138 := Tryz.func117.trans (congrArg some (by kernel_rfl))
 f143 := Tryz.func118.trans (congrArg some (by kernel_rfl))
 f146 := Tryz.func38.trans (congrArg some (by kernel_rfl))
 f195 := Tryz.func143.trans (congrArg some (by kernel_rfl))
 f197 := Tryz.func144.trans (congrArg some (by kernel_rfl))
 f217 := Tryz.func167.trans (congrArg some (by kernel_rfl))
 f218 := Tryz.func145.trans (congrArg some (by kernel_rfl))
 f219 := Tryz.func146.trans (congrArg some (by kernel_rfl))
 f221 := Tryz.func87.trans (congrArg some (by kernel_rfl))
 f224 := Tryz.func169.trans (congrArg some (by kernel_rfl))
 f225 := Tryz.func168.trans (congrArg some (by kernel_rfl))
 f260 := Tryz.func166.trans (congrArg some (by kernel_rfl))
 f266 := Tryz.func182.trans (congrArg some (by kernel_rfl))
 f267 := Tryz.func170.trans (congrArg some (by kernel_rfl))
 f268 := Tryz.func116.trans (congrArg some (by kernel_rfl))
 f314 := Tryz.func183.trans (congrArg some (by kernel_rfl))
 t0 := Tryz.underlying0
 a0 := Tryz.isAgg0
 z0 := Tryz.sizeOf0
 v0 := Tryz.zeroValue0
 t3 := Tryz.underlying3
 a3 := Tryz.isAgg3
 z3 := Tryz.sizeOf3
 v3 := Tryz.zeroValue3
 t4 := Tryz.underlying4
 a4 := Tryz.isAgg4
 z4 := Tryz.sizeOf4
 v4 := Tryz.zeroValue4
 t5 := Tryz.underlying5
 a5 := Tryz.isAgg5
 z5 := Tryz.sizeOf5
 v5 := Tryz.zeroValue5
 t9 := Tryz.underlying9
 a9 := Tryz.isAgg9
 z9 := Tryz.sizeOf9
 v9 := Tryz.zeroValue9
 t21 := Tryz.underlying21
 a21 := Tryz.isAgg21
 z21 := Tryz.sizeOf21
 v21 := Tryz.zeroValue21
 t31 := Tryz.underlying52
 a31 := Tryz.isAgg52
 z31 := Tryz.sizeOf52
 v31 := Tryz.zeroValue52
 t46 := Tryz.underlying98
 a46 := Tryz.isAgg98
 z46 := Tryz.sizeOf98
 v46 := Tryz.zeroValue98
 t51 := Tryz.underlying161
 a51 := Tryz.isAgg161
 z51 := Tryz.sizeOf161
 v51 := Tryz.zeroValue161
 t105 := Tryz.underlying187
 a105 := Tryz.isAgg187
 z105 := Tryz.sizeOf187
 v105 := Tryz.zeroValue187
 t119 := Tryz.underlying220
 a119 := Tryz.isAgg220
 z119 := Tryz.sizeOf220
 t138 := Tryz.underlying222
 a138 := Tryz.isAgg222
 z138 := Tryz.sizeOf222
 v138 := Tryz.zeroValue222
 t139 := Tryz.underlying223
 a139 := Tryz.isAgg223
 z139 := Tryz.sizeOf223
 v139 := Tryz.zeroValue223
 t146 := Tryz.underlying224
 a146 := Tryz.isAgg224
 z146 := Tryz.sizeOf224
 v146 := Tryz.zeroValue224
 g1 := by kernel_rfl
 g3 := by kernel_rfl
 g4 := by kernel_rfl
theorem tri_calls {f : FuncId} {fn : Func} {c : Code} {args : List Value} {h : PHeap} {Q : Value → PHeap → Prop} (hf : Tryz.prog.funcs[f]? = some fn) (hname : (fn.name == "runtime.NumGoroutine") = false) (hb : fn.body = some c)
 (H : ∀ w, Sub w h → Calls Tryz.prog f args.toArray w fun e w' => ∃ v h', e = .returned v ∧ Q v h' ∧ Sub w' h' ∧ Keep w h w' h') : Tri Tryz.prog f args h Q := by
 intro w hs
 unfold CallR
 rw [enters_of hf hname hb]
 refine Calls.mono (H w hs) ?_
 rintro e w' ⟨v, h', rfl, hq, h1, h2⟩
 exact ⟨h', hq, h1, h2⟩
def ba (s : Bytes) : ByteArray := ⟨⟨s⟩⟩
theorem strcmp_t (a b : Bytes) {h : PHeap} : Tri Tryz.prog 93 [vS a, vS b] h fun v h' => v = vI (Lib.compareBytes a b) ∧ h' = h := by
 refine tri_calls Tryz.func93 (by kernel_rfl) rfl fun w hs => ?_
 refine Calls.mono (Any.strings_Compare layC (ba a) (ba b) w) ?_
 rintro e w' ⟨rfl, rfl⟩
 exact ⟨_, h, rfl, ⟨rfl, rfl⟩, hs, Keep.refl _ _⟩
theorem splitK_10 : ∀ (s : Bytes), Lib.splitK [10] 0 (Lib.count s [10]) s = splitAt10 s
 | [] => rfl
 | c :: r => by
   have ih := splitK_10 r
   by_cases hc : c = 10
   · subst hc
     have hix : Lib.index (10 :: r) [10] = ((0 : Nat) : Int) := rfl
     rw [Lib.count_hit (by simp) hix, Nat.add_comm, Lib.splitK, if_neg (by rw [hix]; decide), hix]
     show [] :: Lib.splitK [10] 0 (Lib.count r [10]) r = _
     rw [ih, splitAt10, if_pos rfl]
   · have hx : Lib.index (c :: r) [10] = if Lib.index r [10] == -1 then -1 else Lib.index r [10] + 1 := by
      rw [Lib.index, if_neg]
      simp [List.isPrefixOf]
      exact fun h => hc h.symm
     rw [splitAt10, if_neg hc]
     have hge := Lib.index_ge r [10]
     by_cases h1 : Lib.index r [10] = -1
     · rw [h1] at hx
       rw [Lib.count_miss h1] at ih
       rw [Lib.count_miss hx]
       rw [Lib.splitK] at ih ⊢
       rw [← ih]
     · obtain ⟨i, hi⟩ : ∃ i : Nat, Lib.index r [10] = (i : Int) := ⟨(Lib.index r [10]).toNat, by omega⟩
       rw [if_neg (by simpa using h1), hi] at hx
       have hx : Lib.index (c :: r) [10] = ((i + 1 : Nat) : Int) := by rw [hx]; omega
       rw [Lib.count_hit (by simp) hi, Nat.add_comm, Lib.splitK, if_neg (by rw [hi]; simp <;> omega), hi] at ih
       rw [Lib.count_hit (by simp) hx, Nat.add_comm, Lib.splitK, if_neg (by rw [hx]; simp <;> omega), hx]
       rw [← ih]
       simp only [Int.toNat_natCast, Nat.add_zero, List.take_succ_cons]
       rfl
def MaxLen (h : PHeap) : Prop := ∃ m : Int, h.cell 1 0 = some (vI m)
theorem MaxLen.ext {h h' : PHeap} (x : Ext h h') (hm : MaxLen h) : MaxLen h' := by
 obtain ⟨m, hm⟩ := hm
 exact ⟨m, cell_ext (fun ob => x 1 ob) hm⟩
theorem split_t (s : Bytes) (hl : s.length ≤ 1000000) {h : PHeap} (hM : MaxLen h) : Tri Tryz.prog 38 [vS s, vS [10]] h fun v h' => ∃ b, h b = none ∧ v = vL (ad b 0) (splitAt10 s).length (splitAt10 s).length ∧ h' = h.put b (.cells ⟨(splitAt10 s).map vS⟩ 9 (0, 0)) := by
 refine tri_calls Tryz.func38 (by kernel_rfl) rfl fun w hs => ?_
 obtain ⟨m, hm⟩ := hM
 refine Calls.mono (Any.strings_Split layS (by kernel_rfl) (ba s) (ba [10]) m w (by show s.length < _; omega) (hs.cell hm) (by decide)) ?_
 rintro e w' ⟨rfl, rfl⟩
 have hb : h w.heap.size = none := by
  cases hq : h w.heap.size with
  | none => rfl
  | some o =>
    have := hs _ _ hq
    simp at this
 have hall := Lib.splitB_all (ba [10]) (by decide) 0 _ (ba s) rfl
 have hdat := Lib.splitB_data (ba [10]) 0 (Lib.countB (ba s) (ba [10])) (ba s)
 rw [show Lib.splitK (ba [10]).data.toList 0 (Lib.countB (ba s) (ba [10])) (ba s).data.toList = splitAt10 s from splitK_10 s] at hdat
 have hlen : (splitAt10 s).length = Lib.countB (ba s) (ba [10]) + 1 := by rw [← hdat, List.length_map, hall]
 have hv : (Lib.splitB (ba [10]) 0 (Lib.countB (ba s) (ba [10])) (ba s)).map Value.string = (splitAt10 s).map vS := by
  rw [← hdat, List.map_map]
  rfl
 refine ⟨_, h.put w.heap.size (.cells ⟨(splitAt10 s).map vS⟩ 9 (0, 0)), rfl, ⟨_, hb, by rw [hlen], rfl⟩, ?_, ?_⟩
 · intro k o hk
   show (w.heap.push _)[k]? = some o
   by_cases hkb : k = w.heap.size
   · subst hkb
     rw [put_same] at hk
     rw [Array.getElem?_push_size, ← hk, ← hv]
     rfl
   · rw [put_ne hkb] at hk
     have := hs k o hk
     rw [Array.getElem?_push, if_neg hkb]; exact this
 · refine ⟨rfl, rfl, rfl, (by show w.heap.size ≤ (w.heap.push _).size; rw [Array.size_push]; omega), fun k hk hn => ⟨by rw [put_ne (by omega)]; exact hn, ?_⟩⟩
   show (w.heap.push _)[k]? = _
   rw [Array.getElem?_push, if_neg (by omega)]
end Go.Proofs.D
namespace Go.Proofs.D
open Go Go.Den
set_option maxRecDepth 100000
set_option maxHeartbeats 4000000
abbrev eek1 : List CK := [.str, qi, qi, qi, .bool, .bool]
abbrev eek2 : List CK := [.slice, .str, qi, qi, .slice]
noncomputable def d59 : DCode := up ⟨[(5, .c (.one false [.bool])), (10, .l [qi])], [], []⟩ (low Tryz.prog (fun _ => false) (Tryz.f59.body.getD .skip))
theorem low59 : low Tryz.prog (fun _ => false) (Tryz.f59.body.getD .skip) = some (eC d59) := by kernel_rfl
def R59 (i1 : Int) (h : PHeap) (Q : Value → PHeap → Prop) : Prop :=
 Tri Tryz.prog 98 [vI i1] h fun v_1 h_1 =>
 ∃ (c1 : Bool), v_1 = vB c1 ∧
 br (!c1)
 (Q (vT [vI 0, vI 11]) h_1)
 ((0 ≤ i1 ∧ i1 < 27) ∧
 ∃ (i2 : Int), h_1.cell 0 ((0 + (i1).toNat * 6) + 1) = some (vI i2) ∧
 Q (vT [vI i2, vI 0]) h_1)
theorem T59 {i1 : Int} {h : PHeap} {Q : Value → PHeap → Prop} (hR : R59 i1 h Q) : Tri Tryz.prog 59 [vI i1] h Q :=
 tri_of_dn mixed Tryz.func59 rfl (by kernel_rfl) low59 (rs := [.tmp 2, .tmp 3]) (by kernel_rfl) rfl (Eq.mpr (by kernel_rfl : dnF Tryz.prog Tryz.f59.ntmps d59 [.tmp 2, .tmp 3] [vI i1] h Q = R59 i1 h Q) hR)
noncomputable def d61 : DCode := up ⟨[(4, .c (.one false [.bool])), (9, .l [.str])], [], []⟩ (low Tryz.prog (fun _ => false) (Tryz.f61.body.getD .skip))
theorem low61 : low Tryz.prog (fun _ => false) (Tryz.f61.body.getD .skip) = some (eC d61) := by kernel_rfl
def R61 (i1 : Int) (h : PHeap) (Q : Value → PHeap → Prop) : Prop :=
 Tri Tryz.prog 98 [vI i1] h fun v_1 h_1 =>
 ∃ (c1 : Bool), v_1 = vB c1 ∧
 br (!c1)
 (Q (vS []) h_1)
 ((0 ≤ i1 ∧ i1 < 27) ∧
 ∃ (l1 : Bs), h_1.cell 0 (0 + (i1).toNat * 6) = some (vS l1) ∧
 Q (vS l1) h_1)
theorem T61 {i1 : Int} {h : PHeap} {Q : Value → PHeap → Prop} (hR : R61 i1 h Q) : Tri Tryz.prog 61 [vI i1] h Q :=
 tri_of_dn mixed Tryz.func61 rfl (by kernel_rfl) low61 (rs := [.tmp 2]) (by kernel_rfl) rfl (Eq.mpr (by kernel_rfl : dnF Tryz.prog Tryz.f61.ntmps d61 [.tmp 2] [vI i1] h Q = R61 i1 h Q) hR)
noncomputable def d114 : DCode := up ⟨[(6, .c (.one false [.bool])), (11, .l [qi]), (12, .c (.one false [.bool])), (17, .l [qi]), (21, .l [qi])], [], []⟩ (low Tryz.prog (fun _ => false) (Tryz.f114.body.getD .skip))
theorem low114 : low Tryz.prog (fun _ => false) (Tryz.f114.body.getD .skip) = some (eC d114) := by kernel_rfl
def R114 (i1 : Int) (h : PHeap) (Q : Value → PHeap → Prop) : Prop :=
 Tri Tryz.prog 98 [vI i1] h fun v_1 h_1 =>
 ∃ (c1 : Bool), v_1 = vB c1 ∧
 br (!c1)
 (Q (vT [vI 0, vI 0, vI 11]) h_1)
 ((0 ≤ i1 ∧ i1 < 27) ∧
 ∃ (i2 : Int), h_1.cell 0 ((0 + (i1).toNat * 6) + 1) = some (vI i2) ∧
 Tri Tryz.prog 99 [vI i2] h_1 fun v_2 h_2 =>
 ∃ (c2 : Bool), v_2 = vB c2 ∧
 br (!c2)
 (Q (vT [vI 0, vI 0, vI 1]) h_2)
 ((0 ≤ i1 ∧ i1 < 27) ∧
 ∃ (i3 : Int), h_2.cell 0 ((0 + (i1).toNat * 6) + 2) = some (vI i3) ∧
 (0 ≤ i1 ∧ i1 < 27) ∧
 ∃ (i4 : Int), h_2.cell 0 ((0 + (i1).toNat * 6) + 3) = some (vI i4) ∧
 Q (vT [vI i3, vI i4, vI 0]) h_2))
theorem T114 {i1 : Int} {h : PHeap} {Q : Value → PHeap → Prop} (hR : R114 i1 h Q) : Tri Tryz.prog 114 [vI i1] h Q :=
 tri_of_dn mixed Tryz.func114 rfl (by kernel_rfl) low114 (rs := [.tmp 2, .tmp 3, .tmp 4]) (by kernel_rfl) rfl (Eq.mpr (by kernel_rfl : dnF Tryz.prog Tryz.f114.ntmps d114 [.tmp 2, .tmp 3, .tmp 4] [vI i1] h Q = R114 i1 h Q) hR)
noncomputable def d84 : DCode := up ⟨[(7, .c (.tup [(false, [qi]), (false, [qi])]))], [], []⟩ (low Tryz.prog (fun _ => false) (Tryz.f84.body.getD .skip))
theorem low84 : low Tryz.prog (fun _ => false) (Tryz.f84.body.getD .skip) = some (eC d84) := by kernel_rfl
def R84 (i1 : Int) (h : PHeap) (Q : Value → PHeap → Prop) : Prop :=
 Tri Tryz.prog 59 [vI i1] h fun v_1 h_1 =>
 ∃ (i2 i3 : Int), v_1 = vT [vI i2, vI i3] ∧
 br (i2 == 1)
 (Q (vI 1) h_1)
 (br (i2 == 6)
 (Q (vI 1) h_1)
 (br (i2 == 2)
 (Q (vI 2) h_1)
 (br (i2 == 4)
 (Q (vI 2) h_1)
 (br (i2 == 3)
 (Q (vI 3) h_1)
 (br (i2 == 5)
 (Q (vI 3) h_1)
 (Q (vI 0) h_1))))))
theorem T84 {i1 : Int} {h : PHeap} {Q : Value → PHeap → Prop} (hR : R84 i1 h Q) : Tri Tryz.prog 84 [vI i1] h Q :=
 tri_of_dn mixed Tryz.func84 rfl (by kernel_rfl) low84 (rs := [.tmp 2]) (by kernel_rfl) rfl (Eq.mpr (by kernel_rfl : dnF Tryz.prog Tryz.f84.ntmps d84 [.tmp 2] [vI i1] h Q = R84 i1 h Q) hR)
noncomputable def d98 : DCode := up ⟨[], [], []⟩ (low Tryz.prog (fun _ => false) (Tryz.f98.body.getD .skip))
theorem low98 : low Tryz.prog (fun _ => false) (Tryz.f98.body.getD .skip) = some (eC d98) := by kernel_rfl
def R98 (i1 : Int) (h : PHeap) (Q : Value → PHeap → Prop) : Prop :=
 br (decide (i1 ≥ 0))
 (Q (vB (decide (i1 < 27))) h)
 (Q (vB false) h)
theorem T98 {i1 : Int} {h : PHeap} {Q : Value → PHeap → Prop} (hR : R98 i1 h Q) : Tri Tryz.prog 98 [vI i1] h Q :=
 tri_of_dn mixed Tryz.func98 rfl (by kernel_rfl) low98 (rs := [.tmp 2]) (by kernel_rfl) rfl (Eq.mpr (by kernel_rfl : dnF Tryz.prog Tryz.f98.ntmps d98 [.tmp 2] [vI i1] h Q = R98 i1 h Q) hR)
noncomputable def d99 : DCode := up ⟨[], [], []⟩ (low Tryz.prog (fun _ => false) (Tryz.f99.body.getD .skip))
theorem low99 : low Tryz.prog (fun _ => false) (Tryz.f99.body.getD .skip) = some (eC d99) := by kernel_rfl
def R99 (i1 : Int) (h : PHeap) (Q : Value → PHeap → Prop) : Prop :=
 br (i1 == 4)
 (Q (vB true) h)
 (br (i1 == 5)
 (Q (vB true) h)
 (Q (vB (i1 == 6)) h))
theorem T99 {i1 : Int} {h : PHeap} {Q : Value → PHeap → Prop} (hR : R99 i1 h Q) : Tri Tryz.prog 99 [vI i1] h Q :=
 tri_of_dn mixed Tryz.func99 rfl (by kernel_rfl) low99 (rs := [.tmp 2]) (by kernel_rfl) rfl (Eq.mpr (by kernel_rfl : dnF Tryz.prog Tryz.f99.ntmps d99 [.tmp 2] [vI i1] h Q = R99 i1 h Q) hR)
noncomputable def d100 : DCode := up ⟨[], [], []⟩ (low Tryz.prog (fun _ => false) (Tryz.f100.body.getD .skip))
theorem low100 : low Tryz.prog (fun _ => false) (Tryz.f100.body.getD .skip) = some (eC d100) := by kernel_rfl
def R100 (i1 : Int) (h : PHeap) (Q : Value → PHeap → Prop) : Prop :=
 br (i1 != 0)
 (Q (vB (i1 != 6)) h)
 (Q (vB false) h)
theorem T100 {i1 : Int} {h : PHeap} {Q : Value → PHeap → Prop} (hR : R100 i1 h Q) : Tri Tryz.prog 100 [vI i1] h Q :=
 tri_of_dn mixed Tryz.func100 rfl (by kernel_rfl) low100 (rs := [.tmp 2]) (by kernel_rfl) rfl (Eq.mpr (by kernel_rfl : dnF Tryz.prog Tryz.f100.ntmps d100 [.tmp 2] [vI i1] h Q = R100 i1 h Q) hR)
noncomputable def d101 : DCode := up ⟨[], [], []⟩ (low Tryz.prog (fun _ => false) (Tryz.f101.body.getD .skip))
theorem low101 : low Tryz.prog (fun _ => false) (Tryz.f101.body.getD .skip) = some (eC d101) := by kernel_rfl
def R101 (i1 : Int) (h : PHeap) (Q : Value → PHeap → Prop) : Prop :=
 br (i1 == 2)
 (Q (vB true) h)
 (br (i1 == 3)
 (Q (vB true) h)
 (Q (vB (i1 == 5)) h))
theorem T101 {i1 : Int} {h : PHeap} {Q : Value → PHeap → Prop} (hR : R101 i1 h Q) : Tri Tryz.prog 101 [vI i1] h Q :=
 tri_of_dn mixed Tryz.func101 rfl (by kernel_rfl) low101 (rs := [.tmp 2]) (by kernel_rfl) rfl (Eq.mpr (by kernel_rfl : dnF Tryz.prog Tryz.f101.ntmps d101 [.tmp 2] [vI i1] h Q = R101 i1 h Q) hR)
noncomputable def d102 : DCode := up ⟨[], [], []⟩ (low Tryz.prog (fun _ => false) (Tryz.f102.body.getD .skip))
theorem low102 : low Tryz.prog (fun _ => false) (Tryz.f102.body.getD .skip) = some (eC d102) := by kernel_rfl
def R102 (i1 : Int) (h : PHeap) (Q : Value → PHeap → Prop) : Prop :=
 br (decide (i1 ≥ 0))
 (Q (vB (decide (i1 < 8))) h)
 (Q (vB false) h)
theorem T102 {i1 : Int} {h : PHeap} {Q : Value → PHeap → Prop} (hR : R102 i1 h Q) : Tri Tryz.prog 102 [vI i1] h Q :=
 tri_of_dn mixed Tryz.func102 rfl (by kernel_rfl) low102 (rs := [.tmp 2]) (by kernel_rfl) rfl (Eq.mpr (by kernel_rfl : dnF Tryz.prog Tryz.f102.ntmps d102 [.tmp 2] [vI i1] h Q = R102 i1 h Q) hR)
noncomputable def d25 : DCode := up ⟨[(4, .l [.slice])], [], []⟩ (low Tryz.prog (fun _ => false) (Tryz.f25.body.getD .skip))
theorem low25 : low Tryz.prog (fun _ => false) (Tryz.f25.body.getD .skip) = some (eC d25) := by kernel_rfl
def R25 (a1 : OA) (n1 : Nat) (eek1 : Nat) (l1 : Bs) (i1 : Int) (i2 : Int) (a2 : OA) (n2 : Nat) (eek2 : Nat) (h : PHeap) (Q : Value → PHeap → Prop) : Prop :=
 Q (vI (IntKind.i64.wrap ((IntKind.i64.wrap (Int.tdiv (IntKind.i64.wrap ((IntKind.i64.wrap ((IntKind.i64.wrap (((n1 : Nat) : Int) * 4)) + 64)) - 1)) 64)) * 64))) h
theorem T25 {a1 : OA} {n1 : Nat} {eek1 : Nat} {l1 : Bs} {i1 : Int} {i2 : Int} {a2 : OA} {n2 : Nat} {eek2 : Nat} {h : PHeap} {Q : Value → PHeap → Prop} (hR : R25 a1 n1 eek1 l1 i1 i2 a2 n2 eek2 h Q) : Tri Tryz.prog 25 [vA [vL a1 n1 eek1, vS l1, vI i1, vI i2, vL a2 n2 eek2]] h Q :=
 tri_of_dn mixed Tryz.func25 rfl (by kernel_rfl) low25 (rs := [.tmp 2]) (by kernel_rfl) rfl (Eq.mpr (by kernel_rfl : dnF Tryz.prog Tryz.f25.ntmps d25 [.tmp 2] [vA [vL a1 n1 eek1, vS l1, vI i1, vI i2, vL a2 n2 eek2]] h Q = R25 a1 n1 eek1 l1 i1 i2 a2 n2 eek2 h Q) hR)
noncomputable def d47 : DCode := up ⟨[], [], []⟩ (low Tryz.prog (fun _ => false) (Tryz.f47.body.getD .skip))
theorem low47 : low Tryz.prog (fun _ => false) (Tryz.f47.body.getD .skip) = some (eC d47) := by kernel_rfl
def R47 (i1 : Int) (i2 : Int) (h : PHeap) (Q : Value → PHeap → Prop) : Prop :=
 br (decide (i1 ≥ 0))
 (br (decide (i1 ≤ i2))
 (Q (vB ((Int.tmod i1 4) == 0)) h)
 (Q (vB false) h))
 (Q (vB false) h)
theorem T47 {i1 : Int} {i2 : Int} {h : PHeap} {Q : Value → PHeap → Prop} (hR : R47 i1 i2 h Q) : Tri Tryz.prog 47 [vI i1, vI i2] h Q :=
 tri_of_dn mixed Tryz.func47 rfl (by kernel_rfl) low47 (rs := [.tmp 4]) (by kernel_rfl) rfl (Eq.mpr (by kernel_rfl : dnF Tryz.prog Tryz.f47.ntmps d47 [.tmp 4] [vI i1, vI i2] h Q = R47 i1 i2 h Q) hR)
noncomputable def d46 : DCode := up ⟨[(6, .l [qi]), (7, .c (.one false [.bool])), (10, .l [qi]), (12, .l eek1), (14, .l [qi]), (18, .l [qi]), (19, .c (.one false [.bool])), (22, .l [qi]), (23, .c (.one false [.bool])), (27, .l [qi]), (32, .l [qi]), (33, .c (.one false [.bool])), (37, .l [qi]), (46, .l [qi]), (51, .l [qi]), (52, .c (.one false [.bool])), (56, .l [qi]), (57, .c (.one false [.bool])), (61, .l [qi]), (65, .l [qi]), (66, .c (.one false [.bool])), (71, .l [qi]), (72, .c (.one false [.bool])), (75, .l [qi]), (77, .l [qi]), (81, .l [qi]), (83, .l [qi])], [], []⟩ (low Tryz.prog (fun _ => false) (Tryz.f46.body.getD .skip))
theorem low46 : low Tryz.prog (fun _ => false) (Tryz.f46.body.getD .skip) = some (eC d46) := by kernel_rfl
def R46 (i1 : Int) (i2 : Int) (i3 : Int) (i4 : Int) (h : PHeap) (Q : Value → PHeap → Prop) : Prop :=
 Tri Tryz.prog 98 [vI i1] h fun v_1 h_1 =>
 ∃ (c1 : Bool), v_1 = vB c1 ∧
 br (!c1)
 (Q (vI 11) h_1)
 ((0 ≤ i1 ∧ i1 < 27) ∧
 ∃ (l1 : Bs) (i5 i6 i7 : Int) (c2 c3 : Bool), h_1.row 0 (0 + (i1).toNat * 6) [vS l1, vI i5, vI i6, vI i7, vB c2, vB c3] ∧
 br (i5 == 3)
 (Tri Tryz.prog 100 [vI i5] h_1 fun v_2 h_2 =>
 ∃ (c4 : Bool), v_2 = vB c4 ∧
 br (!c4)
 (br (i2 != 0)
 (Q (vI 1) h_2)
 (Tri Tryz.prog 101 [vI i5] h_2 fun v_3 h_3 =>
 ∃ (c5 : Bool), v_3 = vB c5 ∧
 br (!c5)
 (br (i3 != 0)
 (Q (vI 1) h_3)
 (Tri Tryz.prog 102 [vI i2] h_3 fun v_4 h_4 =>
 ∃ (c6 : Bool), v_4 = vB c6 ∧
 br (!c6)
 (Q (vI 2) h_4)
 (Tri Tryz.prog 102 [vI i3] h_4 fun v_5 h_5 =>
 ∃ (c7 : Bool), v_5 = vB c7 ∧
 br (!c7)
 (Q (vI 2) h_5)
 (br (i5 == 3)
 (Tri Tryz.prog 102 [vI i4] h_5 fun v_6 h_6 =>
 ∃ (c8 : Bool), v_6 = vB c8 ∧
 br (!c8)
 (Q (vI 2) h_6)
 (Tri Tryz.prog 99 [vI i5] h_6 fun v_7 h_7 =>
 ∃ (c9 : Bool), v_7 = vB c9 ∧
 br c9
 (br (decide (i4 < i6))
 (Q (vI 2) h_7)
 (br (decide (i4 > i7))
 (Q (vI 2) h_7)
 (Q (vI 0) h_7)))
 (Q (vI 0) h_7)))
 (Tri Tryz.prog 99 [vI i5] h_5 fun v_8 h_8 =>
 ∃ (c10 : Bool), v_8 = vB c10 ∧
 br c10
 (br (decide (i4 < i6))
 (Q (vI 2) h_8)
 (br (decide (i4 > i7))
 (Q (vI 2) h_8)
 (Q (vI 0) h_8)))
 (Q (vI 0) h_8))))))
 (Tri Tryz.prog 102 [vI i2] h_3 fun v_9 h_9 =>
 ∃ (c11 : Bool), v_9 = vB c11 ∧
 br (!c11)
 (Q (vI 2) h_9)
 (Tri Tryz.prog 102 [vI i3] h_9 fun v_10 h_10 =>
 ∃ (c12 : Bool), v_10 = vB c12 ∧
 br (!c12)
 (Q (vI 2) h_10)
 (br (i5 == 3)
 (Tri Tryz.prog 102 [vI i4] h_10 fun v_11 h_11 =>
 ∃ (c13 : Bool), v_11 = vB c13 ∧
 br (!c13)
 (Q (vI 2) h_11)
 (Tri Tryz.prog 99 [vI i5] h_11 fun v_12 h_12 =>
 ∃ (c14 : Bool), v_12 = vB c14 ∧
 br c14
 (br (decide (i4 < i6))
 (Q (vI 2) h_12)
 (br (decide (i4 > i7))
 (Q (vI 2) h_12)
 (Q (vI 0) h_12)))
 (Q (vI 0) h_12)))
 (Tri Tryz.prog 99 [vI i5] h_10 fun v_13 h_13 =>
 ∃ (c15 : Bool), v_13 = vB c15 ∧
 br c15
 (br (decide (i4 < i6))
 (Q (vI 2) h_13)
 (br (decide (i4 > i7))
 (Q (vI 2) h_13)
 (Q (vI 0) h_13)))
 (Q (vI 0) h_13)))))))
 (Tri Tryz.prog 101 [vI i5] h_2 fun v_14 h_14 =>
 ∃ (c16 : Bool), v_14 = vB c16 ∧
 br (!c16)
 (br (i3 != 0)
 (Q (vI 1) h_14)
 (Tri Tryz.prog 102 [vI i2] h_14 fun v_15 h_15 =>
 ∃ (c17 : Bool), v_15 = vB c17 ∧
 br (!c17)
 (Q (vI 2) h_15)
 (Tri Tryz.prog 102 [vI i3] h_15 fun v_16 h_16 =>
 ∃ (c18 : Bool), v_16 = vB c18 ∧
 br (!c18)
 (Q (vI 2) h_16)
 (br (i5 == 3)
 (Tri Tryz.prog 102 [vI i4] h_16 fun v_17 h_17 =>
 ∃ (c19 : Bool), v_17 = vB c19 ∧
 br (!c19)
 (Q (vI 2) h_17)
 (Tri Tryz.prog 99 [vI i5] h_17 fun v_18 h_18 =>
 ∃ (c20 : Bool), v_18 = vB c20 ∧
 br c20
 (br (decide (i4 < i6))
 (Q (vI 2) h_18)
 (br (decide (i4 > i7))
 (Q (vI 2) h_18)
 (Q (vI 0) h_18)))
 (Q (vI 0) h_18)))
 (Tri Tryz.prog 99 [vI i5] h_16 fun v_19 h_19 =>
 ∃ (c21 : Bool), v_19 = vB c21 ∧
 br c21
 (br (decide (i4 < i6))
 (Q (vI 2) h_19)
 (br (decide (i4 > i7))
 (Q (vI 2) h_19)
 (Q (vI 0) h_19)))
 (Q (vI 0) h_19))))))
 (Tri Tryz.prog 102 [vI i2] h_14 fun v_20 h_20 =>
 ∃ (c22 : Bool), v_20 = vB c22 ∧
 br (!c22)
 (Q (vI 2) h_20)
 (Tri Tryz.prog 102 [vI i3] h_20 fun v_21 h_21 =>
 ∃ (c23 : Bool), v_21 = vB c23 ∧
 br (!c23)
 (Q (vI 2) h_21)
 (br (i5 == 3)
 (Tri Tryz.prog 102 [vI i4] h_21 fun v_22 h_22 =>
 ∃ (c24 : Bool), v_22 = vB c24 ∧
 br (!c24)
 (Q (vI 2) h_22)
 (Tri Tryz.prog 99 [vI i5] h_22 fun v_23 h_23 =>
 ∃ (c25 : Bool), v_23 = vB c25 ∧
 br c25
 (br (decide (i4 < i6))
 (Q (vI 2) h_23)
 (br (decide (i4 > i7))
 (Q (vI 2) h_23)
 (Q (vI 0) h_23)))
 (Q (vI 0) h_23)))
 (Tri Tryz.prog 99 [vI i5] h_21 fun v_24 h_24 =>
 ∃ (c26 : Bool), v_24 = vB c26 ∧
 br c26
 (br (decide (i4 < i6))
 (Q (vI 2) h_24)
 (br (decide (i4 > i7))
 (Q (vI 2) h_24)
 (Q (vI 0) h_24)))
 (Q (vI 0) h_24)))))))
 (Tri Tryz.prog 99 [vI i5] h_1 fun v_25 h_25 =>
 ∃ (c27 : Bool), v_25 = vB c27 ∧
 Tri Tryz.prog 100 [vI i5] h_25 fun v_26 h_26 =>
 ∃ (c28 : Bool), v_26 = vB c28 ∧
 br (!c28)
 (br (i2 != 0)
 (Q (vI 1) h_26)
 (Tri Tryz.prog 101 [vI i5] h_26 fun v_27 h_27 =>
 ∃ (c29 : Bool), v_27 = vB c29 ∧
 br (!c29)
 (br (i3 != 0)
 (Q (vI 1) h_27)
 (br (!c27)
 (br (i4 != 0)
 (Q (vI 1) h_27)
 (Tri Tryz.prog 102 [vI i2] h_27 fun v_28 h_28 =>
 ∃ (c30 : Bool), v_28 = vB c30 ∧
 br (!c30)
 (Q (vI 2) h_28)
 (Tri Tryz.prog 102 [vI i3] h_28 fun v_29 h_29 =>
 ∃ (c31 : Bool), v_29 = vB c31 ∧
 br (!c31)
 (Q (vI 2) h_29)
 (br (i5 == 3)
 (Tri Tryz.prog 102 [vI i4] h_29 fun v_30 h_30 =>
 ∃ (c32 : Bool), v_30 = vB c32 ∧
 br (!c32)
 (Q (vI 2) h_30)
 (Tri Tryz.prog 99 [vI i5] h_30 fun v_31 h_31 =>
 ∃ (c33 : Bool), v_31 = vB c33 ∧
 br c33
 (br (decide (i4 < i6))
 (Q (vI 2) h_31)
 (br (decide (i4 > i7))
 (Q (vI 2) h_31)
 (Q (vI 0) h_31)))
 (Q (vI 0) h_31)))
 (Tri Tryz.prog 99 [vI i5] h_29 fun v_32 h_32 =>
 ∃ (c34 : Bool), v_32 = vB c34 ∧
 br c34
 (br (decide (i4 < i6))
 (Q (vI 2) h_32)
 (br (decide (i4 > i7))
 (Q (vI 2) h_32)
 (Q (vI 0) h_32)))
 (Q (vI 0) h_32))))))
 (Tri Tryz.prog 102 [vI i2] h_27 fun v_33 h_33 =>
 ∃ (c35 : Bool), v_33 = vB c35 ∧
 br (!c35)
 (Q (vI 2) h_33)
 (Tri Tryz.prog 102 [vI i3] h_33 fun v_34 h_34 =>
 ∃ (c36 : Bool), v_34 = vB c36 ∧
 br (!c36)
 (Q (vI 2) h_34)
 (br (i5 == 3)
 (Tri Tryz.prog 102 [vI i4] h_34 fun v_35 h_35 =>
 ∃ (c37 : Bool), v_35 = vB c37 ∧
 br (!c37)
 (Q (vI 2) h_35)
 (Tri Tryz.prog 99 [vI i5] h_35 fun v_36 h_36 =>
 ∃ (c38 : Bool), v_36 = vB c38 ∧
 br c38
 (br (decide (i4 < i6))
 (Q (vI 2) h_36)
 (br (decide (i4 > i7))
 (Q (vI 2) h_36)
 (Q (vI 0) h_36)))
 (Q (vI 0) h_36)))
 (Tri Tryz.prog 99 [vI i5] h_34 fun v_37 h_37 =>
 ∃ (c39 : Bool), v_37 = vB c39 ∧
 br c39
 (br (decide (i4 < i6))
 (Q (vI 2) h_37)
 (br (decide (i4 > i7))
 (Q (vI 2) h_37)
 (Q (vI 0) h_37)))
 (Q (vI 0) h_37)))))))
 (br (!c27)
 (br (i4 != 0)
 (Q (vI 1) h_27)
 (Tri Tryz.prog 102 [vI i2] h_27 fun v_38 h_38 =>
 ∃ (c40 : Bool), v_38 = vB c40 ∧
 br (!c40)
 (Q (vI 2) h_38)
 (Tri Tryz.prog 102 [vI i3] h_38 fun v_39 h_39 =>
 ∃ (c41 : Bool), v_39 = vB c41 ∧
 br (!c41)
 (Q (vI 2) h_39)
 (br (i5 == 3)
 (Tri Tryz.prog 102 [vI i4] h_39 fun v_40 h_40 =>
 ∃ (c42 : Bool), v_40 = vB c42 ∧
 br (!c42)
 (Q (vI 2) h_40)
 (Tri Tryz.prog 99 [vI i5] h_40 fun v_41 h_41 =>
 ∃ (c43 : Bool), v_41 = vB c43 ∧
 br c43
 (br (decide (i4 < i6))
 (Q (vI 2) h_41)
 (br (decide (i4 > i7))
 (Q (vI 2) h_41)
 (Q (vI 0) h_41)))
 (Q (vI 0) h_41)))
 (Tri Tryz.prog 99 [vI i5] h_39 fun v_42 h_42 =>
 ∃ (c44 : Bool), v_42 = vB c44 ∧
 br c44
 (br (decide (i4 < i6))
 (Q (vI 2) h_42)
 (br (decide (i4 > i7))
 (Q (vI 2) h_42)
 (Q (vI 0) h_42)))
 (Q (vI 0) h_42))))))
 (Tri Tryz.prog 102 [vI i2] h_27 fun v_43 h_43 =>
 ∃ (c45 : Bool), v_43 = vB c45 ∧
 br (!c45)
 (Q (vI 2) h_43)
 (Tri Tryz.prog 102 [vI i3] h_43 fun v_44 h_44 =>
 ∃ (c46 : Bool), v_44 = vB c46 ∧
 br (!c46)
 (Q (vI 2) h_44)
 (br (i5 == 3)
 (Tri Tryz.prog 102 [vI i4] h_44 fun v_45 h_45 =>
 ∃ (c47 : Bool), v_45 = vB c47 ∧
 br (!c47)
 (Q (vI 2) h_45)
 (Tri Tryz.prog 99 [vI i5] h_45 fun v_46 h_46 =>
 ∃ (c48 : Bool), v_46 = vB c48 ∧
 br c48
 (br (decide (i4 < i6))
 (Q (vI 2) h_46)
 (br (decide (i4 > i7))
 (Q (vI 2) h_46)
 (Q (vI 0) h_46)))
 (Q (vI 0) h_46)))
 (Tri Tryz.prog 99 [vI i5] h_44 fun v_47 h_47 =>
 ∃ (c49 : Bool), v_47 = vB c49 ∧
 br c49
 (br (decide (i4 < i6))
 (Q (vI 2) h_47)
 (br (decide (i4 > i7))
 (Q (vI 2) h_47)
 (Q (vI 0) h_47)))
 (Q (vI 0) h_47))))))))
 (Tri Tryz.prog 101 [vI i5] h_26 fun v_48 h_48 =>
 ∃ (c50 : Bool), v_48 = vB c50 ∧
 br (!c50)
 (br (i3 != 0)
 (Q (vI 1) h_48)
 (br (!c27)
 (br (i4 != 0)
 (Q (vI 1) h_48)
 (Tri Tryz.prog 102 [vI i2] h_48 fun v_49 h_49 =>
 ∃ (c51 : Bool), v_49 = vB c51 ∧
 br (!c51)
 (Q (vI 2) h_49)
 (Tri Tryz.prog 102 [vI i3] h_49 fun v_50 h_50 =>
 ∃ (c52 : Bool), v_50 = vB c52 ∧
 br (!c52)
 (Q (vI 2) h_50)
 (br (i5 == 3)
 (Tri Tryz.prog 102 [vI i4] h_50 fun v_51 h_51 =>
 ∃ (c53 : Bool), v_51 = vB c53 ∧
 br (!c53)
 (Q (vI 2) h_51)
 (Tri Tryz.prog 99 [vI i5] h_51 fun v_52 h_52 =>
 ∃ (c54 : Bool), v_52 = vB c54 ∧
 br c54
 (br (decide (i4 < i6))
 (Q (vI 2) h_52)
 (br (decide (i4 > i7))
 (Q (vI 2) h_52)
 (Q (vI 0) h_52)))
 (Q (vI 0) h_52)))
 (Tri Tryz.prog 99 [vI i5] h_50 fun v_53 h_53 =>
 ∃ (c55 : Bool), v_53 = vB c55 ∧
 br c55
 (br (decide (i4 < i6))
 (Q (vI 2) h_53)
 (br (decide (i4 > i7))
 (Q (vI 2) h_53)
 (Q (vI 0) h_53)))
 (Q (vI 0) h_53))))))
 (Tri Tryz.prog 102 [vI i2] h_48 fun v_54 h_54 =>
 ∃ (c56 : Bool), v_54 = vB c56 ∧
 br (!c56)
 (Q (vI 2) h_54)
 (Tri Tryz.prog 102 [vI i3] h_54 fun v_55 h_55 =>
 ∃ (c57 : Bool), v_55 = vB c57 ∧
 br (!c57)
 (Q (vI 2) h_55)
 (br (i5 == 3)
 (Tri Tryz.prog 102 [vI i4] h_55 fun v_56 h_56 =>
 ∃ (c58 : Bool), v_56 = vB c58 ∧
 br (!c58)
 (Q (vI 2) h_56)
 (Tri Tryz.prog 99 [vI i5] h_56 fun v_57 h_57 =>
 ∃ (c59 : Bool), v_57 = vB c59 ∧
 br c59
 (br (decide (i4 < i6))
 (Q (vI 2) h_57)
 (br (decide (i4 > i7))
 (Q (vI 2) h_57)
 (Q (vI 0) h_57)))
 (Q (vI 0) h_57)))
 (Tri Tryz.prog 99 [vI i5] h_55 fun v_58 h_58 =>
 ∃ (c60 : Bool), v_58 = vB c60 ∧
 br c60
 (br (decide (i4 < i6))
 (Q (vI 2) h_58)
 (br (decide (i4 > i7))
 (Q (vI 2) h_58)
 (Q (vI 0) h_58)))
 (Q (vI 0) h_58)))))))
 (br (!c27)
 (br (i4 != 0)
 (Q (vI 1) h_48)
 (Tri Tryz.prog 102 [vI i2] h_48 fun v_59 h_59 =>
 ∃ (c61 : Bool), v_59 = vB c61 ∧
 br (!c61)
 (Q (vI 2) h_59)
 (Tri Tryz.prog 102 [vI i3] h_59 fun v_60 h_60 =>
 ∃ (c62 : Bool), v_60 = vB c62 ∧
 br (!c62)
 (Q (vI 2) h_60)
 (br (i5 == 3)
 (Tri Tryz.prog 102 [vI i4] h_60 fun v_61 h_61 =>
 ∃ (c63 : Bool), v_61 = vB c63 ∧
 br (!c63)
 (Q (vI 2) h_61)
 (Tri Tryz.prog 99 [vI i5] h_61 fun v_62 h_62 =>
 ∃ (c64 : Bool), v_62 = vB c64 ∧
 br c64
 (br (decide (i4 < i6))
 (Q (vI 2) h_62)
 (br (decide (i4 > i7))
 (Q (vI 2) h_62)
 (Q (vI 0) h_62)))
 (Q (vI 0) h_62)))
 (Tri Tryz.prog 99 [vI i5] h_60 fun v_63 h_63 =>
 ∃ (c65 : Bool), v_63 = vB c65 ∧
 br c65
 (br (decide (i4 < i6))
 (Q (vI 2) h_63)
 (br (decide (i4 > i7))
 (Q (vI 2) h_63)
 (Q (vI 0) h_63)))
 (Q (vI 0) h_63))))))
 (Tri Tryz.prog 102 [vI i2] h_48 fun v_64 h_64 =>
 ∃ (c66 : Bool), v_64 = vB c66 ∧
 br (!c66)
 (Q (vI 2) h_64)
 (Tri Tryz.prog 102 [vI i3] h_64 fun v_65 h_65 =>
 ∃ (c67 : Bool), v_65 = vB c67 ∧
 br (!c67)
 (Q (vI 2) h_65)
 (br (i5 == 3)
 (Tri Tryz.prog 102 [vI i4] h_65 fun v_66 h_66 =>
 ∃ (c68 : Bool), v_66 = vB c68 ∧
 br (!c68)
 (Q (vI 2) h_66)
 (Tri Tryz.prog 99 [vI i5] h_66 fun v_67 h_67 =>
 ∃ (c69 : Bool), v_67 = vB c69 ∧
 br c69
 (br (decide (i4 < i6))
 (Q (vI 2) h_67)
 (br (decide (i4 > i7))
 (Q (vI 2) h_67)
 (Q (vI 0) h_67)))
 (Q (vI 0) h_67)))
 (Tri Tryz.prog 99 [vI i5] h_65 fun v_68 h_68 =>
 ∃ (c70 : Bool), v_68 = vB c70 ∧
 br c70
 (br (decide (i4 < i6))
 (Q (vI 2) h_68)
 (br (decide (i4 > i7))
 (Q (vI 2) h_68)
 (Q (vI 0) h_68)))
 (Q (vI 0) h_68)))))))))
theorem T46 {i1 : Int} {i2 : Int} {i3 : Int} {i4 : Int} {h : PHeap} {Q : Value → PHeap → Prop} (hR : R46 i1 i2 i3 i4 h Q) : Tri Tryz.prog 46 [vA [vI i1, vI i2, vI i3, vI i4]] h Q :=
 tri_of_dn mixed Tryz.func46 rfl (by kernel_rfl) low46 (rs := [.tmp 2]) (by kernel_rfl) rfl (Eq.mpr (by kernel_rfl : dnF Tryz.prog Tryz.f46.ntmps d46 [.tmp 2] [vA [vI i1, vI i2, vI i3, vI i4]] h Q = R46 i1 i2 i3 i4 h Q) hR)
noncomputable def d44 : DCode := up ⟨[(6, .l [.bool]), (7, .l eek2), (8, .c (.one false [qi])), (10, .l [qi]), (13, .l [qi])], [], []⟩ (low Tryz.prog (fun _ => false) (Tryz.f44.body.getD .skip))
theorem low44 : low Tryz.prog (fun _ => false) (Tryz.f44.body.getD .skip) = some (eC d44) := by kernel_rfl
def R44 (a1 : OA) (n1 : Nat) (eek1 : Nat) (l1 : Bs) (i1 : Int) (i2 : Int) (a2 : OA) (n2 : Nat) (eek2 : Nat) (l2 : Bs) (c1 : Bool) (i3 : Int) (h : PHeap) (Q : Value → PHeap → Prop) : Prop :=
 br c1
 (Tri Tryz.prog 25 [vA [vL a1 n1 eek1, vS l1, vI i1, vI i2, vL a2 n2 eek2]] h fun v_1 h_1 =>
 ∃ (i4 : Int), v_1 = vI i4 ∧
 (tv [vI i3]) ∧
 Q (vI (IntKind.i64.wrap (i4 + i3))) h_1)
 (Q (vI i3) h)
theorem T44 {a1 : OA} {n1 : Nat} {eek1 : Nat} {l1 : Bs} {i1 : Int} {i2 : Int} {a2 : OA} {n2 : Nat} {eek2 : Nat} {l2 : Bs} {c1 : Bool} {i3 : Int} {h : PHeap} {Q : Value → PHeap → Prop} (hR : R44 a1 n1 eek1 l1 i1 i2 a2 n2 eek2 l2 c1 i3 h Q) : Tri Tryz.prog 44 [vA [vL a1 n1 eek1, vS l1, vI i1, vI i2, vL a2 n2 eek2], vA [vS l2, vB c1, vI i3]] h Q :=
 tri_of_dn mixed Tryz.func44 rfl (by kernel_rfl) low44 (rs := [.tmp 4]) (by kernel_rfl) rfl (Eq.mpr (by kernel_rfl : dnF Tryz.prog Tryz.f44.ntmps d44 [.tmp 4] [vA [vL a1 n1 eek1, vS l1, vI i1, vI i2, vL a2 n2 eek2], vA [vS l2, vB c1, vI i3]] h Q = R44 a1 n1 eek1 l1 i1 i2 a2 n2 eek2 l2 c1 i3 h Q) hR)
end Go.Proofs.D
namespace Go.Proofs.D
open Go Go.Den
set_option maxRecDepth 100000
set_option maxHeartbeats 4000000
noncomputable def d49 : DCode := up ⟨[], [], []⟩ (low Tryz.prog (fun _ => false) (Tryz.f49.body.getD .skip))
theorem low49 : low Tryz.prog (fun _ => false) (Tryz.f49.body.getD .skip) = some (eC d49) := by kernel_rfl
def R49 (i1 : Int) (h : PHeap) (Q : Value → PHeap → Prop) : Prop :=
 br (decide (i1 ≥ 97))
 (br (decide (i1 ≤ 122))
 (Q (vB true) h)
 (br (decide (i1 ≥ 65))
 (Q (vB (decide (i1 ≤ 90))) h)
 (Q (vB false) h)))
 (br (decide (i1 ≥ 65))
 (Q (vB (decide (i1 ≤ 90))) h)
 (Q (vB false) h))
theorem T49 {i1 : Int} {h : PHeap} {Q : Value → PHeap → Prop} (hR : R49 i1 h Q) : Tri Tryz.prog 49 [vU i1] h Q :=
 tri_of_dn mixed Tryz.func49 rfl (by kernel_rfl) low49 (rs := [.tmp 2]) (by kernel_rfl) rfl (Eq.mpr (by kernel_rfl : dnF Tryz.prog Tryz.f49.ntmps d49 [.tmp 2] [vU i1] h Q = R49 i1 h Q) hR)
noncomputable def d53 : DCode := up ⟨[], [], []⟩ (low Tryz.prog (fun _ => false) (Tryz.f53.body.getD .skip))
theorem low53 : low Tryz.prog (fun _ => false) (Tryz.f53.body.getD .skip) = some (eC d53) := by kernel_rfl
def R53 (i1 : Int) (h : PHeap) (Q : Value → PHeap → Prop) : Prop :=
 br (decide (i1 ≥ 48))
 (Q (vB (decide (i1 ≤ 57))) h)
 (Q (vB false) h)
theorem T53 {i1 : Int} {h : PHeap} {Q : Value → PHeap → Prop} (hR : R53 i1 h Q) : Tri Tryz.prog 53 [vU i1] h Q :=
 tri_of_dn mixed Tryz.func53 rfl (by kernel_rfl) low53 (rs := [.tmp 2]) (by kernel_rfl) rfl (Eq.mpr (by kernel_rfl : dnF Tryz.prog Tryz.f53.ntmps d53 [.tmp 2] [vU i1] h Q = R53 i1 h Q) hR)
noncomputable def d163 : DCode := up ⟨[(4, .c (.one false [.bool]))], [], []⟩ (low Tryz.prog (fun _ => false) (Tryz.f163.body.getD .skip))
theorem low163 : low Tryz.prog (fun _ => false) (Tryz.f163.body.getD .skip) = some (eC d163) := by kernel_rfl
def R163 (i1 : Int) (h : PHeap) (Q : Value → PHeap → Prop) : Prop :=
 Tri Tryz.prog 53 [vU i1] h fun v_1 h_1 =>
 ∃ (c1 : Bool), v_1 = vB c1 ∧
 br c1
 (Q (vB true) h_1)
 (br (decide (i1 ≥ 97))
 (Q (vB (decide (i1 ≤ 102))) h_1)
 (Q (vB false) h_1))
theorem T163 {i1 : Int} {h : PHeap} {Q : Value → PHeap → Prop} (hR : R163 i1 h Q) : Tri Tryz.prog 163 [vU i1] h Q :=
 tri_of_dn mixed Tryz.func163 rfl (by kernel_rfl) low163 (rs := [.tmp 2]) (by kernel_rfl) rfl (Eq.mpr (by kernel_rfl : dnF Tryz.prog Tryz.f163.ntmps d163 [.tmp 2] [vU i1] h Q = R163 i1 h Q) hR)
noncomputable def d120 : DCode := up ⟨[(4, .c (.one false [.bool])), (7, .c (.one false [.bool]))], [], []⟩ (low Tryz.prog (fun _ => false) (Tryz.f120.body.getD .skip))
theorem low120 : low Tryz.prog (fun _ => false) (Tryz.f120.body.getD .skip) = some (eC d120) := by kernel_rfl
def R120 (i1 : Int) (h : PHeap) (Q : Value → PHeap → Prop) : Prop :=
 Tri Tryz.prog 49 [vU i1] h fun v_1 h_1 =>
 ∃ (c1 : Bool), v_1 = vB c1 ∧
 br c1
 (Q (vB true) h_1)
 (Tri Tryz.prog 53 [vU i1] h_1 fun v_2 h_2 =>
 ∃ (c2 : Bool), v_2 = vB c2 ∧
 br c2
 (Q (vB true) h_2)
 (br (i1 == 95)
 (Q (vB true) h_2)
 (br (i1 == 46)
 (Q (vB true) h_2)
 (Q (vB (i1 == 45)) h_2))))
theorem T120 {i1 : Int} {h : PHeap} {Q : Value → PHeap → Prop} (hR : R120 i1 h Q) : Tri Tryz.prog 120 [vU i1] h Q :=
 tri_of_dn mixed Tryz.func120 rfl (by kernel_rfl) low120 (rs := [.tmp 2]) (by kernel_rfl) rfl (Eq.mpr (by kernel_rfl : dnF Tryz.prog Tryz.f120.ntmps d120 [.tmp 2] [vU i1] h Q = R120 i1 h Q) hR)
noncomputable def d52 : DCode := up ⟨[(4, .c (.one false [.bool])), (7, .c (.one false [.bool]))], [], []⟩ (low Tryz.prog (fun _ => false) (Tryz.f52.body.getD .skip))
theorem low52 : low Tryz.prog (fun _ => false) (Tryz.f52.body.getD .skip) = some (eC d52) := by kernel_rfl
def R52 (i1 : Int) (h : PHeap) (Q : Value → PHeap → Prop) : Prop :=
 Tri Tryz.prog 49 [vU i1] h fun v_1 h_1 =>
 ∃ (c1 : Bool), v_1 = vB c1 ∧
 br c1
 (Q (vB true) h_1)
 (Tri Tryz.prog 53 [vU i1] h_1 fun v_2 h_2 =>
 ∃ (c2 : Bool), v_2 = vB c2 ∧
 br c2
 (Q (vB true) h_2)
 (br (i1 == 95)
 (Q (vB true) h_2)
 (Q (vB (i1 == 46)) h_2)))
theorem T52 {i1 : Int} {h : PHeap} {Q : Value → PHeap → Prop} (hR : R52 i1 h Q) : Tri Tryz.prog 52 [vU i1] h Q :=
 tri_of_dn mixed Tryz.func52 rfl (by kernel_rfl) low52 (rs := [.tmp 2]) (by kernel_rfl) rfl (Eq.mpr (by kernel_rfl : dnF Tryz.prog Tryz.f52.ntmps d52 [.tmp 2] [vU i1] h Q = R52 i1 h Q) hR)
noncomputable def d50 : DCode := up ⟨[], [], []⟩ (low Tryz.prog (fun _ => false) (Tryz.f50.body.getD .skip))
theorem low50 : low Tryz.prog (fun _ => false) (Tryz.f50.body.getD .skip) = some (eC d50) := by kernel_rfl
def R50 (l1 : Bs) (h : PHeap) (Q : Value → PHeap → Prop) : Prop :=
 br ((l1.length : Int) != 2)
 (Q (vT [vI 0, vB false]) h)
 (0 ≤ (0 : Int) ∧ ∃ (c1 : UInt8), (l1)[0]? = some c1 ∧
 br ((c1.toNat : Int) != 114)
 (Q (vT [vI 0, vB false]) h)
 (0 ≤ (1 : Int) ∧ ∃ (c2 : UInt8), (l1)[1]? = some c2 ∧
 br (decide ((c2.toNat : Int) < 48))
 (Q (vT [vI 0, vB false]) h)
 (0 ≤ (1 : Int) ∧ ∃ (c3 : UInt8), (l1)[1]? = some c3 ∧
 br (decide ((c3.toNat : Int) ≥ 56))
 (Q (vT [vI 0, vB false]) h)
 (0 ≤ (1 : Int) ∧ ∃ (c4 : UInt8), (l1)[1]? = some c4 ∧
 Q (vT [vI (IntKind.i64.wrap ((IntKind.u8.wrap ((c4.toNat : Int) - 48)))), vB true]) h))))
theorem T50 {l1 : Bs} {h : PHeap} {Q : Value → PHeap → Prop} (hR : R50 l1 h Q) : Tri Tryz.prog 50 [vS l1] h Q :=
 tri_of_dn mixed Tryz.func50 rfl (by kernel_rfl) low50 (rs := [.tmp 2, .tmp 3]) (by kernel_rfl) rfl (Eq.mpr (by kernel_rfl : dnF Tryz.prog Tryz.f50.ntmps d50 [.tmp 2, .tmp 3] [vS l1] h Q = R50 l1 h Q) hR)
noncomputable def d51 : DCode := up ⟨[(15, .c (.one false [.bool]))], [], [(9, 12, [(8, qi)], [])]⟩ (low Tryz.prog (fun _ => false) (Tryz.f51.body.getD .skip))
theorem low51 : low Tryz.prog (fun _ => false) (Tryz.f51.body.getD .skip) = some (eC d51) := by kernel_rfl
def R51 (l1 : Bs) (f1 : Nat) (x1 : List Value) (y1 : List Value) (h : PHeap) (Q : Value → PHeap → Prop) : Prop :=
 ∃ (I_1 : Nat → Int → PHeap → Prop), (∃ (m2 : Nat), I_1 m2 (0 : Int) h) ∧
 ∀ (m1 : Nat) (i1 : Int) (h_1 : PHeap), I_1 m1 i1 h_1 →
 br (decide (i1 < (l1.length : Int)))
 (0 ≤ i1 ∧ ∃ (c1 : UInt8), (l1)[(i1).toNat]? = some c1 ∧
 Tri Tryz.prog f1 (x1 ++ [vU (c1.toNat : Int)] ++ y1) h_1 fun v_1 h_2 =>
 ∃ (c2 : Bool), v_1 = vB c2 ∧
 br (!c2)
 (Q (vB false) h_2)
 (∃ (m3 : Nat), m3 < m1 ∧ I_1 m3 (IntKind.i64.wrap (i1 + 1)) h_2 ∧
 True))
 (Q (vB true) h_1)
theorem T51 {l1 : Bs} {f1 : Nat} {x1 : List Value} {y1 : List Value} {h : PHeap} {Q : Value → PHeap → Prop} (hR : R51 l1 f1 x1 y1 h Q) : Tri Tryz.prog 51 [vS l1, vF f1 x1 y1] h Q :=
 tri_of_dn mixed Tryz.func51 rfl (by kernel_rfl) low51 (rs := [.tmp 4]) (by kernel_rfl) rfl (Eq.mpr (by kernel_rfl : dnF Tryz.prog Tryz.f51.ntmps d51 [.tmp 4] [vS l1, vF f1 x1 y1] h Q = R51 l1 f1 x1 y1 h Q) hR)
noncomputable def d27 : DCode := up ⟨[(16, .c (.one false [.bool])), (26, .c (.tup [(false, [qi]), (false, [.bool])])), (31, .c (.one false [.bool]))], [], []⟩ (low Tryz.prog (fun _ => false) (Tryz.f27.body.getD .skip))
theorem low27 : low Tryz.prog (fun _ => false) (Tryz.f27.body.getD .skip) = some (eC d27) := by kernel_rfl
def R27 (l1 : Bs) (h : PHeap) (Q : Value → PHeap → Prop) : Prop :=
 br ((l1.length : Int) == 0)
 (Q (vB false) h)
 (br (decide ((l1.length : Int) > 32))
 (Q (vB false) h)
 (0 ≤ (0 : Int) ∧ ∃ (c1 : UInt8), (l1)[0]? = some c1 ∧
 Tri Tryz.prog 49 [vU (c1.toNat : Int)] h fun v_1 h_1 =>
 ∃ (c2 : Bool), v_1 = vB c2 ∧
 br (!c2)
 (0 ≤ (0 : Int) ∧ ∃ (c3 : UInt8), (l1)[0]? = some c3 ∧
 br ((c3.toNat : Int) != 95)
 (Q (vB false) h_1)
 (Tri Tryz.prog 50 [vS l1] h_1 fun v_2 h_2 =>
 ∃ (i1 : Int) (c4 : Bool), v_2 = vT [vI i1, vB c4] ∧
 br c4
 (Q (vB false) h_2)
 (Tri Tryz.prog 51 [vS l1, vF 52 [] []] h_2 fun v_3 h_3 =>
 ∃ (c5 : Bool), v_3 = vB c5 ∧
 Q (vB c5) h_3)))
 (Tri Tryz.prog 50 [vS l1] h_1 fun v_4 h_4 =>
 ∃ (i2 : Int) (c6 : Bool), v_4 = vT [vI i2, vB c6] ∧
 br c6
 (Q (vB false) h_4)
 (Tri Tryz.prog 51 [vS l1, vF 52 [] []] h_4 fun v_5 h_5 =>
 ∃ (c7 : Bool), v_5 = vB c7 ∧
 Q (vB c7) h_5))))
theorem T27 {l1 : Bs} {h : PHeap} {Q : Value → PHeap → Prop} (hR : R27 l1 h Q) : Tri Tryz.prog 27 [vS l1] h Q :=
 tri_of_dn mixed Tryz.func27 rfl (by kernel_rfl) low27 (rs := [.tmp 2]) (by kernel_rfl) rfl (Eq.mpr (by kernel_rfl : dnF Tryz.prog Tryz.f27.ntmps d27 [.tmp 2] [vS l1] h Q = R27 l1 h Q) hR)
noncomputable def d54 : DCode := up ⟨[], [], []⟩ (low Tryz.prog (fun _ => false) (Tryz.f54.body.getD .skip))
theorem low54 : low Tryz.prog (fun _ => false) (Tryz.f54.body.getD .skip) = some (eC d54) := by kernel_rfl
def R54 (i1 : Int) (h : PHeap) (Q : Value → PHeap → Prop) : Prop :=
 br (decide (i1 ≥ 97))
 (br (decide (i1 ≤ 122))
 (Q (vB true) h)
 (br (decide (i1 ≥ 65))
 (br (decide (i1 ≤ 90))
 (Q (vB true) h)
 (Q (vB (i1 == 95)) h))
 (Q (vB (i1 == 95)) h)))
 (br (decide (i1 ≥ 65))
 (br (decide (i1 ≤ 90))
 (Q (vB true) h)
 (Q (vB (i1 == 95)) h))
 (Q (vB (i1 == 95)) h))
theorem T54 {i1 : Int} {h : PHeap} {Q : Value → PHeap → Prop} (hR : R54 i1 h Q) : Tri Tryz.prog 54 [vU i1] h Q :=
 tri_of_dn mixed Tryz.func54 rfl (by kernel_rfl) low54 (rs := [.tmp 2]) (by kernel_rfl) rfl (Eq.mpr (by kernel_rfl : dnF Tryz.prog Tryz.f54.ntmps d54 [.tmp 2] [vU i1] h Q = R54 i1 h Q) hR)
noncomputable def d56 : DCode := up ⟨[], [], []⟩ (low Tryz.prog (fun _ => false) (Tryz.f56.body.getD .skip))
theorem low56 : low Tryz.prog (fun _ => false) (Tryz.f56.body.getD .skip) = some (eC d56) := by kernel_rfl
def R56 (i1 : Int) (h : PHeap) (Q : Value → PHeap → Prop) : Prop :=
 br (decide (i1 ≥ 48))
 (Q (vB (decide (i1 ≤ 57))) h)
 (Q (vB false) h)
theorem T56 {i1 : Int} {h : PHeap} {Q : Value → PHeap → Prop} (hR : R56 i1 h Q) : Tri Tryz.prog 56 [vU i1] h Q :=
 tri_of_dn mixed Tryz.func56 rfl (by kernel_rfl) low56 (rs := [.tmp 2]) (by kernel_rfl) rfl (Eq.mpr (by kernel_rfl : dnF Tryz.prog Tryz.f56.ntmps d56 [.tmp 2] [vU i1] h Q = R56 i1 h Q) hR)
noncomputable def d55 : DCode := up ⟨[], [], []⟩ (low Tryz.prog (fun _ => false) (Tryz.f55.body.getD .skip))
theorem low55 : low Tryz.prog (fun _ => false) (Tryz.f55.body.getD .skip) = some (eC d55) := by kernel_rfl
def R55 (l1 : Bs) (h : PHeap) (Q : Value → PHeap → Prop) : Prop :=
 br ((l1.length : Int) == 2)
 (0 ≤ (0 : Int) ∧ ∃ (c1 : UInt8), (l1)[0]? = some c1 ∧
 br ((c1.toNat : Int) == 114)
 (0 ≤ (1 : Int) ∧ ∃ (c2 : UInt8), (l1)[1]? = some c2 ∧
 br (decide ((c2.toNat : Int) ≥ 48))
 (0 ≤ (1 : Int) ∧ ∃ (c3 : UInt8), (l1)[1]? = some c3 ∧
 br (decide ((c3.toNat : Int) ≤ 55))
 (0 ≤ (1 : Int) ∧ ∃ (c4 : UInt8), (l1)[1]? = some c4 ∧
 Q (vI (IntKind.i64.wrap ((IntKind.u8.wrap ((c4.toNat : Int) - 48))))) h)
 (Q (vI (-1)) h))
 (Q (vI (-1)) h))
 (Q (vI (-1)) h))
 (Q (vI (-1)) h)
theorem T55 {l1 : Bs} {h : PHeap} {Q : Value → PHeap → Prop} (hR : R55 l1 h Q) : Tri Tryz.prog 55 [vS l1] h Q :=
 tri_of_dn mixed Tryz.func55 rfl (by kernel_rfl) low55 (rs := [.tmp 2]) (by kernel_rfl) rfl (Eq.mpr (by kernel_rfl : dnF Tryz.prog Tryz.f55.ntmps d55 [.tmp 2] [vS l1] h Q = R55 l1 h Q) hR)
noncomputable def d28 : DCode := up ⟨[(14, .c (.one false [.bool])), (19, .c (.one false [qi])), (31, .c (.one false [.bool])), (37, .c (.one false [.bool]))], [], [(22, 26, [(3, qi)], [])]⟩ (low Tryz.prog (fun _ => false) (Tryz.f28.body.getD .skip))
theorem low28 : low Tryz.prog (fun _ => false) (Tryz.f28.body.getD .skip) = some (eC d28) := by kernel_rfl
def R28 (l1 : Bs) (h : PHeap) (Q : Value → PHeap → Prop) : Prop :=
 br (l1 == [])
 (Q (vB false) h)
 (br (decide ((l1.length : Int) > 32))
 (Q (vB false) h)
 (0 ≤ (0 : Int) ∧ ∃ (c1 : UInt8), (l1)[0]? = some c1 ∧
 Tri Tryz.prog 54 [vU (c1.toNat : Int)] h fun v_1 h_1 =>
 ∃ (c2 : Bool), v_1 = vB c2 ∧
 br (!c2)
 (Q (vB false) h_1)
 (Tri Tryz.prog 55 [vS l1] h_1 fun v_2 h_2 =>
 ∃ (i1 : Int), v_2 = vI i1 ∧
 br (decide (i1 ≥ 0))
 (Q (vB false) h_2)
 (∃ (I_1 : Nat → Int → PHeap → Prop), (∃ (m2 : Nat), I_1 m2 (0 : Int) h_2) ∧
 ∀ (m1 : Nat) (i2 : Int) (h_3 : PHeap), I_1 m1 i2 h_3 →
 br (decide (i2 < (l1.length : Int)))
 (0 ≤ i2 ∧ ∃ (c3 : UInt8), (l1)[(i2).toNat]? = some c3 ∧
 Tri Tryz.prog 54 [vU (c3.toNat : Int)] h_3 fun v_3 h_4 =>
 ∃ (c4 : Bool), v_3 = vB c4 ∧
 br (!c4)
 (0 ≤ i2 ∧ ∃ (c5 : UInt8), (l1)[(i2).toNat]? = some c5 ∧
 Tri Tryz.prog 56 [vU (c5.toNat : Int)] h_4 fun v_4 h_5 =>
 ∃ (c6 : Bool), v_4 = vB c6 ∧
 br (!c6)
 (0 ≤ i2 ∧ ∃ (c7 : UInt8), (l1)[(i2).toNat]? = some c7 ∧
 br ((c7.toNat : Int) != 46)
 (Q (vB false) h_5)
 (∃ (m3 : Nat), m3 < m1 ∧ I_1 m3 (IntKind.i64.wrap (i2 + 1)) h_5 ∧
 True))
 (∃ (m4 : Nat), m4 < m1 ∧ I_1 m4 (IntKind.i64.wrap (i2 + 1)) h_5 ∧
 True))
 (∃ (m5 : Nat), m5 < m1 ∧ I_1 m5 (IntKind.i64.wrap (i2 + 1)) h_4 ∧
 True))
 (Q (vB true) h_3)))))
theorem T28 {l1 : Bs} {h : PHeap} {Q : Value → PHeap → Prop} (hR : R28 l1 h Q) : Tri Tryz.prog 28 [vS l1] h Q :=
 tri_of_dn mixed Tryz.func28 rfl (by kernel_rfl) low28 (rs := [.tmp 2]) (by kernel_rfl) rfl (Eq.mpr (by kernel_rfl : dnF Tryz.prog Tryz.f28.ntmps d28 [.tmp 2] [vS l1] h Q = R28 l1 h Q) hR)
noncomputable def d173 : DCode := up ⟨[(5, .c (.one false [.bool]))], [], []⟩ (low Tryz.prog (fun _ => false) (Tryz.f173.body.getD .skip))
theorem low173 : low Tryz.prog (fun _ => false) (Tryz.f173.body.getD .skip) = some (eC d173) := by kernel_rfl
def R173 (i1 : Int) (h : PHeap) (Q : Value → PHeap → Prop) : Prop :=
 Tri Tryz.prog 56 [vU i1] h fun v_1 h_1 =>
 ∃ (c1 : Bool), v_1 = vB c1 ∧
 br c1
 (Q (vI (IntKind.i64.wrap ((IntKind.u8.wrap (i1 - 48))))) h_1)
 (br (decide (i1 ≥ 97))
 (br (decide (i1 ≤ 102))
 (Q (vI (IntKind.i64.wrap ((IntKind.i64.wrap ((IntKind.u8.wrap (i1 - 97)))) + 10))) h_1)
 (Q (vI (-1)) h_1))
 (Q (vI (-1)) h_1))
theorem T173 {i1 : Int} {h : PHeap} {Q : Value → PHeap → Prop} (hR : R173 i1 h Q) : Tri Tryz.prog 173 [vU i1] h Q :=
 tri_of_dn mixed Tryz.func173 rfl (by kernel_rfl) low173 (rs := [.tmp 2]) (by kernel_rfl) rfl (Eq.mpr (by kernel_rfl : dnF Tryz.prog Tryz.f173.ntmps d173 [.tmp 2] [vU i1] h Q = R173 i1 h Q) hR)
noncomputable def d171 : DCode := up ⟨[(4, .c (.one false [.bool]))], [], []⟩ (low Tryz.prog (fun _ => false) (Tryz.f171.body.getD .skip))
theorem low171 : low Tryz.prog (fun _ => false) (Tryz.f171.body.getD .skip) = some (eC d171) := by kernel_rfl
def R171 (i1 : Int) (h : PHeap) (Q : Value → PHeap → Prop) : Prop :=
 Tri Tryz.prog 53 [vU i1] h fun v_1 h_1 =>
 ∃ (c1 : Bool), v_1 = vB c1 ∧
 br c1
 (Q (vU (IntKind.u8.wrap (i1 - 48))) h_1)
 (Q (vU (IntKind.u8.wrap ((IntKind.u8.wrap (i1 - 97)) + 10))) h_1)
theorem T171 {i1 : Int} {h : PHeap} {Q : Value → PHeap → Prop} (hR : R171 i1 h Q) : Tri Tryz.prog 171 [vU i1] h Q :=
 tri_of_dn mixed Tryz.func171 rfl (by kernel_rfl) low171 (rs := [.tmp 2]) (by kernel_rfl) rfl (Eq.mpr (by kernel_rfl : dnF Tryz.prog Tryz.f171.ntmps d171 [.tmp 2] [vU i1] h Q = R171 i1 h Q) hR)
end Go.Proofs.D
namespace Go.Proofs.D
open Go Go.Den Go.As
set_option maxRecDepth 100000
attribute [local irreducible] IntKind.wrap Tri
section
variable (h : PHeap) (c : UInt8) (s : Bytes)
theorem letter_t : Tri Tryz.prog 49 [vU (c.toNat : Int)] h fun v h' => v = vB (letterB c) ∧ h' = h := by
 refine T49 ?_
 unfold R49
 refine br_split (fun e1 => br_split (fun e2 => ?_) fun e2 => br_split (fun e3 => ?_) fun e3 => ?_) fun e1 => br_split (fun e3 => ?_) fun e3 => ?_ <;>
 · refine ⟨congrArg _ ?_, rfl⟩
   simp only [decide_eq_true_eq, decide_eq_false_iff_not] at *
   unfold letterB
   rw [Bool.eq_iff_iff]; simp; omega
theorem digit_t : Tri Tryz.prog 53 [vU (c.toNat : Int)] h fun v h' => v = vB (digitB c) ∧ h' = h := by
 refine T53 ?_
 unfold R53
 refine br_split (fun e1 => ?_) fun e1 => ?_ <;>
 · refine ⟨congrArg _ ?_, rfl⟩
   simp only [decide_eq_true_eq, decide_eq_false_iff_not] at *
   unfold digitB
   rw [Bool.eq_iff_iff]; simp; omega
theorem hex_t : Tri Tryz.prog 163 [vU (c.toNat : Int)] h fun v h' => v = vB (hexB c) ∧ h' = h := by
 refine T163 ?_
 unfold R163
 refine Tri.mono (digit_t h c) ?_
 rintro _ h ⟨rfl, rfl⟩
 refine ⟨_, rfl, br_split (fun e1 => ⟨by simp [hexB, e1], rfl⟩) fun e1 => br_split (fun e2 => ?_) fun e2 => ?_⟩ <;>
 · refine ⟨congrArg _ ?_, rfl⟩
   simp only [decide_eq_true_eq, decide_eq_false_iff_not] at *
   unfold hexB
   rw [e1, Bool.eq_iff_iff]; simp; omega
theorem u8_beq (c d : UInt8) : (((c.toNat : Nat) : Int) == ((d.toNat : Nat) : Int)) = (c == d) := by
 rw [Bool.eq_iff_iff]
 simp only [beq_iff_eq]
 constructor
 · intro h; exact UInt8.toNat_inj.1 (by omega)
 · rintro rfl; rfl
theorem u8_bne (c d : UInt8) : (((c.toNat : Nat) : Int) != ((d.toNat : Nat) : Int)) = (c != d) := by
 unfold bne; rw [u8_beq]
theorem u8_is {c d : UInt8} (e : (((c.toNat : Nat) : Int) == ((d.toNat : Nat) : Int)) = true) : c = d := by
 rw [u8_beq] at e; simpa using e
theorem u8_not {c d : UInt8} (e : (((c.toNat : Nat) : Int) == ((d.toNat : Nat) : Int)) = false) : c ≠ d := by
 rw [u8_beq] at e; simpa using e
theorem u8_k (c d : UInt8) {b : Bool} (e : (((c.toNat : Nat) : Int) == ((d.toNat : Nat) : Int)) = b) : (c == d) = b := (u8_beq c d).symm.trans e
theorem u8_kn (c d : UInt8) {b : Bool} (e : (((c.toNat : Nat) : Int) != ((d.toNat : Nat) : Int)) = b) : (c == d) = !b := by
 rw [u8_bne] at e; unfold bne at e; rw [← e]; simp
theorem not_t {b : Bool} (e : (!b) = false) : b = true := by simpa using e
theorem not_f {b : Bool} (e : (!b) = true) : b = false := by simpa using e
theorem word_t : Tri Tryz.prog 120 [vU (c.toNat : Int)] h fun v h' => v = vB (wordB c) ∧ h' = h := by
 refine T120 ?_
 unfold R120
 refine Tri.mono (letter_t h c) ?_
 rintro _ h ⟨rfl, rfl⟩
 refine ⟨_, rfl, br_split (fun e1 => ⟨by simp [wordB, e1], rfl⟩) fun e1 => ?_⟩
 refine Tri.mono (digit_t h c) ?_
 rintro _ h ⟨rfl, rfl⟩
 refine ⟨_, rfl, br_split (fun e2 => ⟨by simp [wordB, e2], rfl⟩) fun e2 => br_split (fun e3 => ?_) fun e3 => br_split (fun e4 => ?_) fun e4 => ?_⟩
 · have := u8_is (d := 95) e3; subst this; exact ⟨rfl, rfl⟩
 · have := u8_is (d := 46) e4; subst this; exact ⟨rfl, rfl⟩
 · refine ⟨congrArg _ ((u8_beq c 45).trans ?_), rfl⟩
   unfold wordB
   rw [e1, e2, u8_k c 95 e3, u8_k c 46 e4]; simp
theorem lab_t : Tri Tryz.prog 52 [vU (c.toNat : Int)] h fun v h' => v = vB (letterB c || digitB c || c == 95 || c == 46) ∧ h' = h := by
 refine T52 ?_
 unfold R52
 refine Tri.mono (letter_t h c) ?_
 rintro _ h ⟨rfl, rfl⟩
 refine ⟨_, rfl, br_split (fun e1 => ⟨by simp [e1], rfl⟩) fun e1 => ?_⟩
 refine Tri.mono (digit_t h c) ?_
 rintro _ h ⟨rfl, rfl⟩
 refine ⟨_, rfl, br_split (fun e2 => ⟨by simp [e2], rfl⟩) fun e2 => br_split (fun e3 => ?_) fun e3 => ?_⟩
 · have := u8_is (d := 95) e3; subst this; exact ⟨rfl, rfl⟩
 · refine ⟨congrArg _ ((u8_beq c 46).trans ?_), rfl⟩
   rw [e1, e2, u8_k c 95 e3]; simp
theorem regB_cases (s : Bytes) : (∃ d, s = [114, d] ∧ 48 ≤ d.toNat ∧ d.toNat ≤ 55 ∧ regB s = some (d.toNat - 48)) ∨ (regB s = none ∧ ¬ ∃ d, s = [114, d] ∧ 48 ≤ d.toNat ∧ d.toNat ≤ 55) := by
 unfold regB
 split
 · rename_i d
   by_cases h : 48 ≤ d.toNat ∧ d.toNat ≤ 55
   · rw [if_pos h]; exact .inl ⟨d, rfl, h.1, h.2, rfl⟩
   · rw [if_neg h]; exact .inr ⟨rfl, fun ⟨d', h1, h2⟩ => by injection h1 with _ h1; injection h1 with h1 _; subst h1; exact h h2⟩
 · rename_i hn; exact .inr ⟨rfl, fun ⟨d', h1, _⟩ => hn d' h1⟩
theorem reg_val {d : UInt8} (h1 : 48 ≤ d.toNat) (h2 : d.toNat ≤ 55) : IntKind.i64.wrap (IntKind.u8.wrap ((d.toNat : Int) - 48)) = ((d.toNat - 48 : Nat) : Int) := by
 have : ∀ n : Fin 256, 48 ≤ n.val → n.val ≤ 55 → IntKind.i64.wrap (IntKind.u8.wrap ((n.val : Int) - 48)) = ((n.val - 48 : Nat) : Int) := by decide +kernel
 exact this ⟨d.toNat, d.toNat_lt⟩ h1 h2
def regV (s : Bytes) : Value := match regB s with
 | some r => vT [vI r, vB true]
 | none => vT [vI 0, vB false]
theorem register_t : Tri Tryz.prog 50 [vS s] h fun v h' => v = regV s ∧ h' = h := by
 refine T50 ?_
 unfold R50
 have none : (¬ ∃ d, s = [114, d] ∧ 48 ≤ d.toNat ∧ d.toNat ≤ 55) → vT [vI 0, vB false] = regV s ∧ h = h := fun hn => by
  rcases regB_cases s with ⟨d, h1, h2, h3, _⟩ | ⟨h1, _⟩
  · exact absurd ⟨d, h1, h2, h3⟩ hn
  · unfold regV; rw [h1]; exact ⟨rfl, rfl⟩
 refine br_split (fun e1 => none ?_) fun e1 => ?_
 · rintro ⟨d, rfl, _⟩; exact absurd e1 (by simp)
 obtain ⟨c1, c2, rfl⟩ : ∃ c1 c2, s = [c1, c2] := by
  match s, e1 with
  | [a, b], _ => exact ⟨a, b, rfl⟩
  | [], e1 => simp at e1
  | [_], e1 => simp at e1
  | _ :: _ :: _ :: _, e1 => simp at e1; omega
 refine ⟨by decide, c1, rfl, br_split (fun e2 => none ?_) fun e2 => ?_⟩
 · rintro ⟨d, h1, _⟩; injection h1 with h1 _; subst h1; exact absurd e2 (by decide)
 obtain rfl : c1 = 114 := u8_is (by simpa using e2)
 refine ⟨by decide, c2, rfl, br_split (fun e3 => none ?_) fun e3 => ⟨by decide, c2, rfl, br_split (fun e4 => none ?_) fun e4 => ⟨by decide, c2, rfl, ?_, rfl⟩⟩⟩
 · rintro ⟨d, h1, h2, _⟩; injection h1 with _ h1; injection h1 with h1 _; subst h1
   have := of_decide_eq_true e3; omega
 · rintro ⟨d, h1, _, h2⟩; injection h1 with _ h1; injection h1 with h1 _; subst h1
   have := of_decide_eq_true e4; omega
 · have h1 := of_decide_eq_false e3
   have h2 := of_decide_eq_false e4
   rw [reg_val (by omega) (by omega)]
   have hr : regB [114, c2] = some (c2.toNat - 48) := if_pos ⟨by omega, by omega⟩
   unfold regV
   rw [hr]
theorem all_t {f : Nat} {x y : List Value} (p : UInt8 → Bool) (hf : ∀ c : UInt8, Tri Tryz.prog f (x ++ [vU (c.toNat : Int)] ++ y) h fun v h' => v = vB (p c) ∧ h' = h) (hs : s.length ≤ 1000000000) :
 Tri Tryz.prog 51 [vS s, vF f x y] h fun v h' => v = vB (s.all p) ∧ h' = h := by
 refine T51 ?_
 unfold R51
 refine ⟨fun m i h' => ∃ j : Nat, i = j ∧ j + m = s.length ∧ h' = h ∧ (s.take j).all p = true, ⟨s.length, 0, rfl, by omega, rfl, by simp⟩, ?_⟩
 rintro m _ h1 ⟨j, rfl, hm, rfl, hj⟩
 refine br_split (fun e => ?_) fun e => ?_
 · have hlt : j < s.length := by have := of_decide_eq_true e; omega
   refine ⟨by omega, s[j], by simp [hlt], ?_⟩
   refine Tri.mono (hf _) ?_
   rintro _ h ⟨rfl, rfl⟩
   have ht := List.take_append_getElem hlt
   refine ⟨_, rfl, br_split (fun e2 => ?_) fun e2 => ⟨m - 1, by omega, ⟨j + 1, ?_, by omega, rfl, ?_⟩, trivial⟩⟩
   · refine ⟨congrArg _ (Eq.symm ?_), rfl⟩
     rw [List.all_eq_false]
     exact ⟨s[j], List.getElem_mem hlt, by simpa using e2⟩
   · rw [wrap64 (by omega) (by omega)]; rfl
   · rw [← ht, List.all_append, hj]; simpa using e2
 · have hj' : j = s.length := by have := of_decide_eq_false e; omega
   subst hj'
   rw [List.take_length] at hj
   exact ⟨by rw [hj], rfl⟩
theorem regV_is (s : Bytes) : ∃ i, regV s = vT [vI i, vB (regB s).isSome] := by
 unfold regV
 cases regB s <;> exact ⟨_, rfl⟩
theorem label_t : Tri Tryz.prog 27 [vS s] h fun v h' => v = vB (isLabel s) ∧ h' = h := by
 refine T27 ?_
 unfold R27
 match s with
 | [] => exact br_pos rfl ⟨rfl, rfl⟩
 | c :: r =>
   refine br_neg (by simp; omega) (br_split (fun e1 => ?_) fun e1 => ?_)
   · refine ⟨congrArg _ (Eq.symm ?_), rfl⟩
     have := of_decide_eq_true e1
     simp only [isLabel, Bool.and_eq_false_iff, decide_eq_false_iff_not]
     exact .inl (.inl (.inl (by omega)))
   have e1 := of_decide_eq_false e1
   have hlen : decide ((c :: r).length ≤ 32) = true := by simp only [decide_eq_true_eq]; omega
   refine ⟨by decide, c, rfl, ?_⟩
   have tail : (letterB c || c == 95) = true → Tri Tryz.prog 50 [vS (c :: r)] h fun v_4 h_4 =>
    ∃ (i2 : Int) (c6 : Bool), v_4 = vT [vI i2, vB c6] ∧ br c6 (vB false = vB (isLabel (c :: r)) ∧ h_4 = h) (Tri Tryz.prog 51 [vS (c :: r), vF 52 [] []] h_4 fun v_5 h_5 =>
      ∃ (c7 : Bool), v_5 = vB c7 ∧ vB c7 = vB (isLabel (c :: r)) ∧ h_5 = h) := fun hl => by
    refine Tri.mono (register_t h (c :: r)) ?_
    rintro _ h ⟨rfl, rfl⟩
    obtain ⟨i, hi⟩ := regV_is (c :: r)
    refine ⟨i, _, hi, br_split (fun e => ⟨congrArg _ (Eq.symm ?_), rfl⟩) fun e => ?_⟩
    · simp only [isLabel, Bool.and_eq_false_iff]
      exact .inl (.inr (by rw [← Option.not_isSome, e]; rfl))
    · refine Tri.mono (all_t h (c :: r) (fun c => letterB c || digitB c || c == 95 || c == 46) (fun c => lab_t h c) (by omega)) ?_
      rintro _ h ⟨rfl, rfl⟩
      refine ⟨_, rfl, congrArg _ (Eq.symm ?_), rfl⟩
      simp only [isLabel]
      rw [hlen, hl, ← Option.not_isSome, e]; rfl
   refine Tri.mono (letter_t h c) ?_
   rintro _ h ⟨rfl, rfl⟩
   refine ⟨_, rfl, br_split (fun e2 => ?_) fun e2 => tail (by rw [show letterB c = true by simpa using e2]; rfl)⟩
   have e2 : letterB c = false := by simpa using e2
   refine ⟨by decide, c, rfl, br_split (fun e3 => ?_) fun e3 => tail ?_⟩
   · have e3 := u8_kn c 95 e3
     refine ⟨congrArg _ (Eq.symm ?_), rfl⟩
     simp only [isLabel]
     rw [hlen, e2, e3]; rfl
   · have e3 := u8_kn c 95 e3
     rw [e3, e2]; rfl
theorem hexv_t (hc : hexB c = true) : Tri Tryz.prog 171 [vU (c.toNat : Int)] h fun v h' => v = vU (hexN c : Int) ∧ h' = h := by
 refine T171 ?_
 unfold R171
 have key : ∀ n : Fin 256, (digitB (UInt8.ofNat n.val) = true → IntKind.u8.wrap ((n.val : Int) - 48) = (hexN (UInt8.ofNat n.val) : Int)) ∧
  (digitB (UInt8.ofNat n.val) = false → hexB (UInt8.ofNat n.val) = true → IntKind.u8.wrap (IntKind.u8.wrap ((n.val : Int) - 97) + 10) = (hexN (UInt8.ofNat n.val) : Int)) := by decide +kernel
 have := key ⟨c.toNat, c.toNat_lt⟩
 simp only [UInt8.ofNat_toNat] at this
 refine Tri.mono (digit_t h c) ?_
 rintro _ h ⟨rfl, rfl⟩
 refine ⟨_, rfl, br_split (fun e1 => ⟨?_, rfl⟩) fun e1 => ⟨?_, rfl⟩⟩
 · rw [this.1 e1]
 · rw [this.2 e1 hc]
theorem rletter_t : Tri Tryz.prog 54 [vU (c.toNat : Int)] h fun v h' => v = vB (letterB c || c == 95) ∧ h' = h := by
 refine T54 ?_
 unfold R54
 have h5 := u8_beq c 95
 have fin : letterB c = false → vB ((c.toNat : Int) == 95) = vB (letterB c || c == 95) ∧ h = h := fun hl => ⟨congrArg _ (h5.trans (by rw [hl]; rfl)), rfl⟩
 refine br_split (fun e1 => br_split (fun e2 => ?_) fun e2 => br_split (fun e3 => br_split (fun e4 => ?_) fun e4 => fin ?_) fun e3 => fin ?_) fun e1 => br_split (fun e3 => br_split (fun e4 => ?_) fun e4 => fin ?_) fun e3 => fin ?_
 · refine ⟨congrArg _ ?_, rfl⟩; simp only [decide_eq_true_eq, decide_eq_false_iff_not] at *; unfold letterB; rw [Bool.eq_iff_iff]; simp; omega
 · refine ⟨congrArg _ ?_, rfl⟩; simp only [decide_eq_true_eq, decide_eq_false_iff_not] at *; unfold letterB; rw [Bool.eq_iff_iff]; simp; omega
 · simp only [decide_eq_true_eq, decide_eq_false_iff_not] at *; unfold letterB; rw [Bool.eq_iff_iff]; simp; omega
 · simp only [decide_eq_true_eq, decide_eq_false_iff_not] at *; unfold letterB; rw [Bool.eq_iff_iff]; simp; omega
 · refine ⟨congrArg _ ?_, rfl⟩; simp only [decide_eq_true_eq, decide_eq_false_iff_not] at *; unfold letterB; rw [Bool.eq_iff_iff]; simp; omega
 · simp only [decide_eq_true_eq, decide_eq_false_iff_not] at *; unfold letterB; rw [Bool.eq_iff_iff]; simp; omega
 · simp only [decide_eq_true_eq, decide_eq_false_iff_not] at *; unfold letterB; rw [Bool.eq_iff_iff]; simp; omega
theorem rdigit_t : Tri Tryz.prog 56 [vU (c.toNat : Int)] h fun v h' => v = vB (digitB c) ∧ h' = h := by
 refine T56 ?_
 unfold R56
 refine br_split (fun e1 => ?_) fun e1 => ?_ <;>
 · refine ⟨congrArg _ ?_, rfl⟩
   simp only [decide_eq_true_eq, decide_eq_false_iff_not] at *
   unfold digitB
   rw [Bool.eq_iff_iff]; simp; omega
def regI (s : Bytes) : Int := match regB s with
 | some r => r
 | none => -1
theorem rreg_t : Tri Tryz.prog 55 [vS s] h fun v h' => v = vI (regI s) ∧ h' = h := by
 refine T55 ?_
 unfold R55
 have none : (¬ ∃ d, s = [114, d] ∧ 48 ≤ d.toNat ∧ d.toNat ≤ 55) → vI (-1) = vI (regI s) ∧ h = h := fun hn => by
  rcases regB_cases s with ⟨d, h1, h2, h3, _⟩ | ⟨h1, _⟩
  · exact absurd ⟨d, h1, h2, h3⟩ hn
  · unfold regI; rw [h1]; exact ⟨rfl, rfl⟩
 refine br_split (fun e1 => ?_) fun e1 => none ?_
 · obtain ⟨c1, c2, rfl⟩ : ∃ c1 c2, s = [c1, c2] := by
    match s, e1 with
    | [a, b], _ => exact ⟨a, b, rfl⟩
    | [], e1 => simp at e1
    | [_], e1 => simp at e1
    | _ :: _ :: _ :: _, e1 => simp at e1; omega
   refine ⟨by decide, c1, rfl, br_split (fun e2 => ?_) fun e2 => none ?_⟩
   · obtain rfl : c1 = 114 := u8_is e2
     refine ⟨by decide, c2, rfl, br_split (fun e3 => ⟨by decide, c2, rfl, br_split (fun e4 => ⟨by decide, c2, rfl, ?_, rfl⟩) fun e4 => none ?_⟩) fun e3 => none ?_⟩
     · have h1 := of_decide_eq_true e3
       have h2 := of_decide_eq_true e4
       rw [reg_val (by omega) (by omega)]
       have hr : regB [114, c2] = some (c2.toNat - 48) := if_pos ⟨by omega, by omega⟩
       unfold regI
       rw [hr]
     · rintro ⟨d, h1, _, h2⟩; injection h1 with _ h1; injection h1 with h1 _; subst h1
       have := of_decide_eq_false e4; omega
     · rintro ⟨d, h1, h2, _⟩; injection h1 with _ h1; injection h1 with h1 _; subst h1
       have := of_decide_eq_false e3; omega
   · rintro ⟨d, h1, _⟩; injection h1 with h1 _; subst h1; exact absurd e2 (by decide)
 · rintro ⟨d, rfl, _⟩; exact absurd e1 (by simp)
theorem regI_ge (s : Bytes) : decide (regI s ≥ 0) = (regB s).isSome := by
 unfold regI
 cases regB s <;> simp
theorem rlabel_t : Tri Tryz.prog 28 [vS s] h fun v h' => v = vB (isLabel s) ∧ h' = h := by
 refine T28 ?_
 unfold R28
 match s with
 | [] => exact br_pos rfl ⟨rfl, rfl⟩
 | c :: r =>
   refine br_neg rfl (br_split (fun e1 => ?_) fun e1 => ?_)
   · refine ⟨congrArg _ (Eq.symm ?_), rfl⟩
     have := of_decide_eq_true e1
     simp only [isLabel, Bool.and_eq_false_iff, decide_eq_false_iff_not]
     exact .inl (.inl (.inl (by omega)))
   have e1 := of_decide_eq_false e1
   have hlen : decide ((c :: r).length ≤ 32) = true := by simp only [decide_eq_true_eq]; omega
   refine ⟨by decide, c, rfl, ?_⟩
   refine Tri.mono (rletter_t h c) ?_
   rintro _ h ⟨rfl, rfl⟩
   refine ⟨_, rfl, br_split (fun e2 => ⟨congrArg _ (Eq.symm ?_), rfl⟩) fun e2 => ?_⟩
   · have e2 := not_f e2
     simp only [isLabel]
     rw [hlen, e2]; rfl
   have e2 := not_t e2
   refine Tri.mono (rreg_t h (c :: r)) ?_
   rintro _ h ⟨rfl, rfl⟩
   refine ⟨_, rfl, br_split (fun e => ⟨congrArg _ (Eq.symm ?_), rfl⟩) fun e => ?_⟩
   · rw [regI_ge] at e
     simp only [isLabel, Bool.and_eq_false_iff]
     exact .inl (.inr (by rw [← Option.not_isSome, e]; rfl))
   rw [regI_ge] at e
   have hiso : isLabel (c :: r) = (c :: r).all fun c => letterB c || digitB c || c == 95 || c == 46 := by
    simp only [isLabel]
    rw [hlen, e2, ← Option.not_isSome, e]; rfl
   rw [hiso]
   generalize c :: r = s at *
   refine ⟨fun m i h' => ∃ j : Nat, i = j ∧ j + m = s.length ∧ h' = h ∧ (s.take j).all (fun c => letterB c || digitB c || c == 95 || c == 46) = true, ⟨s.length, 0, rfl, by omega, rfl, by simp⟩, ?_⟩
   rintro m _ h1 ⟨j, rfl, hm, rfl, hj⟩
   refine br_split (fun e => ?_) fun e => ?_
   · have hlt : j < s.length := by have := of_decide_eq_true e; omega
     have hg : s[((j : Nat) : Int).toNat]? = some s[j] := by simp [hlt]
     have ht := List.take_append_getElem hlt
     have next : (letterB s[j] || digitB s[j] || s[j] == 95 || s[j] == 46) = true → ∃ (m3 : Nat), m3 < m ∧ (∃ j' : Nat, IntKind.i64.wrap ((j : Int) + 1) = j' ∧ j' + m3 = s.length ∧ h1 = h1 ∧ (s.take j').all (fun c => letterB c || digitB c || c == 95 || c == 46) = true) ∧ True := fun hn => by
      refine ⟨m - 1, by omega, ⟨j + 1, ?_, by omega, rfl, ?_⟩, trivial⟩
      · rw [wrap64 (by omega) (by omega)]; rfl
      · rw [← ht, List.all_append, hj]; simpa using hn
     refine ⟨by omega, s[j], hg, ?_⟩
     refine Tri.mono (rletter_t h1 _) ?_
     rintro _ h ⟨rfl, rfl⟩
     refine ⟨_, rfl, br_split (fun e2 => ?_) fun e2 => next ?_⟩
     rotate_left
     · have e2 := not_t e2
       simp only [Bool.or_eq_true] at e2 ⊢
       rcases e2 with e2 | e2
       · exact .inl (.inl (.inl e2))
       · exact .inl (.inr e2)
     have e2 := not_f e2
     refine ⟨by omega, s[j], hg, ?_⟩
     refine Tri.mono (rdigit_t _ _) ?_
     rintro _ h ⟨rfl, rfl⟩
     refine ⟨_, rfl, br_split (fun e3 => ?_) fun e3 => next (by rw [not_t e3]; simp)⟩
     have e3 := not_f e3
     refine ⟨by omega, s[j], hg, br_split (fun e4 => ⟨congrArg _ (Eq.symm ?_), rfl⟩) fun e4 => next ?_⟩
     · rw [List.all_eq_false]
       refine ⟨s[j], List.getElem_mem hlt, ?_⟩
       have e4 := u8_kn s[j] 46 e4
       simp only [Bool.or_eq_false_iff] at e2
       rw [e2.1, e3, e2.2, e4]; simp
     · have e4 := u8_kn s[j] 46 e4
       rw [e4]; simp
   · have hj' : j = s.length := by have := of_decide_eq_false e; omega
     subst hj'
     rw [List.take_length] at hj
     exact ⟨by rw [hj], rfl⟩
def hexI (c : UInt8) : Int := if hexB c then hexN c else -1
theorem rhex_t : Tri Tryz.prog 173 [vU (c.toNat : Int)] h fun v h' => v = vI (hexI c) ∧ h' = h := by
 refine T173 ?_
 unfold R173
 have key : ∀ n : Fin 256, (digitB (UInt8.ofNat n.val) = true → IntKind.i64.wrap (IntKind.u8.wrap ((n.val : Int) - 48)) = hexI (UInt8.ofNat n.val)) ∧
  (97 ≤ n.val → n.val ≤ 102 → IntKind.i64.wrap (IntKind.i64.wrap (IntKind.u8.wrap ((n.val : Int) - 97)) + 10) = hexI (UInt8.ofNat n.val)) ∧ (digitB (UInt8.ofNat n.val) = false → ¬ (97 ≤ n.val ∧ n.val ≤ 102) → -1 = hexI (UInt8.ofNat n.val)) := by decide +kernel
 have hk := key ⟨c.toNat, c.toNat_lt⟩
 simp only [UInt8.ofNat_toNat] at hk
 refine Tri.mono (rdigit_t h c) ?_
 rintro _ h ⟨rfl, rfl⟩
 refine ⟨_, rfl, br_split (fun e1 => ⟨?_, rfl⟩) fun e1 => br_split (fun e2 => br_split (fun e3 => ⟨?_, rfl⟩) fun e3 => ⟨?_, rfl⟩) fun e2 => ⟨?_, rfl⟩⟩
 · rw [hk.1 e1]
 · have := of_decide_eq_true e2; have := of_decide_eq_true e3
   rw [hk.2.1 (by omega) (by omega)]
 · have := of_decide_eq_false e3
   rw [hk.2.2 e1 (by omega)]
 · have := of_decide_eq_false e2
   rw [hk.2.2 e1 (by omega)]
end
end Go.Proofs.D
namespace Go.Proofs.D
open Go Go.Den
set_option maxRecDepth 100000
attribute [local irreducible] IntKind.wrap Tri
section
variable {e k : Nat} {h0 h h' : PHeap} {a : Option Addr} {n c : Nat} {css : List (List Value)}
def Grows (a : Option Addr) (h h2 : PHeap) (b : Nat) : Prop := (∀ q, q ≠ b → h2 q = h q) ∧ (h b = none ∨ a = ad b 0)
theorem LM.after {b m cap : Nat} {rest : List Value} {css2 : List (List Value)} {z : Nat × Nat} (hd : ∀ b, h b = none → h0 b = none) (hL : LM e k h0 h a n c css) (hlen : css2.length = m) (each : ∀ cs ∈ css2, cs.length = k) (hm : 0 < n + m) (hb : h b = none ∨ a = ad b 0)
 (hz : z = (0, 0)) (hr : rest.length = (cap - (n + m)) * k) (hc : n + m ≤ cap) : LM e k h0 (h.put b (.cells ⟨css.flatten ++ css2.flatten ++ rest⟩ e z)) (ad b 0) (n + m) cap (css ++ css2) := by
 subst hz
 obtain ⟨g2, g3, g4, g5, _⟩ := hL
 have hb0 : h0 b = none := by
  rcases hb with hb | hb
  · exact hd b hb
  · exact (g2 b hb).1
 refine ⟨fun q hq => ?_, by simp [g3, hlen], fun j cs hj => ?_, ⟨?_, .inr ⟨b, cap, rest, rfl, ?_, hr, hc⟩⟩, fun h => by omega⟩
 · injection hq with hq; injection hq with hq; subst hq
   exact ⟨hb0, by rw [put_same]; exact fun e => by cases e⟩
 · by_cases hj' : j < css.length
   · rw [List.getElem?_append_left hj'] at hj; exact g4 j cs hj
   · rw [List.getElem?_append_right (by omega)] at hj
     exact each cs (List.mem_of_getElem? hj)
 · have h1 := g5.1
   have h2 : css2.flatten.length = css2.length * k := by
    clear hlen
    induction css2 with
    | nil => simp
    | cons x l ih =>
      rw [List.flatten_cons, List.length_append, ih fun y hy => each y (List.mem_cons_of_mem _ hy), each x (List.mem_cons_self ..), List.length_cons, Nat.add_mul]; omega
   rw [List.flatten_append, List.length_append, h1, h2, hlen, Nat.add_mul]
 · rw [put_same, List.flatten_append]
theorem LM.extend {t t2 ty : TypeId} (hu : Tryz.prog.underlying t = some (.slice e)) (he : ElemT e k) {ρ : Operand → Value} {cl : Call} {x y : Operand} (hcl : cl.callee = .builtin .append) (hca : cl.args = #[x, y]) (hts : cl.argTypes = #[t, t2])
 {vy : Value} {css2 : List (List Value)} {m : Nat} (hx : ρ x = vL a n c) (hy : ρ y = vy) (hx0 : Ext h0 h) (hL : LM e k h0 h a n c css) (hsrc : SrcH Tryz.prog h k t2 vy m css2.flatten) (hlen : css2.length = m) (each : ∀ cs ∈ css2, cs.length = k) (hm : 0 < m) (hn : n + m ≤ 10000000) :
 Raw Tryz.prog (execOp ρ (mkO (.call cl) ty)) h fun w h2 => ∃ b cap, w = vL (ad b 0) (n + m) cap ∧ Ext h0 h2 ∧ LM e k h0 h2 (ad b 0) (n + m) cap (css ++ css2) ∧ Grows a h h2 b := by
 obtain ⟨i, z, hi, hz, hzc, hk, hby⟩ := he
 subst hk
 have hbig : (16 * (n + m) + 16384) * i.bytes ≤ 281474976710656 := by
  have : (16 * (n + m) + 16384) * i.bytes ≤ (16 * (n + m) + 16384) * 200 := Nat.mul_le_mul_left _ hby
  omega
 refine Raw.mono (raw_append hcl hca hts hu hi hz hx hy hL.row hsrc hzc hm hbig (by omega)) ?_
 rintro v h2 ⟨b, cap, rest, rfl, rfl, hr, hcap, hb⟩
 have hb' : h b = none ∨ a = ad b 0 := hb.imp id fun ⟨c2, hb⟩ => by injection hb with h1 h2 h3
 have hM := LM.after hx0.dom hL hlen each (by omega) hb' rfl hr hcap
 refine ⟨b, cap, rfl, fun q o hq => ?_, hM, fun q hq => put_ne hq, hb'⟩
 have hqb : q ≠ b := fun e => by subst e; rw [(hM.own q rfl).1] at hq; cases hq
 rw [put_ne hqb]; exact hx0 q o hq
theorem LM.push {t ty : TypeId} (hu : Tryz.prog.underlying t = some (.slice e)) (he : ElemT e k) {ρ : Operand → Value} {cl : Call} {x y : Operand} (hcl : cl.callee = .builtin .append) (hca : cl.args = #[x, y]) (hts : cl.argTypes = #[t, t])
 {b2 : Nat} {cs : List Value} (hx : ρ x = vL a n c) (hy : ρ y = vL (ad b2 0) 1 1) (hx0 : Ext h0 h) (hL : LM e k h0 h a n c css) (hb2 : h b2 = none) (hh : h' = h.put b2 (.cells ⟨cs⟩ e (0, 0))) (hl : cs.length = k) (h1 : allOne cs = true) (hn : n ≤ 9000000) :
 Raw Tryz.prog (execOp ρ (mkO (.call cl) ty)) h' fun w h2 => ∃ b cap, w = vL (ad b 0) (n + 1) cap ∧ Ext h0 h2 ∧ LM e k h0 h2 (ad b 0) (n + 1) cap (css ++ [cs]) ∧ Grows a h' h2 b := by
 have hL' := hL.ext (Put.ext hh hb2)
 have hx' := hx0.trans (Put.ext hh hb2)
 refine LM.extend hu he hcl hca hts hx hy hx' hL' (css2 := [cs]) (m := 1) ?_ rfl (fun c hc => by simp at hc; subst hc; exact hl) (by omega) (by omega)
 have : ([cs] : List (List Value)).flatten = cs := by simp
 rw [this]
 exact SrcH.row hu (by omega) (row_lit (Put.at hh) fun j v hj => by simpa using hj) h1
theorem LM.extend0 {t t2 ty : TypeId} (hu : Tryz.prog.underlying t = some (.slice e)) (he : ElemT e k) {ρ : Operand → Value} {cl : Call} {x y : Operand} (hcl : cl.callee = .builtin .append) (hca : cl.args = #[x, y]) (hts : cl.argTypes = #[t, t2])
 {vy : Value} (hx : ρ x = vL a n c) (hy : ρ y = vy) (hL : LM e k h0 h a n c css) (hsrc : SrcH Tryz.prog h k t2 vy 0 []) :
 Raw Tryz.prog (execOp ρ (mkO (.call cl) ty)) h fun w h2 => w = vL a n c ∧ h2 = h := by
 obtain ⟨i, z, hi, hz, hzc, hk, hby⟩ := he
 subst hk
 intro w hs
 have hS := hsrc w hs
 have hle := hL.okN.1
 have hexec : (execOp ρ (mkO (.call cl) ty)).run Tryz.prog w = ((Builtin.append_ #[t, t2] ty #[vL a n c, vy]).run Tryz.prog w).andThen fun v w' => .ok (.value v) w' := by
  simp [execOp, mkO, resolve, hcl, hca, hts, hx, hy, invoke, builtin]
 have hrun : (Builtin.append_ #[t, t2] ty #[vL a n c, vy]).run Tryz.prog w = .ok (vL a n c) w := by
  rcases hS.kind with ⟨e', hk⟩ | hk <;> cases a <;> simp [Builtin.append_, run_underlying hu, run_underlying hk, sizeOf, typeInfo, hi, hS.len, hle, hS.cells, storeCells]
 rw [hexec, hrun]
 exact ⟨_, _, w, h, rfl, .inl rfl, ⟨rfl, rfl⟩, hs, Keep.refl w h⟩
theorem zerosL_len (m : Nat) (v : Value) : ((List.replicate m [v]).flatten).length = m := by induction m with
 | zero => rfl
 | succ m ih => rw [List.replicate_succ, List.flatten_cons, List.length_append, ih]; simp; omega
theorem LM.zeros {t t2 ty : TypeId} {kd : IntKind} {m : Nat} (hu : Tryz.prog.underlying t = some (.slice e)) (hi2 : Tryz.prog.underlying t2 = some (.int kd)) {i : TypeInfo} {zv : Value} (hi : Tryz.prog.info? e = some i) (hz : i.zero = some zv) (hz1 : zv.cells = #[zv]) (hsz : i.size = 1) (hby : i.bytes = 1)
 {ρ : Operand → Value} {cl : Call} {x y : Operand} (hcl : cl.callee = .builtin .append) (hca : cl.args = #[x, y]) (hts : cl.argTypes = #[t, t2]) (h1 : zv.oneCell' = true)
 (hx : ρ x = vL a n c) (hy : ρ y = vI (m : Int)) (hx0 : Ext h0 h) (hL : LM e 1 h0 h a n c css) (hm : 0 < m) (hn : n + m ≤ 10000000) :
 Raw Tryz.prog (execOp ρ (mkO (.call cl) ty)) h fun w h2 => ∃ b cap, w = vL (ad b 0) (n + m) cap ∧ Ext h0 h2 ∧ LM e 1 h0 h2 (ad b 0) (n + m) cap (css ++ List.replicate m [zv]) ∧ Grows a h h2 b := by
 intro w hs
 have hle := hL.okN.1
 have hw : IntKind.i64.wrap (m : Int) = m := wrap64 (by omega) (by omega)
 have hflat : (List.replicate m [zv]).flatten = List.replicate m zv := by
  clear hn hm hy hw
  induction m with
  | zero => rfl
  | succ m ih => rw [List.replicate_succ, List.flatten_cons, ih]; rfl
 have hzc : ∀ m, (Builtin.zeroCells zv.cells m).toList = List.replicate m zv := by
  intro m
  rw [hz1]
  simp [Builtin.zeroCells]
  clear hn hm hy hw hflat
  induction m with
  | zero => rfl
  | succ m ih => rw [List.range_succ, List.map_append, ih, List.replicate_succ']; simp [Nat.mod_one]
 have hexec : (execOp ρ (mkO (.call cl) ty)).run Tryz.prog w = ((Builtin.append_ #[t, t2] ty #[vL a n c, vI m]).run Tryz.prog w).andThen fun v w' => .ok (.value v) w' := by
  simp [execOp, mkO, resolve, hcl, hca, hts, hx, hy, invoke, builtin]
 have hone : ∀ v ∈ List.replicate m zv, v.oneCell' = true := fun v hv => by rw [(List.mem_replicate.1 hv).2]; exact h1
 have hai : ∀ w, (asInt (vI (m : Int))).run Tryz.prog w = .ok (m : Int) w := fun _ => rfl
 have hm0 : ¬ ((m : Int) < 0) := by omega
 have hbig : ¬ (281474976710656 < (m : Int)) := by omega
 have hmz : m ≠ 0 := by omega
 have hrow := hL.row
 have hL' := hL
 rw [hexec]
 by_cases hfit : n + m ≤ c
 · rcases hrow.2 with ⟨hv, hn0⟩ | ⟨b, cap, rest, hv, hb, hrest, hle2⟩
   · injection hv with h1 h2 h3; omega
   · injection hv with h4 h5 h6
     subst h4; subst h6
     have hl := hrow.1
     have hst := Go.run_storeCells_atF Tryz.prog b n e (0, 0) (List.replicate m zv) 0 ⟨css.flatten ++ rest⟩ w (hs _ _ hb) (Nat.zero_le _)
      (by simp only [Nat.add_zero, List.size_toArray, List.length_append, List.length_replicate]; omega) hone
     have hzc2 : Builtin.zeroCells zv.cells m = (List.replicate m zv).toArray := by apply Array.ext'; simp [hzc]
     have hrun : (Builtin.append_ #[t, t2] ty #[vL (ad b 0) n c, vI m]).run Tryz.prog w = .ok (vL (ad b 0) (n + m) c) (w.setRow b ⟨splice (css.flatten ++ rest) n (List.replicate m zv)⟩) := by
      have hst' : (storeCells ⟨b, n, none⟩ (List.replicate m zv)).run Tryz.prog w = .ok () (w.setRow b ⟨splice (css.flatten ++ rest) n (List.replicate m zv)⟩) := by
       rw [hst]; simp [splice]
      simp [Builtin.append_, run_underlying hu, run_underlying hi2, sizeOf, typeInfo, zeroValue, hi, hz, hsz, hby, hai, hw, hm0, hbig, hfit, addNone, hzc2, hmz, hst']
     rw [hrun]
     have hsp : splice (css.flatten ++ rest) n (List.replicate m zv) = css.flatten ++ (List.replicate m [zv]).flatten ++ rest.drop m := by
      rw [hflat]
      unfold splice
      have : css.flatten.length = n := by omega
      rw [← this, List.take_left, List.drop_append, List.length_replicate]
      simp [Nat.add_sub_cancel_left]
     rw [hsp]
     have hM := LM.after (m := m) (cap := c) (rest := rest.drop m) (css2 := List.replicate m [zv]) (z := (0, 0)) hx0.dom hL' (by simp) (fun cs hcs => by rw [(List.mem_replicate.1 hcs).2]; rfl) (by omega) (.inr rfl) rfl (by rw [List.length_drop]; omega) hfit
     refine ⟨_, _, _, h.put b (.cells ⟨css.flatten ++ (List.replicate m [zv]).flatten ++ rest.drop m⟩ e (0, 0)), rfl, .inl rfl, ⟨b, c, rfl, fun q o hq => ?_, hM, fun q hq => put_ne hq, .inr rfl⟩, ?_, ?_⟩
     · have hqb : q ≠ b := fun e => by subst e; rw [(hM.own q rfl).1] at hq; cases hq
       rw [put_ne hqb]; exact hx0 q o hq
     · intro k o hk
       simp only [PHeap.put] at hk
       split at hk
       · rename_i e1; subst e1; cases hk
         exact setRow_heap _ _ _ _ _ _ (hs _ _ hb)
       · rename_i e1
         rw [setRow_other _ _ _ _ e1]; exact hs _ _ hk
     · refine ⟨rfl, rfl, rfl, by rw [size_setRow]; exact Nat.le_refl _, fun k hk hn => ?_⟩
       have : k ≠ b := fun e => by subst e; rw [hb] at hn; cases hn
       exact ⟨by simp only [PHeap.put]; rw [if_neg this]; exact hn, setRow_other _ _ _ _ this⟩
 · have hnc : c < n + m := by omega
   have hcapl := nextcap_le hnc
   have h48' : ¬ (281474976710656 < Builtin.nextslicecap (n + m) c) := by omega
   have h63' : ¬ (9223372036854775807 < ((n : Int) + (m : Int))) := by omega
   have hold : (Builtin.firstCells 1 n (vL a n c)).run Tryz.prog w.drew = .ok css.flatten.toArray w.drew := by
    have hl := hrow.1
    rcases hrow.2 with ⟨hv, hn0⟩ | ⟨b, cap, rest, hv, hb, hrest, hle2⟩
    · injection hv with h4 h5 h6
      subst h4; subst h6
      have : css.flatten = [] := List.eq_nil_of_length_eq_zero (by omega)
      rw [this, hn0]; rfl
    · injection hv with h4 h5 h6
      subst h4
      have hs' : Den.Sub w.drew h := hs
      have hr := Own.row hrow
      show (loadCells ⟨b, 0, none⟩ (n * 1)).run Tryz.prog w.drew = _
      rw [← hl]
      exact run_loadCells_list w.drew _ css.flatten fun j v hj => hs'.row hr j v hj
   have hcap : n + m ≤ grownCap w (n + m) c e := by
    unfold grownCap; simp only [Question.cut]; omega
   have hzc2 : ∀ m, Builtin.zeroCells zv.cells m = (List.replicate m zv).toArray := fun m => by apply Array.ext'; simp [hzc]
   have hrun : (Builtin.append_ #[t, t2] ty #[vL a n c, vI m]).run Tryz.prog w = .ok (vL (ad w.heap.size 0) (n + m) (grownCap w (n + m) c e)) (w.drew.alloc (.cells ⟨css.flatten ++ (List.replicate m [zv]).flatten ++ List.replicate (grownCap w (n + m) c e - (n + m)) zv⟩ e)) := by
    rw [hflat]
    simp [Builtin.append_, run_underlying hu, run_underlying hi2, sizeOf, typeInfo, zeroValue, hi, hz, hsz, hby, hai, hw, hm0, hbig, hfit, h63', h48', Question.forced, hold, newRow, grownCap, hzc2, hmz]
    congr 2
    apply Array.ext'; simp
   rw [hrun]
   have hs' : Den.Sub w.drew h := hs
   have hM := LM.after (m := m) (cap := grownCap w (n + m) c e) (rest := List.replicate (grownCap w (n + m) c e - (n + m)) zv) (css2 := List.replicate m [zv]) (z := (0, 0)) (b := w.heap.size) hx0.dom hL' (by simp) (fun cs hcs => by rw [(List.mem_replicate.1 hcs).2]; rfl) (by omega) (.inl hs.fresh) rfl (by simp) hcap
   refine ⟨_, _, _, h.put w.heap.size _, rfl, .inl rfl, ⟨w.heap.size, _, rfl, fun q o hq => ?_, hM, fun q hq => put_ne hq, .inl hs.fresh⟩, hs'.allocReal _, ?_⟩
   · have hqb : q ≠ w.heap.size := fun e => by subst e; rw [(hM.own _ rfl).1] at hq; cases hq
     rw [put_ne hqb]; exact hx0 q o hq
   · have := Keep.allocReal w.drew h (.cells ⟨css.flatten ++ (List.replicate m [zv]).flatten ++ List.replicate (grownCap w (n + m) c e - (n + m)) zv⟩ e)
     exact ⟨this.os, this.tape, this.output, this.size, this.out⟩
end
end Go.Proofs.D
namespace Go.Proofs.D
open Go Go.Den
set_option maxRecDepth 100000
set_option maxHeartbeats 4000000
noncomputable def d147 : DCode := up ⟨[(28, .c (.one false [.bool])), (33, .c (.one false [.bool])), (37, .c (.one false [.int .u8])), (41, .c (.one false [.int .u8]))], [], []⟩ (low Tryz.prog (fun _ => false) (Tryz.f147.body.getD .skip))
theorem low147 : low Tryz.prog (fun _ => false) (Tryz.f147.body.getD .skip) = some (eC d147) := by kernel_rfl
def R147 (l1 : Bs) (h : PHeap) (Q : Value → PHeap → Prop) : Prop :=
 br (decide ((l1.length : Int) < 2))
 (Q (vT [vU 0, vI 0]) h)
 (0 ≤ (1 : Int) ∧ ∃ (c1 : UInt8), (l1)[1]? = some c1 ∧
 br ((c1.toNat : Int) == 110)
 (Q (vT [vU 10, vI 2]) h)
 (br ((c1.toNat : Int) == 116)
 (Q (vT [vU 9, vI 2]) h)
 (br ((c1.toNat : Int) == 48)
 (Q (vT [vU 0, vI 2]) h)
 (br ((c1.toNat : Int) == 92)
 (0 ≤ (1 : Int) ∧ ∃ (c2 : UInt8), (l1)[1]? = some c2 ∧
 Q (vT [vU (c2.toNat : Int), vI 2]) h)
 (br ((c1.toNat : Int) == 34)
 (0 ≤ (1 : Int) ∧ ∃ (c3 : UInt8), (l1)[1]? = some c3 ∧
 Q (vT [vU (c3.toNat : Int), vI 2]) h)
 (br ((c1.toNat : Int) == 120)
 (br (decide ((l1.length : Int) ≥ 4))
 (0 ≤ (2 : Int) ∧ ∃ (c4 : UInt8), (l1)[2]? = some c4 ∧
 Tri Tryz.prog 163 [vU (c4.toNat : Int)] h fun v_1 h_1 =>
 ∃ (c5 : Bool), v_1 = vB c5 ∧
 br c5
 (0 ≤ (3 : Int) ∧ ∃ (c6 : UInt8), (l1)[3]? = some c6 ∧
 Tri Tryz.prog 163 [vU (c6.toNat : Int)] h_1 fun v_2 h_2 =>
 ∃ (c7 : Bool), v_2 = vB c7 ∧
 br c7
 (0 ≤ (2 : Int) ∧ ∃ (c8 : UInt8), (l1)[2]? = some c8 ∧
 0 ≤ (3 : Int) ∧ ∃ (c9 : UInt8), (l1)[3]? = some c9 ∧
 Tri Tryz.prog 171 [vU (c8.toNat : Int)] h_2 fun v_3 h_3 =>
 ∃ (i1 : Int), v_3 = vU i1 ∧
 Tri Tryz.prog 171 [vU (c9.toNat : Int)] h_3 fun v_4 h_4 =>
 ∃ (i2 : Int), v_4 = vU i2 ∧
 Q (vT [vU (IntKind.u8.wrap ((IntKind.u8.wrap (i1 * 16)) + i2)), vI 4]) h_4)
 (Q (vT [vU 0, vI 0]) h_2))
 (Q (vT [vU 0, vI 0]) h_1))
 (Q (vT [vU 0, vI 0]) h))
 (Q (vT [vU 0, vI 0]) h)))))))
theorem T147 {l1 : Bs} {h : PHeap} {Q : Value → PHeap → Prop} (hR : R147 l1 h Q) : Tri Tryz.prog 147 [vS l1] h Q :=
 tri_of_dn mixed Tryz.func147 rfl (by kernel_rfl) low147 (rs := [.tmp 2, .tmp 3]) (by kernel_rfl) rfl (Eq.mpr (by kernel_rfl : dnF Tryz.prog Tryz.f147.ntmps d147 [.tmp 2, .tmp 3] [vS l1] h Q = R147 l1 h Q) hR)
abbrev o119_7 : Op := .call { callee := (.builtin .append), args := #[(.tmp 41), (.tmp 43)], argTypes := #[40, 40] }
abbrev o119_11 : Op := .call { callee := (.builtin .append), args := #[(.tmp 16), (.tmp 18)], argTypes := #[40, 40] }
noncomputable def d119 : DCode := up ⟨[(36, .c (.tup [(false, [.int .u8]), (false, [qi])])), (44, .c (.one false [.slice])), (19, .c (.one false [.slice]))], [], [(9, 53, [(4, .slice), (5, qi)], [])]⟩ (low Tryz.prog (fun _ => false) (Tryz.f119.body.getD .skip))
theorem low119 : low Tryz.prog (fun _ => false) (Tryz.f119.body.getD .skip) = some (eC d119) := by kernel_rfl
def R119 (l1 : Bs) (h : PHeap) (Q : Value → PHeap → Prop) : Prop :=
 ∃ (I_1 : Nat → OA → Nat → Nat → Int → PHeap → Prop), (∃ (m2 : Nat), I_1 m2 none 0 0 (1 : Int) h) ∧
 ∀ (m1 : Nat) (a1 : OA) (n1 : Nat) (k1 : Nat) (i1 : Int) (h_1 : PHeap), I_1 m1 a1 n1 k1 i1 h_1 →
 br (decide (i1 < (l1.length : Int)))
 (0 ≤ i1 ∧ ∃ (c1 : UInt8), (l1)[(i1).toNat]? = some c1 ∧
 br ((c1.toNat : Int) == 34)
 (∃ (l2 : Bs), BytesAt h_1 a1 n1 l2 ∧
 Q (vT [vS l2, vI (IntKind.i64.wrap (i1 + 1))]) h_1)
 (br ((c1.toNat : Int) == 92)
 ((0 ≤ i1 ∧ i1 ≤ (l1.length : Int) ∧ (l1.length : Int) ≤ (l1.length : Int)) ∧
 Tri Tryz.prog 147 [vS ((l1.drop (i1).toNat).take ((l1.length : Int).toNat - (i1).toNat))] h_1 fun v_1 h_2 =>
 ∃ (i2 i3 : Int), v_1 = vT [vU i2, vI i3] ∧
 br (i3 == 0)
 (Q (vT [vS [], vI 0]) h_2)
 (∀ (b1 : Nat), h_2 b1 = none → ∀ (h_3 : PHeap), h_3 = h_2.put b1 (.cells ⟨[vU i2]⟩ 5) →
 Raw Tryz.prog (execOp (rho [(41, vL a1 n1 k1), (43, vL (ad b1 0) 1 1)]) (mkO o119_7 40)) h_3 fun v_2 h_4 =>
 ∃ (a2 : OA) (n2 k2 : Nat), v_2 = vL a2 n2 k2 ∧
 ∃ (m3 : Nat), m3 < m1 ∧ I_1 m3 a2 n2 k2 (IntKind.i64.wrap (i1 + i3)) h_4 ∧
 True))
 (br (decide ((c1.toNat : Int) < 32))
 (Q (vT [vS [], vI 0]) h_1)
 (br (decide ((c1.toNat : Int) > 126))
 (Q (vT [vS [], vI 0]) h_1)
 (∀ (b2 : Nat), h_1 b2 = none → ∀ (h_5 : PHeap), h_5 = h_1.put b2 (.cells ⟨[vU (c1.toNat : Int)]⟩ 5) →
 Raw Tryz.prog (execOp (rho [(16, vL a1 n1 k1), (18, vL (ad b2 0) 1 1)]) (mkO o119_11 40)) h_5 fun v_3 h_6 =>
 ∃ (a3 : OA) (n3 k3 : Nat), v_3 = vL a3 n3 k3 ∧
 ∃ (m4 : Nat), m4 < m1 ∧ I_1 m4 a3 n3 k3 (IntKind.i64.wrap (i1 + 1)) h_6 ∧
 True)))))
 (Q (vT [vS [], vI 0]) h_1)
theorem T119 {l1 : Bs} {h : PHeap} {Q : Value → PHeap → Prop} (hR : R119 l1 h Q) : Tri Tryz.prog 119 [vS l1] h Q :=
 tri_of_dn mixed Tryz.func119 rfl (by kernel_rfl) low119 (rs := [.tmp 2, .tmp 3]) (by kernel_rfl) rfl (Eq.mpr (by kernel_rfl : dnF Tryz.prog Tryz.f119.ntmps d119 [.tmp 2, .tmp 3] [vS l1] h Q = R119 l1 h Q) hR)
abbrev o88_6 : Op := .call { callee := (.builtin .append), args := #[(.tmp 35), (.tmp 37)], argTypes := #[124, 124] }
abbrev o88_9 : Op := .call { callee := (.builtin .append), args := #[(.tmp 44), (.tmp 46)], argTypes := #[124, 124] }
abbrev o88_15 : Op := .call { callee := (.builtin .append), args := #[(.tmp 62), (.tmp 65)], argTypes := #[124, 124] }
abbrev o88_19 : Op := .call { callee := (.builtin .append), args := #[(.tmp 86), (.tmp 92)], argTypes := #[124, 124] }
noncomputable def d88 : DCode := up ⟨[(38, .c (.one false [.slice])), (47, .c (.one false [.slice])), (57, .c (.tup [(false, [.str]), (false, [qi])])), (66, .c (.one false [.slice])), (72, .c (.one false [.bool])), (82, .c (.one false [.bool])), (93, .c (.one false [.slice]))], [], [(10, 93, [(4, .slice), (5, qi)], []), (74, 13, [(9, qi)], [])]⟩ (low Tryz.prog (fun _ => false) (Tryz.f88.body.getD .skip))
theorem low88 : low Tryz.prog (fun _ => false) (Tryz.f88.body.getD .skip) = some (eC d88) := by kernel_rfl
def R88 (l1 : Bs) (h : PHeap) (Q : Value → PHeap → Prop) : Prop :=
 ∃ (I_1 : Nat → OA → Nat → Nat → Int → PHeap → Prop), (∃ (m2 : Nat), I_1 m2 none 0 0 (0 : Int) h) ∧
 ∀ (m1 : Nat) (a1 : OA) (n1 : Nat) (k1 : Nat) (i1 : Int) (h_1 : PHeap), I_1 m1 a1 n1 k1 i1 h_1 →
 br (decide (i1 < (l1.length : Int)))
 (0 ≤ i1 ∧ ∃ (c1 : UInt8), (l1)[(i1).toNat]? = some c1 ∧
 br ((c1.toNat : Int) != 59)
 (0 ≤ i1 ∧ ∃ (c2 : UInt8), (l1)[(i1).toNat]? = some c2 ∧
 br ((c2.toNat : Int) == 32)
 (∃ (m3 : Nat), m3 < m1 ∧ I_1 m3 a1 n1 k1 (IntKind.i64.wrap (i1 + 1)) h_1 ∧
 True)
 (br ((c2.toNat : Int) == 9)
 (∃ (m4 : Nat), m4 < m1 ∧ I_1 m4 a1 n1 k1 (IntKind.i64.wrap (i1 + 1)) h_1 ∧
 True)
 (br ((c2.toNat : Int) == 44)
 (∀ (b1 : Nat), h_1 b1 = none → ∀ (h_2 : PHeap), h_2 = h_1.put b1 (.cells ⟨[vI 3, vS [44]]⟩ 134) →
 Raw Tryz.prog (execOp (rho [(35, vL a1 n1 k1), (37, vL (ad b1 0) 1 1)]) (mkO o88_6 124)) h_2 fun v_1 h_3 =>
 ∃ (a2 : OA) (n2 k2 : Nat), v_1 = vL a2 n2 k2 ∧
 ∃ (m5 : Nat), m5 < m1 ∧ I_1 m5 a2 n2 k2 (IntKind.i64.wrap (i1 + 1)) h_3 ∧
 True)
 (br ((c2.toNat : Int) == 58)
 (∀ (b2 : Nat), h_1 b2 = none → ∀ (h_4 : PHeap), h_4 = h_1.put b2 (.cells ⟨[vI 4, vS [58]]⟩ 134) →
 Raw Tryz.prog (execOp (rho [(44, vL a1 n1 k1), (46, vL (ad b2 0) 1 1)]) (mkO o88_9 124)) h_4 fun v_2 h_5 =>
 ∃ (a3 : OA) (n3 k3 : Nat), v_2 = vL a3 n3 k3 ∧
 ∃ (m6 : Nat), m6 < m1 ∧ I_1 m6 a3 n3 k3 (IntKind.i64.wrap (i1 + 1)) h_5 ∧
 True)
 (br ((c2.toNat : Int) == 34)
 ((0 ≤ i1 ∧ i1 ≤ (l1.length : Int) ∧ (l1.length : Int) ≤ (l1.length : Int)) ∧
 Tri Tryz.prog 119 [vS ((l1.drop (i1).toNat).take ((l1.length : Int).toNat - (i1).toNat))] h_1 fun v_3 h_6 =>
 ∃ (l2 : Bs) (i2 : Int), v_3 = vT [vS l2, vI i2] ∧
 br (i2 == 0)
 (Q (vT [vL none 0 0, vI 6]) h_6)
 (∀ (b3 : Nat), h_6 b3 = none → ∀ (h_7 : PHeap), h_7 = h_6.put b3 (.cells ⟨[vI 2, vS l2]⟩ 134) →
 Raw Tryz.prog (execOp (rho [(62, vL a1 n1 k1), (65, vL (ad b3 0) 1 1)]) (mkO o88_15 124)) h_7 fun v_4 h_8 =>
 ∃ (a4 : OA) (n4 k4 : Nat), v_4 = vL a4 n4 k4 ∧
 ∃ (m7 : Nat), m7 < m1 ∧ I_1 m7 a4 n4 k4 (IntKind.i64.wrap (i1 + i2)) h_8 ∧
 True))
 (Tri Tryz.prog 120 [vU (c2.toNat : Int)] h_1 fun v_5 h_9 =>
 ∃ (c3 : Bool), v_5 = vB c3 ∧
 br c3
 (∃ (I_2 : Nat → Int → PHeap → Prop), (∃ (m9 : Nat), I_2 m9 i1 h_9) ∧
 ∀ (m8 : Nat) (i3 : Int) (h_10 : PHeap), I_2 m8 i3 h_10 →
 br (decide (i3 < (l1.length : Int)))
 (0 ≤ i3 ∧ ∃ (c4 : UInt8), (l1)[(i3).toNat]? = some c4 ∧
 Tri Tryz.prog 120 [vU (c4.toNat : Int)] h_10 fun v_6 h_11 =>
 ∃ (c5 : Bool), v_6 = vB c5 ∧
 br c5
 (∃ (m10 : Nat), m10 < m8 ∧ I_2 m10 (IntKind.i64.wrap (i3 + 1)) h_11 ∧
 True)
 ((0 ≤ i1 ∧ i1 ≤ i3 ∧ i3 ≤ (l1.length : Int)) ∧
 ∀ (b4 : Nat), h_11 b4 = none → ∀ (h_12 : PHeap), h_12 = h_11.put b4 (.cells ⟨[vI 1, vS ((l1.drop (i1).toNat).take ((i3).toNat - (i1).toNat))]⟩ 134) →
 Raw Tryz.prog (execOp (rho [(86, vL a1 n1 k1), (92, vL (ad b4 0) 1 1)]) (mkO o88_19 124)) h_12 fun v_7 h_13 =>
 ∃ (a5 : OA) (n5 k5 : Nat), v_7 = vL a5 n5 k5 ∧
 ∃ (m11 : Nat), m11 < m1 ∧ I_1 m11 a5 n5 k5 i3 h_13 ∧
 True))
 ((0 ≤ i1 ∧ i1 ≤ i3 ∧ i3 ≤ (l1.length : Int)) ∧
 ∀ (b5 : Nat), h_10 b5 = none → ∀ (h_14 : PHeap), h_14 = h_10.put b5 (.cells ⟨[vI 1, vS ((l1.drop (i1).toNat).take ((i3).toNat - (i1).toNat))]⟩ 134) →
 Raw Tryz.prog (execOp (rho [(86, vL a1 n1 k1), (92, vL (ad b5 0) 1 1)]) (mkO o88_19 124)) h_14 fun v_8 h_15 =>
 ∃ (a6 : OA) (n6 k6 : Nat), v_8 = vL a6 n6 k6 ∧
 ∃ (m12 : Nat), m12 < m1 ∧ I_1 m12 a6 n6 k6 i3 h_15 ∧
 True))
 (Q (vT [vL none 0 0, vI 6]) h_9)))))))
 (Q (vT [vL a1 n1 k1, vI 0]) h_1))
 (Q (vT [vL a1 n1 k1, vI 0]) h_1)
theorem T88 {l1 : Bs} {h : PHeap} {Q : Value → PHeap → Prop} (hR : R88 l1 h Q) : Tri Tryz.prog 88 [vS l1] h Q :=
 tri_of_dn mixed Tryz.func88 rfl (by kernel_rfl) low88 (rs := [.tmp 2, .tmp 3]) (by kernel_rfl) rfl (Eq.mpr (by kernel_rfl : dnF Tryz.prog Tryz.f88.ntmps d88 [.tmp 2, .tmp 3] [vS l1] h Q = R88 l1 h Q) hR)
noncomputable def d154 : DCode := up ⟨[(40, .c (.one false [qi])), (48, .c (.one false [qi])), (55, .c (.one false [qi])), (61, .c (.one false [qi]))], [], []⟩ (low Tryz.prog (fun _ => false) (Tryz.f154.body.getD .skip))
theorem low154 : low Tryz.prog (fun _ => false) (Tryz.f154.body.getD .skip) = some (eC d154) := by kernel_rfl
def R154 (l1 : Bs) (i1 : Int) (h : PHeap) (Q : Value → PHeap → Prop) : Prop :=
 br (decide ((IntKind.i64.wrap (i1 + 1)) ≥ (l1.length : Int)))
 (Q (vT [vU 0, vI 0]) h)
 (0 ≤ (IntKind.i64.wrap (i1 + 1)) ∧ ∃ (c1 : UInt8), (l1)[(IntKind.i64.wrap (i1 + 1)).toNat]? = some c1 ∧
 br ((c1.toNat : Int) == 110)
 (Q (vT [vU 10, vI 2]) h)
 (br ((c1.toNat : Int) == 116)
 (Q (vT [vU 9, vI 2]) h)
 (br ((c1.toNat : Int) == 48)
 (Q (vT [vU 0, vI 2]) h)
 (br ((c1.toNat : Int) == 92)
 (0 ≤ (IntKind.i64.wrap (i1 + 1)) ∧ ∃ (c2 : UInt8), (l1)[(IntKind.i64.wrap (i1 + 1)).toNat]? = some c2 ∧
 Q (vT [vU (c2.toNat : Int), vI 2]) h)
 (br ((c1.toNat : Int) == 34)
 (0 ≤ (IntKind.i64.wrap (i1 + 1)) ∧ ∃ (c3 : UInt8), (l1)[(IntKind.i64.wrap (i1 + 1)).toNat]? = some c3 ∧
 Q (vT [vU (c3.toNat : Int), vI 2]) h)
 (br ((c1.toNat : Int) == 120)
 (br (decide ((IntKind.i64.wrap (i1 + 3)) < (l1.length : Int)))
 (0 ≤ (IntKind.i64.wrap (i1 + 2)) ∧ ∃ (c4 : UInt8), (l1)[(IntKind.i64.wrap (i1 + 2)).toNat]? = some c4 ∧
 Tri Tryz.prog 173 [vU (c4.toNat : Int)] h fun v_1 h_1 =>
 ∃ (i2 : Int), v_1 = vI i2 ∧
 br (decide (i2 ≥ 0))
 (0 ≤ (IntKind.i64.wrap (i1 + 3)) ∧ ∃ (c5 : UInt8), (l1)[(IntKind.i64.wrap (i1 + 3)).toNat]? = some c5 ∧
 Tri Tryz.prog 173 [vU (c5.toNat : Int)] h_1 fun v_2 h_2 =>
 ∃ (i3 : Int), v_2 = vI i3 ∧
 br (decide (i3 ≥ 0))
 (0 ≤ (IntKind.i64.wrap (i1 + 2)) ∧ ∃ (c6 : UInt8), (l1)[(IntKind.i64.wrap (i1 + 2)).toNat]? = some c6 ∧
 0 ≤ (IntKind.i64.wrap (i1 + 3)) ∧ ∃ (c7 : UInt8), (l1)[(IntKind.i64.wrap (i1 + 3)).toNat]? = some c7 ∧
 Tri Tryz.prog 173 [vU (c6.toNat : Int)] h_2 fun v_3 h_3 =>
 ∃ (i4 : Int), v_3 = vI i4 ∧
 Tri Tryz.prog 173 [vU (c7.toNat : Int)] h_3 fun v_4 h_4 =>
 ∃ (i5 : Int), v_4 = vI i5 ∧
 Q (vT [vU (IntKind.u8.wrap ((IntKind.i64.wrap ((IntKind.i64.wrap (16 * i4)) + i5)))), vI 4]) h_4)
 (Q (vT [vU 0, vI 0]) h_2))
 (Q (vT [vU 0, vI 0]) h_1))
 (Q (vT [vU 0, vI 0]) h))
 (Q (vT [vU 0, vI 0]) h)))))))
theorem T154 {l1 : Bs} {i1 : Int} {h : PHeap} {Q : Value → PHeap → Prop} (hR : R154 l1 i1 h Q) : Tri Tryz.prog 154 [vS l1, vI i1] h Q :=
 tri_of_dn mixed Tryz.func154 rfl (by kernel_rfl) low154 (rs := [.tmp 4, .tmp 5]) (by kernel_rfl) rfl (Eq.mpr (by kernel_rfl : dnF Tryz.prog Tryz.f154.ntmps d154 [.tmp 4, .tmp 5] [vS l1, vI i1] h Q = R154 l1 i1 h Q) hR)
noncomputable def d132 : DCode := up ⟨[(40, .c (.tup [(false, [.int .u8]), (false, [qi])]))], [], [(12, 47, [(6, .str), (7, qi)], [])]⟩ (low Tryz.prog (fun _ => false) (Tryz.f132.body.getD .skip))
theorem low132 : low Tryz.prog (fun _ => false) (Tryz.f132.body.getD .skip) = some (eC d132) := by kernel_rfl
def R132 (l1 : Bs) (i1 : Int) (h : PHeap) (Q : Value → PHeap → Prop) : Prop :=
 ∃ (I_1 : Nat → Bs → Int → PHeap → Prop), (∃ (m2 : Nat), I_1 m2 [] (IntKind.i64.wrap (i1 + 1)) h) ∧
 ∀ (m1 : Nat) (l2 : Bs) (i2 : Int) (h_1 : PHeap), I_1 m1 l2 i2 h_1 →
 br (decide (i2 < (l1.length : Int)))
 (0 ≤ i2 ∧ ∃ (c1 : UInt8), (l1)[(i2).toNat]? = some c1 ∧
 br ((c1.toNat : Int) != 34)
 (0 ≤ i2 ∧ ∃ (c2 : UInt8), (l1)[(i2).toNat]? = some c2 ∧
 br (decide ((c2.toNat : Int) < 32))
 (Q (vT [vS [], vI 0]) h_1)
 (0 ≤ i2 ∧ ∃ (c3 : UInt8), (l1)[(i2).toNat]? = some c3 ∧
 br (decide ((c3.toNat : Int) > 126))
 (Q (vT [vS [], vI 0]) h_1)
 (0 ≤ i2 ∧ ∃ (c4 : UInt8), (l1)[(i2).toNat]? = some c4 ∧
 br ((c4.toNat : Int) == 92)
 (Tri Tryz.prog 154 [vS l1, vI i2] h_1 fun v_1 h_2 =>
 ∃ (i3 i4 : Int), v_1 = vT [vU i3, vI i4] ∧
 br (i4 == 0)
 (Q (vT [vS [], vI 0]) h_2)
 (∀ (b1 : Nat), h_2 b1 = none → ∀ (h_3 : PHeap), h_3 = h_2.put b1 (.cells ⟨[vU i3]⟩ 5) →
 ∃ (l3 : Bs), BytesAt h_3 (ad b1 0) 1 l3 ∧
 l2.length + l3.length ≤ 9223372036854775807 ∧
 ∃ (m3 : Nat), m3 < m1 ∧ I_1 m3 (l2 ++ l3) (IntKind.i64.wrap (i2 + i4)) h_3 ∧
 True))
 (∀ (b2 : Nat), h_1 b2 = none → ∀ (h_4 : PHeap), h_4 = h_1.put b2 (.cells ⟨[vU (c4.toNat : Int)]⟩ 5) →
 ∃ (l4 : Bs), BytesAt h_4 (ad b2 0) 1 l4 ∧
 l2.length + l4.length ≤ 9223372036854775807 ∧
 ∃ (m4 : Nat), m4 < m1 ∧ I_1 m4 (l2 ++ l4) (IntKind.i64.wrap (i2 + 1)) h_4 ∧
 True))))
 (br (decide (i2 ≥ (l1.length : Int)))
 (Q (vT [vS [], vI 0]) h_1)
 (Q (vT [vS l2, vI (IntKind.i64.wrap (i2 + 1))]) h_1)))
 (br (decide (i2 ≥ (l1.length : Int)))
 (Q (vT [vS [], vI 0]) h_1)
 (Q (vT [vS l2, vI (IntKind.i64.wrap (i2 + 1))]) h_1))
theorem T132 {l1 : Bs} {i1 : Int} {h : PHeap} {Q : Value → PHeap → Prop} (hR : R132 l1 i1 h Q) : Tri Tryz.prog 132 [vS l1, vI i1] h Q :=
 tri_of_dn mixed Tryz.func132 rfl (by kernel_rfl) low132 (rs := [.tmp 4, .tmp 5]) (by kernel_rfl) rfl (Eq.mpr (by kernel_rfl : dnF Tryz.prog Tryz.f132.ntmps d132 [.tmp 4, .tmp 5] [vS l1, vI i1] h Q = R132 l1 i1 h Q) hR)
abbrev o94_11 : Op := .call { callee := (.builtin .append), args := #[(.tmp 69), (.tmp 72)], argTypes := #[138, 138] }
abbrev o94_14 : Op := .call { callee := (.builtin .append), args := #[(.tmp 80), (.tmp 86)], argTypes := #[138, 138] }
abbrev o94_19 : Op := .call { callee := (.builtin .append), args := #[(.tmp 100), (.tmp 103)], argTypes := #[138, 138] }
noncomputable def d94 : DCode := up ⟨[(31, .c (.one false [.bool])), (36, .c (.one false [.bool])), (73, .c (.one false [.slice])), (87, .c (.one false [.slice])), (95, .c (.tup [(false, [.str]), (false, [qi])])), (104, .c (.one false [.slice]))], [], [(9, 104, [(4, qi), (2, .slice)], []), (23, 31, [(6, qi)], [])]⟩ (low Tryz.prog (fun _ => false) (Tryz.f94.body.getD .skip))
theorem low94 : low Tryz.prog (fun _ => false) (Tryz.f94.body.getD .skip) = some (eC d94) := by kernel_rfl
def R94 (l1 : Bs) (h : PHeap) (Q : Value → PHeap → Prop) : Prop :=
 ∃ (I_1 : Nat → Int → OA → Nat → Nat → PHeap → Prop), (∃ (m2 : Nat), I_1 m2 (0 : Int) none 0 0 h) ∧
 ∀ (m1 : Nat) (i1 : Int) (a1 : OA) (n1 : Nat) (k1 : Nat) (h_1 : PHeap), I_1 m1 i1 a1 n1 k1 h_1 →
 br (decide (i1 < (l1.length : Int)))
 (0 ≤ i1 ∧ ∃ (c1 : UInt8), (l1)[(i1).toNat]? = some c1 ∧
 br ((c1.toNat : Int) != 59)
 (0 ≤ i1 ∧ ∃ (c2 : UInt8), (l1)[(i1).toNat]? = some c2 ∧
 ∃ (I_2 : Nat → Int → PHeap → Prop), (∃ (m4 : Nat), I_2 m4 i1 h_1) ∧
 ∀ (m3 : Nat) (i2 : Int) (h_2 : PHeap), I_2 m3 i2 h_2 →
 br (decide (i2 < (l1.length : Int)))
 (0 ≤ i2 ∧ ∃ (c3 : UInt8), (l1)[(i2).toNat]? = some c3 ∧
 Tri Tryz.prog 54 [vU (c3.toNat : Int)] h_2 fun v_1 h_3 =>
 ∃ (c4 : Bool), v_1 = vB c4 ∧
 br c4
 (∃ (m5 : Nat), m5 < m3 ∧ I_2 m5 (IntKind.i64.wrap (i2 + 1)) h_3 ∧
 True)
 (0 ≤ i2 ∧ ∃ (c5 : UInt8), (l1)[(i2).toNat]? = some c5 ∧
 Tri Tryz.prog 56 [vU (c5.toNat : Int)] h_3 fun v_2 h_4 =>
 ∃ (c6 : Bool), v_2 = vB c6 ∧
 br c6
 (∃ (m6 : Nat), m6 < m3 ∧ I_2 m6 (IntKind.i64.wrap (i2 + 1)) h_4 ∧
 True)
 (0 ≤ i2 ∧ ∃ (c7 : UInt8), (l1)[(i2).toNat]? = some c7 ∧
 br ((c7.toNat : Int) == 46)
 (∃ (m7 : Nat), m7 < m3 ∧ I_2 m7 (IntKind.i64.wrap (i2 + 1)) h_4 ∧
 True)
 (0 ≤ i2 ∧ ∃ (c8 : UInt8), (l1)[(i2).toNat]? = some c8 ∧
 br ((c8.toNat : Int) == 45)
 (∃ (m8 : Nat), m8 < m3 ∧ I_2 m8 (IntKind.i64.wrap (i2 + 1)) h_4 ∧
 True)
 (br ((c2.toNat : Int) == 32)
 (∃ (m9 : Nat), m9 < m1 ∧ I_1 m9 (IntKind.i64.wrap (i1 + 1)) a1 n1 k1 h_4 ∧
 True)
 (br ((c2.toNat : Int) == 9)
 (∃ (m10 : Nat), m10 < m1 ∧ I_1 m10 (IntKind.i64.wrap (i1 + 1)) a1 n1 k1 h_4 ∧
 True)
 (br ((c2.toNat : Int) == 44)
 (∀ (b1 : Nat), h_4 b1 = none → ∀ (h_5 : PHeap), h_5 = h_4.put b1 (.cells ⟨[vU (c2.toNat : Int), vS []]⟩ 180) →
 Raw Tryz.prog (execOp (rho [(69, vL a1 n1 k1), (72, vL (ad b1 0) 1 1)]) (mkO o94_11 138)) h_5 fun v_3 h_6 =>
 ∃ (a2 : OA) (n2 k2 : Nat), v_3 = vL a2 n2 k2 ∧
 ∃ (m11 : Nat), m11 < m1 ∧ I_1 m11 (IntKind.i64.wrap (i1 + 1)) a2 n2 k2 h_6 ∧
 True)
 (br ((c2.toNat : Int) == 58)
 (∀ (b2 : Nat), h_4 b2 = none → ∀ (h_7 : PHeap), h_7 = h_4.put b2 (.cells ⟨[vU (c2.toNat : Int), vS []]⟩ 180) →
 Raw Tryz.prog (execOp (rho [(69, vL a1 n1 k1), (72, vL (ad b2 0) 1 1)]) (mkO o94_11 138)) h_7 fun v_4 h_8 =>
 ∃ (a3 : OA) (n3 k3 : Nat), v_4 = vL a3 n3 k3 ∧
 ∃ (m12 : Nat), m12 < m1 ∧ I_1 m12 (IntKind.i64.wrap (i1 + 1)) a3 n3 k3 h_8 ∧
 True)
 (br (decide (i2 > i1))
 ((0 ≤ i1 ∧ i1 ≤ i2 ∧ i2 ≤ (l1.length : Int)) ∧
 ∀ (b3 : Nat), h_4 b3 = none → ∀ (h_9 : PHeap), h_9 = h_4.put b3 (.cells ⟨[vU 119, vS ((l1.drop (i1).toNat).take ((i2).toNat - (i1).toNat))]⟩ 180) →
 Raw Tryz.prog (execOp (rho [(80, vL a1 n1 k1), (86, vL (ad b3 0) 1 1)]) (mkO o94_14 138)) h_9 fun v_5 h_10 =>
 ∃ (a4 : OA) (n4 k4 : Nat), v_5 = vL a4 n4 k4 ∧
 ∃ (m13 : Nat), m13 < m1 ∧ I_1 m13 i2 a4 n4 k4 h_10 ∧
 True)
 (br ((c2.toNat : Int) == 34)
 (Tri Tryz.prog 132 [vS l1, vI i1] h_4 fun v_6 h_11 =>
 ∃ (l2 : Bs) (i3 : Int), v_6 = vT [vS l2, vI i3] ∧
 br (i3 == 0)
 (Q (vT [vL none 0 0, vB false]) h_11)
 (∀ (b4 : Nat), h_11 b4 = none → ∀ (h_12 : PHeap), h_12 = h_11.put b4 (.cells ⟨[vU 115, vS l2]⟩ 180) →
 Raw Tryz.prog (execOp (rho [(100, vL a1 n1 k1), (103, vL (ad b4 0) 1 1)]) (mkO o94_19 138)) h_12 fun v_7 h_13 =>
 ∃ (a5 : OA) (n5 k5 : Nat), v_7 = vL a5 n5 k5 ∧
 ∃ (m14 : Nat), m14 < m1 ∧ I_1 m14 i3 a5 n5 k5 h_13 ∧
 True))
 (Q (vT [vL none 0 0, vB false]) h_4)))))))))))
 (br ((c2.toNat : Int) == 32)
 (∃ (m15 : Nat), m15 < m1 ∧ I_1 m15 (IntKind.i64.wrap (i1 + 1)) a1 n1 k1 h_2 ∧
 True)
 (br ((c2.toNat : Int) == 9)
 (∃ (m16 : Nat), m16 < m1 ∧ I_1 m16 (IntKind.i64.wrap (i1 + 1)) a1 n1 k1 h_2 ∧
 True)
 (br ((c2.toNat : Int) == 44)
 (∀ (b5 : Nat), h_2 b5 = none → ∀ (h_14 : PHeap), h_14 = h_2.put b5 (.cells ⟨[vU (c2.toNat : Int), vS []]⟩ 180) →
 Raw Tryz.prog (execOp (rho [(69, vL a1 n1 k1), (72, vL (ad b5 0) 1 1)]) (mkO o94_11 138)) h_14 fun v_8 h_15 =>
 ∃ (a6 : OA) (n6 k6 : Nat), v_8 = vL a6 n6 k6 ∧
 ∃ (m17 : Nat), m17 < m1 ∧ I_1 m17 (IntKind.i64.wrap (i1 + 1)) a6 n6 k6 h_15 ∧
 True)
 (br ((c2.toNat : Int) == 58)
 (∀ (b6 : Nat), h_2 b6 = none → ∀ (h_16 : PHeap), h_16 = h_2.put b6 (.cells ⟨[vU (c2.toNat : Int), vS []]⟩ 180) →
 Raw Tryz.prog (execOp (rho [(69, vL a1 n1 k1), (72, vL (ad b6 0) 1 1)]) (mkO o94_11 138)) h_16 fun v_9 h_17 =>
 ∃ (a7 : OA) (n7 k7 : Nat), v_9 = vL a7 n7 k7 ∧
 ∃ (m18 : Nat), m18 < m1 ∧ I_1 m18 (IntKind.i64.wrap (i1 + 1)) a7 n7 k7 h_17 ∧
 True)
 (br (decide (i2 > i1))
 ((0 ≤ i1 ∧ i1 ≤ i2 ∧ i2 ≤ (l1.length : Int)) ∧
 ∀ (b7 : Nat), h_2 b7 = none → ∀ (h_18 : PHeap), h_18 = h_2.put b7 (.cells ⟨[vU 119, vS ((l1.drop (i1).toNat).take ((i2).toNat - (i1).toNat))]⟩ 180) →
 Raw Tryz.prog (execOp (rho [(80, vL a1 n1 k1), (86, vL (ad b7 0) 1 1)]) (mkO o94_14 138)) h_18 fun v_10 h_19 =>
 ∃ (a8 : OA) (n8 k8 : Nat), v_10 = vL a8 n8 k8 ∧
 ∃ (m19 : Nat), m19 < m1 ∧ I_1 m19 i2 a8 n8 k8 h_19 ∧
 True)
 (br ((c2.toNat : Int) == 34)
 (Tri Tryz.prog 132 [vS l1, vI i1] h_2 fun v_11 h_20 =>
 ∃ (l3 : Bs) (i4 : Int), v_11 = vT [vS l3, vI i4] ∧
 br (i4 == 0)
 (Q (vT [vL none 0 0, vB false]) h_20)
 (∀ (b8 : Nat), h_20 b8 = none → ∀ (h_21 : PHeap), h_21 = h_20.put b8 (.cells ⟨[vU 115, vS l3]⟩ 180) →
 Raw Tryz.prog (execOp (rho [(100, vL a1 n1 k1), (103, vL (ad b8 0) 1 1)]) (mkO o94_19 138)) h_21 fun v_12 h_22 =>
 ∃ (a9 : OA) (n9 k9 : Nat), v_12 = vL a9 n9 k9 ∧
 ∃ (m20 : Nat), m20 < m1 ∧ I_1 m20 i4 a9 n9 k9 h_22 ∧
 True))
 (Q (vT [vL none 0 0, vB false]) h_2))))))))
 (Q (vT [vL a1 n1 k1, vB true]) h_1))
 (Q (vT [vL a1 n1 k1, vB true]) h_1)
theorem T94 {l1 : Bs} {h : PHeap} {Q : Value → PHeap → Prop} (hR : R94 l1 h Q) : Tri Tryz.prog 94 [vS l1] h Q :=
 tri_of_dn mixed Tryz.func94 rfl (by kernel_rfl) low94 (rs := [.tmp 2, .tmp 3]) (by kernel_rfl) rfl (Eq.mpr (by kernel_rfl : dnF Tryz.prog Tryz.f94.ntmps d94 [.tmp 2, .tmp 3] [vS l1] h Q = R94 l1 h Q) hR)
end Go.Proofs.D
namespace Go.As
theorem unq_fuel : ∀ (f g : Nat) (r : Bytes), r.length < f → r.length < g → unq f r = unq g r := by
 intro f
 induction f with
 | zero => intro g r h; omega
 | succ f ih =>
   intro g r hf hg
   obtain ⟨g, rfl⟩ : ∃ k, g = k + 1 := ⟨g - 1, by omega⟩
   match r, hf, hg with
   | [], _, _ => rfl
   | c :: r, hf, hg =>
     simp only [List.length_cons] at hf hg
     rw [unq, unq, ih g r (by omega) (by omega)]
     cases he : escB r with
     | none => rfl
     | some x =>
       obtain ⟨b, r'⟩ := x
       have := escB_len he
       simp only [ih g r' (by omega) (by omega)]
def unq1 (r : Bytes) : Option (Bytes × Bytes) := unq (r.length + 1) r
theorem unq1_nil : unq1 [] = none := rfl
theorem unq1_end (r : Bytes) : unq1 (34 :: r) = some ([], r) := by unfold unq1; rw [unq, if_pos rfl]
theorem unq1_esc (r : Bytes) : unq1 (92 :: r) = match escB r with
 | none => none
 | some (b, r') => (unq1 r').map fun x => (b :: x.1, x.2) := by
 unfold unq1
 rw [unq, if_neg (by decide), if_pos rfl]
 cases he : escB r with
 | none => rfl
 | some x =>
   obtain ⟨b, r'⟩ := x
   have := escB_len he
   simp only [unq_fuel (92 :: r).length (r'.length + 1) r' (by simp; omega) (by omega)]
theorem unq1_byte {c : UInt8} (h1 : c ≠ 34) (h2 : c ≠ 92) (r : Bytes) : unq1 (c :: r) = if c.toNat < 32 ∨ 126 < c.toNat then none else (unq1 r).map fun x => (c :: x.1, x.2) := by
 unfold unq1
 rw [unq, if_neg h1, if_neg h2]; rfl
theorem unq1_len {r x r' : Bytes} (h : unq1 r = some (x, r')) : r'.length < r.length := unq_len h
theorem tokL_end (r : Bytes) : tokensL (59 :: r) = some [] := by unfold tokensL; rw [tokensS, if_pos rfl]
theorem tokL_quote (r : Bytes) : tokensL (34 :: r) = match unq1 r with
 | none => none
 | some (x, r') => (tokensL r').map fun l => ⟨2, x⟩ :: l := by
 unfold tokensL
 rw [tokensS, if_neg (by decide), if_neg (by decide), if_neg (by decide), if_neg (by decide), if_pos rfl]
 show (match unq1 r with | none => none | some (s, r) => _) = _
 cases hu : unq1 r with
 | none => rfl
 | some x =>
   obtain ⟨x, r'⟩ := x
   have := unq1_len hu
   simp only [tok_fuel (34 :: r).length (r'.length + 1) r' (by simp; omega) (by omega)]
theorem tokL_bad {c : UInt8} (h1 : c ≠ 59) (h2 : ¬ (c = 32 ∨ c = 9)) (h3 : c ≠ 44) (h4 : c ≠ 58) (h5 : c ≠ 34) (h6 : wordB c = false) (r : Bytes) : tokensL (c :: r) = none := by
 unfold tokensL
 rw [tokensS, if_neg h1, if_neg h2, if_neg h3, if_neg h4, if_neg h5, if_neg (by simp [h6])]
theorem stop_drop (s : Bytes) : Stop (s.dropWhile wordB) := by
 intro c t e
 induction s with
 | nil => cases e
 | cons x s ih =>
   rw [List.dropWhile_cons] at e
   split at e
   · exact ih e
   · rename_i h; injection e with e _; subst e; simpa using h
theorem tokL_word2 {c : UInt8} (h : wordB c = true) (r : Bytes) : tokensL (c :: r) = (tokensL ((c :: r).dropWhile wordB)).map fun l => ⟨1, (c :: r).takeWhile wordB⟩ :: l := by
 have ha : ((c :: r).takeWhile wordB).all wordB = true := List.all_takeWhile ..
 have hn : (c :: r).takeWhile wordB ≠ [] := by rw [List.takeWhile_cons, if_pos h]; simp
 have := tokL_word ha hn (stop_drop (c :: r))
 rwa [List.takeWhile_append_dropWhile] at this
end Go.As
namespace Go.Proofs.D
open Go Go.Den Go.As
set_option maxRecDepth 100000
attribute [local irreducible] IntKind.wrap Tri
theorem und40 : Tryz.prog.underlying 40 = some (.slice 5) := Tryz.underlying40
theorem und124 : Tryz.prog.underlying 124 = some (.slice 134) := Tryz.underlying124
theorem elem5 : ElemT 5 1 := ⟨_, _, rfl, rfl, rfl, rfl, by decide⟩
theorem elem134 : ElemT 134 2 := ⟨_, _, rfl, rfl, rfl, rfl, by decide⟩
section
variable (h : PHeap)
def escV (r : Bytes) : Value := match escB r with
 | none => vT [vU 0, vI 0]
 | some (b, r') => vT [vU (b.toNat : Int), vI ((r.length + 1 - r'.length : Nat) : Int)]
theorem hex_wrap {a b : UInt8} (ha : hexB a = true) (hb : hexB b = true) : IntKind.u8.wrap (IntKind.u8.wrap ((hexN a : Int) * 16) + (hexN b : Int)) = ((UInt8.ofNat (16 * hexN a + hexN b)).toNat : Int) := by
 have hl : ∀ n : Fin 256, hexB (UInt8.ofNat n.val) = true → hexN (UInt8.ofNat n.val) < 16 := by decide +kernel
 have h1 := hl ⟨a.toNat, a.toNat_lt⟩
 have h2 := hl ⟨b.toNat, b.toNat_lt⟩
 simp only [UInt8.ofNat_toNat] at h1 h2
 have key : ∀ x y : Fin 16, IntKind.u8.wrap (IntKind.u8.wrap ((x.val : Int) * 16) + (y.val : Int)) = ((UInt8.ofNat (16 * x.val + y.val)).toNat : Int) := by decide +kernel
 exact key ⟨_, h1 ha⟩ ⟨_, h2 hb⟩
theorem escape_t (c : UInt8) (r : Bytes) : Tri Tryz.prog 147 [vS (c :: r)] h fun v h' => v = escV r ∧ h' = h := by
 refine T147 ?_
 unfold R147
 match r with
 | [] => exact br_pos rfl ⟨rfl, rfl⟩
 | d :: r =>
   refine br_neg (by simp; omega) ⟨by decide, d, rfl, ?_⟩
   refine br_split (fun e => ?_) fun n1 => br_split (fun e => ?_) fun n2 => br_split (fun e => ?_) fun n3 => br_split (fun e => ?_) fun n4 => br_split (fun e => ?_) fun n5 => br_split (fun e => ?_) fun n6 => ?_
   · obtain rfl : d = 110 := u8_is e
     refine ⟨?_, rfl⟩; simp [escV, escB]; omega
   · obtain rfl : d = 116 := u8_is e
     refine ⟨?_, rfl⟩; simp [escV, escB]; omega
   · obtain rfl : d = 48 := u8_is e
     refine ⟨?_, rfl⟩; simp [escV, escB]; omega
   · obtain rfl : d = 92 := u8_is e
     refine ⟨by decide, 92, rfl, ?_, rfl⟩; simp [escV, escB]; omega
   · obtain rfl : d = 34 := u8_is e
     refine ⟨by decide, 34, rfl, ?_, rfl⟩; simp [escV, escB]; omega
   · obtain rfl : d = 120 := u8_is e
     match r with
     | [] => exact br_neg (by simp) ⟨rfl, rfl⟩
     | [_] => exact br_neg (by simp) ⟨rfl, rfl⟩
     | x :: y :: r =>
       refine br_pos (by simp; omega) ⟨by decide, x, rfl, ?_⟩
       refine Tri.mono (hex_t h x) ?_
       rintro _ h ⟨rfl, rfl⟩
       refine ⟨_, rfl, br_split (fun e1 => ⟨by decide, y, rfl, ?_⟩) fun e1 => ?_⟩
       · refine Tri.mono (hex_t h y) ?_
         rintro _ h ⟨rfl, rfl⟩
         refine ⟨_, rfl, br_split (fun e2 => ⟨by decide, x, rfl, by decide, y, rfl, ?_⟩) fun e2 => ?_⟩
         · refine Tri.mono (hexv_t h x e1) ?_
           rintro _ h ⟨rfl, rfl⟩
           refine ⟨_, rfl, ?_⟩
           refine Tri.mono (hexv_t h y e2) ?_
           rintro _ h ⟨rfl, rfl⟩
           refine ⟨_, rfl, ?_, rfl⟩
           rw [hex_wrap e1 e2]
           have : escB (120 :: x :: y :: r) = some (UInt8.ofNat (16 * hexN x + hexN y), r) := by rw [escB, e1, e2]; rfl
           unfold escV
           rw [this]
           simp; omega
         · have : escB (120 :: x :: y :: r) = none := by rw [escB, e1, e2]; rfl
           unfold escV; rw [this]; exact ⟨rfl, rfl⟩
       · have : escB (120 :: x :: y :: r) = none := by rw [escB, e1]; rfl
         unfold escV; rw [this]; exact ⟨rfl, rfl⟩
   · have : escB (d :: r) = none := by
      unfold escB
      split
      · rename_i e; injection e with e _; subst e; exact absurd n1 (by decide)
      · rename_i e; injection e with e _; subst e; exact absurd n2 (by decide)
      · rename_i e; injection e with e _; subst e; exact absurd n3 (by decide)
      · rename_i e; injection e with e _; subst e; exact absurd n4 (by decide)
      · rename_i e; injection e with e _; subst e; exact absurd n5 (by decide)
      · rename_i e; injection e with e _; subst e; exact absurd n6 (by decide)
      · rfl
     unfold escV; rw [this]; exact ⟨rfl, rfl⟩
def unqV (r : Bytes) : Value := match unq1 r with
 | none => vT [vS [], vI 0]
 | some (x, r') => vT [vS x, vI ((r.length + 1 - r'.length : Nat) : Int)]
def bL (l : Bytes) : List (List Value) := l.map fun c => [byteV c]
theorem bL_app (a b : Bytes) : bL (a ++ b) = bL a ++ bL b := by simp [bL]
theorem bL_flat : ∀ l : Bytes, (bL l).flatten = l.map byteV
 | [] => rfl
 | c :: l => by have := bL_flat l; unfold bL at this ⊢; rw [List.map_cons, List.flatten_cons, this]; rfl
theorem LM.bytes {h0 h : PHeap} {e : Nat} {a : OA} {n k : Nat} {l : Bytes} (hM : LM e 1 h0 h a n k (bL l)) : BytesAt h a n l := by
 have hl := hM.len
 simp only [bL, List.length_map] at hl
 rcases hM.row.2 with ⟨h1, h2⟩ | ⟨b, cap, rest, h1, h2, _, _⟩
 · injection h1 with h1 _ _
   exact .inl ⟨h1, List.eq_nil_of_length_eq_zero (by omega)⟩
 · injection h1 with h1 _ _
   refine .inr ⟨b, 0, h1, hl, ?_⟩
   refine row_lit h2 fun j v hj => ?_
   rw [Nat.zero_add, bL_flat, List.getElem?_append_left (List.getElem?_eq_some_iff.1 hj).1]; exact hj
theorem drop_at {s : Bytes} {j : Nat} {c : UInt8} {r : Bytes} (hd : s.drop j = c :: r) : j < s.length ∧ s[((j : Nat) : Int).toNat]? = some c ∧ s.drop (j + 1) = r ∧ r.length + j + 1 = s.length := by
 have hlt : j < s.length := by
  have := congrArg List.length hd
  simp at this; omega
 rw [List.drop_eq_getElem_cons hlt] at hd
 injection hd with h1 h2
 refine ⟨hlt, by simp [hlt, h1], h2, ?_⟩
 have := congrArg List.length h2
 simp at this; omega
theorem unquote_t (q : UInt8) (r : Bytes) (hl : r.length ≤ 1000000) : Tri Tryz.prog 119 [vS (q :: r)] h fun v h' => v = unqV r ∧ Ext h h' := by
 refine T119 ?_
 unfold R119
 refine ⟨fun m a n k i h' => ∃ (j : Nat) (acc : Bytes), i = ((j + 1 : Nat) : Int) ∧ j + m = r.length ∧ Ext h h' ∧ LM 5 1 h h' a n k (bL acc) ∧ n = acc.length ∧ acc.length ≤ j ∧ unq1 r = (unq1 (r.drop j)).map fun x => (acc ++ x.1, x.2),
  ⟨r.length, 0, [], rfl, by omega, Ext.refl h, LM.nil, rfl, by simp, by cases h : unq1 r <;> simp [h]⟩, ?_⟩
 rintro m a n k _ h1 ⟨j, acc, rfl, hjm, hx, hM, rfl, hac, hu⟩
 cases hd : r.drop j with
 | nil =>
   have hj : r.length ≤ j := by simpa using hd
   refine br_neg (by simp; omega) ?_
   rw [hd, unq1_nil] at hu
   refine ⟨?_, hx⟩
   unfold unqV; rw [hu]; rfl
 | cons c t =>
   obtain ⟨hlt, hg, ht, htl⟩ := drop_at hd
   rw [hd] at hu
   have hg' : (q :: r)[(((j + 1 : Nat) : Int)).toNat]? = some c := by rw [← hg]; simp
   refine br_pos (by simp; omega) ⟨by omega, c, hg', ?_⟩
   refine br_split (fun e => ?_) fun n1 => br_split (fun e => ?_) fun n2 => ?_
   · obtain rfl : c = 34 := u8_is e
     rw [unq1_end] at hu
     refine ⟨acc, hM.bytes, ?_, hx⟩
     unfold unqV; rw [hu]
     simp only [Option.map_some, List.append_nil]
     rw [wrap64 (by omega) (by omega)]
     have : ((j + 1 : Nat) : Int) + 1 = ((r.length + 1 - t.length : Nat) : Int) := by omega
     rw [this]
   · obtain rfl : c = 92 := u8_is e
     refine ⟨⟨by omega, by simp; omega, Int.le_refl _⟩, ?_⟩
     have hsl : ((q :: r).drop (((j + 1 : Nat) : Int)).toNat).take (((q :: r).length : Int).toNat - (((j + 1 : Nat) : Int)).toNat) = 92 :: t := by
      have : (((j + 1 : Nat) : Int)).toNat = j + 1 := Int.toNat_natCast _
      rw [this]
      show List.take _ (r.drop j) = _
      rw [hd, List.take_of_length_le]
      simp; omega
     rw [hsl]
     rw [unq1_esc] at hu
     refine Tri.mono (escape_t h1 92 t) ?_
     rintro _ h1 ⟨rfl, rfl⟩
     unfold escV
     cases he : escB t with
     | none =>
       rw [he] at hu
       refine ⟨0, 0, rfl, br_pos rfl ⟨?_, hx⟩⟩
       unfold unqV; rw [hu]; rfl
     | some x =>
       obtain ⟨b, t'⟩ := x
       rw [he] at hu
       simp only at hu
       have hel := escB_len he
       refine ⟨_, _, rfl, br_neg (by simp; omega) ?_⟩
       intro b1 hb1 h2 hh2
       refine Raw.mono (LM.push und40 elem5 rfl rfl rfl rfl rfl hx hM hb1 hh2 rfl rfl (by omega)) ?_
       rintro _ h3 ⟨b3, cap, rfl, hx3, hM3, _⟩
       have hsuf : ∃ p, t = p ++ t' := by
        clear hu
        unfold escB at he
        split at he
        all_goals first | (simp only [Option.some.injEq, Prod.mk.injEq] at he; obtain ⟨_, rfl⟩ := he; exact ⟨[_], rfl⟩) | skip
        · split at he
          · simp only [Option.some.injEq, Prod.mk.injEq] at he; obtain ⟨_, rfl⟩ := he; exact ⟨[_, _, _], rfl⟩
          · cases he
        · cases he
       obtain ⟨p, rfl⟩ := hsuf
       have hpl : (p ++ t').length = p.length + t'.length := List.length_append
       refine ⟨_, _, _, rfl, m - (p.length + 1), by simp at hel htl; omega, ⟨j + 1 + p.length, acc ++ [b], ?_, by omega, hx3, by rw [bL_app]; exact hM3, by simp, by simp at hel ⊢; omega, ?_⟩, trivial⟩
       · rw [hpl, wrap64 (by omega) (by omega)]; omega
       · have hdrop : r.drop (j + 1 + p.length) = t' := by
          rw [← List.drop_drop, ht, List.drop_left]
         rw [hdrop, hu]
         cases unq1 t' with
         | none => rfl
         | some x => simp
   · have c34 : c ≠ 34 := u8_not (d := 34) n1
     have c92 : c ≠ 92 := u8_not (d := 92) n2
     rw [unq1_byte c34 c92] at hu
     have bad : (c.toNat < 32 ∨ 126 < c.toNat) → vT [vS [], vI 0] = unqV r ∧ Ext h h1 := fun hc => by
      rw [if_pos hc] at hu
      unfold unqV; rw [hu]; exact ⟨rfl, hx⟩
     refine br_split (fun e => bad (.inl ?_)) fun n3 => br_split (fun e => bad (.inr ?_)) fun n4 => ?_
     · have := of_decide_eq_true e; omega
     · have := of_decide_eq_true e; omega
     have n3 := of_decide_eq_false n3
     have n4 := of_decide_eq_false n4
     rw [if_neg (by omega)] at hu
     intro b1 hb1 h2 hh2
     refine Raw.mono (LM.push und40 elem5 rfl rfl rfl rfl rfl hx hM hb1 hh2 rfl rfl (by omega)) ?_
     rintro _ h3 ⟨b3, cap, rfl, hx3, hM3, _⟩
     refine ⟨_, _, _, rfl, m - 1, by omega, ⟨j + 1, acc ++ [c], ?_, by omega, hx3, by rw [bL_app]; exact hM3, by simp, by simp; omega, ?_⟩, trivial⟩
     · rw [wrap64 (by omega) (by omega)]; omega
     · rw [ht, hu]
       cases unq1 t with
       | none => rfl
       | some x => simp
end
end Go.Proofs.D
namespace Go.Proofs.D
open Go Go.Den Go.As
set_option maxRecDepth 100000
attribute [local irreducible] IntKind.wrap Tri
section
variable (h : PHeap)
def tkC (t : Tk) : List Value := [vI t.kind, vS t.text]
def tkL (l : List Tk) : List (List Value) := l.map tkC
theorem tkL_app (a b : List Tk) : tkL (a ++ b) = tkL a ++ tkL b := by simp [tkL]
def TokP (s : Bytes) (v : Value) (h' : PHeap) : Prop := Ext h h' ∧ match tokensL s with
 | none => v = vT [vL none 0 0, vI 6]
 | some ts => ts.length ≤ s.length ∧ ∃ a k, v = vT [vL a ts.length k, vI 0] ∧ LM 134 2 h h' a ts.length k (tkL ts)
theorem take_pre (s : Bytes) : ∀ n, n ≤ (s.takeWhile wordB).length → (s.take n).all wordB = true := by
 intro n hn
 have h1 : s.take n = (s.takeWhile wordB).take n := by
  conv => lhs; rw [← List.takeWhile_append_dropWhile (p := wordB) (l := s)]
  rw [List.take_append_of_le_length hn]
 rw [h1, List.all_eq_true]
 intro x hx
 have := List.all_takeWhile (p := wordB) (l := s)
 rw [List.all_eq_true] at this
 exact this x (List.mem_of_mem_take hx)
theorem word_end {s : Bytes} {n : Nat} (h1 : (s.take n).all wordB = true) (h2 : n ≤ s.length) (h3 : ∀ c t, s.drop n = c :: t → wordB c = false) : s.takeWhile wordB = s.take n ∧ s.dropWhile wordB = s.drop n := by
 have := while_stop (r := s.drop n) h3 (s.take n) h1
 rwa [List.take_append_drop] at this
theorem drop_at' {s : Bytes} {j : Nat} (hlt : j < s.length) : ∃ c r, s.drop j = c :: r ∧ s[((j : Nat) : Int).toNat]? = some c ∧ s.drop (j + 1) = r :=
 ⟨s[j], s.drop (j + 1), List.drop_eq_getElem_cons hlt, by simp [hlt], rfl⟩
theorem tokens_t (s : Bytes) (hl : s.length ≤ 1000000) : Tri Tryz.prog 88 [vS s] h fun v h' => TokP h s v h' := by
 refine T88 ?_
 unfold R88
 refine ⟨fun m a n k i h' => ∃ (j : Nat) (acc : List Tk), i = (j : Int) ∧ j + m = s.length ∧ Ext h h' ∧ LM 134 2 h h' a n k (tkL acc) ∧ n = acc.length ∧ acc.length ≤ j ∧ tokensL s = (tokensL (s.drop j)).map fun l => acc ++ l,
  ⟨s.length, 0, [], rfl, by omega, Ext.refl h, LM.nil, rfl, by simp, by cases h : tokensL s <;> simp [h]⟩, ?_⟩
 rintro m a n k _ h1 ⟨j, acc, rfl, hjm, hx, hM, rfl, hac, hu⟩
 have fin : tokensL (s.drop j) = some [] → TokP h s (vT [vL a acc.length k, vI 0]) h1 := fun ht => by
  rw [ht] at hu
  unfold TokP
  rw [hu]
  simp only [Option.map_some, List.append_nil]
  exact ⟨hx, by omega, a, k, rfl, hM⟩
 have bad : ∀ h2, Ext h h2 → tokensL (s.drop j) = none → TokP h s (vT [vL none 0 0, vI 6]) h2 := fun h2 hx2 ht => by
  rw [ht] at hu
  unfold TokP
  rw [hu]
  exact ⟨hx2, rfl⟩
 by_cases hlt : j < s.length
 · obtain ⟨c, t, hd, hg, ht⟩ := drop_at' hlt
   have htl : t.length + j + 1 = s.length := by
    have := congrArg List.length hd
    simp at this; omega
   rw [hd] at hu fin bad
   refine br_pos (by simp; omega) ⟨by omega, c, hg, ?_⟩
   have hw1 : IntKind.i64.wrap ((j : Int) + 1) = ((j + 1 : Nat) : Int) := by rw [wrap64 (by omega) (by omega)]; omega
   refine br_split (fun n0 => ⟨by omega, c, hg, ?_⟩) fun e => ?_
   rotate_left
   · have : c = 59 := by have := u8_kn c 59 e; simpa using this
     subst this
     exact fin (tokL_end t)
   have c59 : c ≠ 59 := by have := u8_kn c 59 n0; simpa using this
   have blank : (c = 32 ∨ c = 9) → ∃ m3, m3 < m ∧ (∃ (j' : Nat) (acc' : List Tk), IntKind.i64.wrap ((j : Int) + 1) = (j' : Int) ∧ j' + m3 = s.length ∧ Ext h h1 ∧ LM 134 2 h h1 a acc.length k (tkL acc') ∧ acc.length = acc'.length ∧ acc'.length ≤ j' ∧ tokensL s = (tokensL (s.drop j')).map fun l => acc' ++ l) ∧ True := fun hc => by
    refine ⟨m - 1, by omega, ⟨j + 1, acc, hw1, by omega, hx, hM, rfl, by omega, ?_⟩, trivial⟩
    rw [ht, hu, tokL_sp hc]
   refine br_split (fun e => blank (.inl (u8_is (d := 32) e))) fun n1 => br_split (fun e => blank (.inr (u8_is (d := 9) e))) fun n2 => ?_
   have c32 : c ≠ 32 := u8_not (d := 32) n1
   have c9 : c ≠ 9 := u8_not (d := 9) n2
   refine br_split (fun e => ?_) fun n3 => br_split (fun e => ?_) fun n4 => br_split (fun e => ?_) fun n5 => ?_
   · obtain rfl : c = 44 := u8_is e
     intro b1 hb1 h2 hh2
     refine Raw.mono (LM.push und124 elem134 rfl rfl rfl rfl rfl hx hM hb1 hh2 rfl rfl (by omega)) ?_
     rintro _ h3 ⟨b3, cap, rfl, hx3, hM3, _⟩
     refine ⟨_, _, _, rfl, m - 1, by omega, ⟨j + 1, acc ++ [⟨3, [44]⟩], hw1, by omega, hx3, by rw [tkL_app]; exact hM3, by simp, by simp; omega, ?_⟩, trivial⟩
     rw [ht, hu, tokL_comma]
     cases tokensL t <;> simp
   · obtain rfl : c = 58 := u8_is e
     intro b1 hb1 h2 hh2
     refine Raw.mono (LM.push und124 elem134 rfl rfl rfl rfl rfl hx hM hb1 hh2 rfl rfl (by omega)) ?_
     rintro _ h3 ⟨b3, cap, rfl, hx3, hM3, _⟩
     refine ⟨_, _, _, rfl, m - 1, by omega, ⟨j + 1, acc ++ [⟨4, [58]⟩], hw1, by omega, hx3, by rw [tkL_app]; exact hM3, by simp, by simp; omega, ?_⟩, trivial⟩
     rw [ht, hu, tokL_colon]
     cases tokensL t <;> simp
   · obtain rfl : c = 34 := u8_is e
     refine ⟨⟨by omega, by omega, Int.le_refl _⟩, ?_⟩
     have hsl : (s.drop ((j : Nat) : Int).toNat).take ((s.length : Int).toNat - ((j : Nat) : Int).toNat) = 34 :: t := by
      rw [Int.toNat_natCast, Int.toNat_natCast, hd, List.take_of_length_le]
      simp; omega
     rw [hsl]
     rw [tokL_quote] at hu bad
     refine Tri.mono (unquote_t h1 34 t (by omega)) ?_
     rintro _ h2 ⟨rfl, hx2⟩
     unfold unqV
     cases hq : unq1 t with
     | none =>
       rw [hq] at bad
       exact ⟨[], 0, rfl, br_pos rfl (bad h2 (hx.trans hx2) rfl)⟩
     | some x =>
       obtain ⟨x, r'⟩ := x
       rw [hq] at hu
       simp only at hu
       have hql := unq1_len hq
       refine ⟨x, _, rfl, br_neg (by simp; omega) ?_⟩
       intro b1 hb1 h3 hh3
       refine Raw.mono (LM.push und124 elem134 rfl rfl rfl rfl rfl (hx.trans hx2) (hM.ext hx2) hb1 hh3 rfl rfl (by omega)) ?_
       rintro _ h4 ⟨b3, cap, rfl, hx4, hM4, _⟩
       have hsuf : s.drop (j + (t.length + 1 - r'.length)) = r' := by
        have key : ∀ (f : Nat) (r x r' : Bytes), unq f r = some (x, r') → r.drop (r.length - r'.length) = r' := by
         intro f
         induction f with
         | zero => intro r x r' h; simp [unq] at h
         | succ f ih =>
           intro r x r' h
           have hlen := unq_len h
           match r, h, hlen with
           | [], h, _ => simp [unq] at h
           | c :: r, h, hlen =>
             simp only [List.length_cons] at hlen ⊢
             have step : ∀ (p r1 : Bytes), r = p ++ r1 → r1.length - r'.length + r'.length = r1.length → r1.drop (r1.length - r'.length) = r' → (c :: r).drop (r.length + 1 - r'.length) = r' := by
              intro p r1 h1 h2 h3
              have : r.length + 1 - r'.length = (p.length + (r1.length - r'.length)) + 1 := by rw [h1, List.length_append]; omega
              rw [this, List.drop_succ_cons, h1, ← List.drop_drop, List.drop_left, h3]
             rw [unq] at h
             split at h
             · simp only [Option.some.injEq, Prod.mk.injEq] at h; obtain ⟨_, rfl⟩ := h
               rw [show r.length + 1 - r.length = 1 by omega]; rfl
             split at h
             · cases he : escB r with
               | none => rw [he] at h; cases h
               | some y =>
                 obtain ⟨b, r1⟩ := y
                 rw [he] at h
                 simp only [Option.map_eq_some_iff] at h
                 obtain ⟨⟨y, r2⟩, h1, h2⟩ := h
                 simp only [Prod.mk.injEq] at h2
                 obtain ⟨_, rfl⟩ := h2
                 obtain ⟨p, hp⟩ : ∃ p, r = p ++ r1 := by
                  clear h1 step hlen ih
                  unfold escB at he
                  split at he
                  all_goals first | (simp only [Option.some.injEq, Prod.mk.injEq] at he; obtain ⟨_, rfl⟩ := he; exact ⟨[_], rfl⟩) | skip
                  · split at he
                    · simp only [Option.some.injEq, Prod.mk.injEq] at he; obtain ⟨_, rfl⟩ := he; exact ⟨[_, _, _], rfl⟩
                    · cases he
                  · cases he
                 have := unq_len h1
                 exact step p r1 hp (by omega) (ih _ _ _ h1)
             split at h
             · cases h
             · simp only [Option.map_eq_some_iff] at h
               obtain ⟨⟨y, r2⟩, h1, h2⟩ := h
               simp only [Prod.mk.injEq] at h2
               obtain ⟨_, rfl⟩ := h2
               have := unq_len h1
               exact step [] r rfl (by omega) (ih _ _ _ h1)
        have h5 := key _ _ _ _ hq
        have : j + (t.length + 1 - r'.length) = j + 1 + (t.length - r'.length) := by omega
        rw [this, ← List.drop_drop, ht, h5]
       refine ⟨_, _, _, rfl, m - (t.length + 1 - r'.length), by omega, ⟨j + (t.length + 1 - r'.length), acc ++ [⟨2, x⟩], ?_, by omega, hx4, by rw [tkL_app]; exact hM4, by simp, by simp; omega, ?_⟩, trivial⟩
       · rw [wrap64 (by omega) (by omega)]; omega
       · rw [hsuf, hu]
         cases tokensL r' <;> simp
   · have c44 : c ≠ 44 := u8_not (d := 44) n3
     have c58 : c ≠ 58 := u8_not (d := 58) n4
     have c34 : c ≠ 34 := u8_not (d := 34) n5
     refine Tri.mono (word_t h1 c) ?_
     rintro _ h1 ⟨rfl, rfl⟩
     refine ⟨_, rfl, br_split (fun e => ?_) fun e => bad h1 hx (tokL_bad c59 (by rintro (h | h); exact c32 h; exact c9 h) c44 c58 c34 e t)⟩
     have wend : ∀ (i : Nat) (h2 : PHeap) (b1 : Nat) (h3 : PHeap) (o : Call), Ext h h2 → LM 134 2 h h2 a acc.length k (tkL acc) → h2 b1 = none → h3 = h2.put b1 (.cells ⟨[vI 1, vS ((s.drop ((j : Nat) : Int).toNat).take (((i : Nat) : Int).toNat - ((j : Nat) : Int).toNat))]⟩ 134) →
      j < i → i ≤ s.length → ((c :: t).take (i - j)).all wordB = true → (∀ d r, s.drop i = d :: r → wordB d = false) → ∀ {ρ : Operand → Value} {x y : Operand}, o.callee = .builtin .append → o.args = #[x, y] → o.argTypes = #[124, 124] → ρ x = vL a acc.length k → ρ y = vL (ad b1 0) 1 1 →
      Raw Tryz.prog (execOp ρ (mkO (.call o) 124)) h3 fun v_8 h_15 => ∃ (a6 : OA) (n6 k6 : Nat), v_8 = vL a6 n6 k6 ∧ ∃ (m12 : Nat), m12 < m ∧ (∃ (j' : Nat) (acc' : List Tk), ((i : Nat) : Int) = (j' : Int) ∧ j' + m12 = s.length ∧ Ext h h_15 ∧ LM 134 2 h h_15 a6 n6 k6 (tkL acc') ∧ n6 = acc'.length ∧ acc'.length ≤ j' ∧ tokensL s = (tokensL (s.drop j')).map fun l => acc' ++ l) ∧ True := by
      intro i h2 b1 h3 o hx2 hM2 hb1 hh3 hji hil hall hstop ρ x y hc1 hc2 hc3 hr1 hr2
      have hdr : (c :: t).drop (i - j) = s.drop i := by rw [← hd, List.drop_drop, show j + (i - j) = i by omega]
      have hlt2 : (c :: t).length = s.length - j := by rw [← hd, List.length_drop]
      obtain ⟨w1, w2⟩ := word_end (s := c :: t) (n := i - j) hall (by omega) (by rw [hdr]; exact hstop)
      rw [Int.toNat_natCast, Int.toNat_natCast, hd] at hh3
      refine Raw.mono (LM.push und124 elem134 hc1 hc2 hc3 hr1 hr2 hx2 hM2 hb1 hh3 rfl rfl (by omega)) ?_
      rintro _ h4 ⟨b3, cap, rfl, hx4, hM4, _⟩
      refine ⟨_, _, _, rfl, m - (i - j), by omega, ⟨i, acc ++ [⟨1, (c :: t).take (i - j)⟩], rfl, by omega, hx4, by rw [tkL_app]; exact hM4, by simp, by simp; omega, ?_⟩, trivial⟩
      rw [hu, tokL_word2 e, w1, w2, hdr]
      cases tokensL (s.drop i) <;> simp
     refine ⟨fun m2 i h' => ∃ i' : Nat, i = (i' : Int) ∧ i' + m2 = s.length ∧ j ≤ i' ∧ h' = h1 ∧ ((c :: t).take (i' - j)).all wordB = true, ⟨s.length - j, j, rfl, by omega, Nat.le_refl _, rfl, by simp⟩, ?_⟩
     rintro m2 _ h2 ⟨i, rfl, him, hji, rfl, hall⟩
     have hji' : i = j ∨ j < i := by omega
     refine br_split (fun e2 => ?_) fun e2 => ?_
     · have hil : i < s.length := by have := of_decide_eq_true e2; omega
       obtain ⟨d, r, hd2, hg2, hr2⟩ := drop_at' hil
       have hdr : (c :: t).drop (i - j) = d :: r := by rw [← hd, List.drop_drop, show j + (i - j) = i by omega, hd2]
       refine ⟨by omega, d, hg2, ?_⟩
       refine Tri.mono (word_t h2 d) ?_
       rintro _ h2 ⟨rfl, rfl⟩
       refine ⟨_, rfl, br_split (fun e3 => ?_) fun e3 => ?_⟩
       · refine ⟨m2 - 1, by omega, ⟨i + 1, ?_, by omega, by omega, rfl, ?_⟩, trivial⟩
         · rw [wrap64 (by omega) (by omega)]; omega
         · have hlt3 : i - j < (c :: t).length := by
            have := congrArg List.length hdr
            simp at this ⊢; omega
           have : (c :: t)[i - j] = d := by
            have := List.drop_eq_getElem_cons hlt3
            rw [hdr] at this; injection this with this _; exact this.symm
           rw [show i + 1 - j = i - j + 1 by omega, ← List.take_append_getElem hlt3, List.all_append, hall, this]
           simp [e3]
       · have hji2 : j < i := by
          rcases hji' with rfl | hji'
          · rw [hd] at hd2; injection hd2 with hd2 _; subst hd2; rw [e] at e3; cases e3
          · exact hji'
         refine ⟨⟨by omega, by omega, by omega⟩, ?_⟩
         intro b1 hb1 h3 hh3
         exact wend i h2 b1 h3 _ hx hM hb1 hh3 hji2 (by omega) hall (fun d' r' e' => by rw [hd2] at e'; injection e' with e' _; subst e'; exact e3) rfl rfl rfl rfl rfl
     · have hil : i = s.length := by have := of_decide_eq_false e2; omega
       refine ⟨⟨by omega, by omega, by omega⟩, ?_⟩
       intro b1 hb1 h3 hh3
       exact wend i h2 b1 h3 _ hx hM hb1 hh3 (by omega) (by omega) hall (fun d' r' e' => by rw [hil, List.drop_length] at e'; cases e') rfl rfl rfl rfl rfl
 · have hj : j = s.length := by omega
   refine br_neg (by simp; omega) (fin ?_)
   rw [hj, List.drop_length]; rfl
end
end Go.Proofs.D
namespace Go.Proofs.D
open Go Go.Den
set_option maxRecDepth 100000
set_option maxHeartbeats 4000000
abbrev o89_3 : Op := .call { callee := (.builtin .append), args := #[(.tmp 25), (.tmp 30)], argTypes := #[52, 52] }
abbrev o89_11 : Op := .call { callee := (.builtin .append), args := #[(.tmp 67), (.tmp 69)], argTypes := #[124, 124] }
noncomputable def d89 : DCode := up ⟨[(15, .l [qi]), (22, .l [qi]), (29, .l [.str]), (31, .c (.one false [.slice])), (41, .l [qi]), (46, .l [.str]), (55, .l [qi, .str]), (60, .l [qi]), (64, .l [qi]), (68, .l [qi, .str]), (70, .c (.one false [.slice])), (72, .l [qi])], [], [(8, 28, [(2, .slice), (0, .slice)], []), (52, 30, [(2, .slice), (3, .str), (4, .slice), (51, qi)], [])]⟩ (low Tryz.prog (fun _ => false) (Tryz.f89.body.getD .skip))
theorem low89 : low Tryz.prog (fun _ => false) (Tryz.f89.body.getD .skip) = some (eC d89) := by kernel_rfl
def R89 (a1 : OA) (n1 : Nat) (k1 : Nat) (h : PHeap) (Q : Value → PHeap → Prop) : Prop :=
 ∃ (I_1 : Nat → OA → Nat → Nat → OA → Nat → Nat → PHeap → Prop), (∃ (m2 : Nat), I_1 m2 none 0 0 a1 n1 k1 h) ∧
 ∀ (m1 : Nat) (a2 : OA) (n2 : Nat) (k2 : Nat) (a3 : OA) (n3 : Nat) (k3 : Nat) (h_1 : PHeap), I_1 m1 a2 n2 k2 a3 n3 k3 h_1 →
 br (decide (((n3 : Nat) : Int) ≥ 2))
 (∃ (b1 o1 : Nat), a3 = some ⟨b1, o1, none⟩ ∧ (0 ≤ (0 : Int) ∧ (0 : Int) < n3) ∧
 ∃ (i1 : Int), h_1.cell b1 o1 = some (vI i1) ∧
 br (i1 == 1)
 (∃ (b2 o2 : Nat), a3 = some ⟨b2, o2, none⟩ ∧ (0 ≤ (1 : Int) ∧ (1 : Int) < n3) ∧
 ∃ (i2 : Int), h_1.cell b2 (o2 + 2) = some (vI i2) ∧
 br (i2 == 4)
 (∃ (b3 o3 : Nat), a3 = some ⟨b3, o3, none⟩ ∧ (0 ≤ (0 : Int) ∧ (0 : Int) < n3) ∧
 ∃ (l1 : Bs), h_1.cell b3 (o3 + 1) = some (vS l1) ∧
 ∀ (b4 : Nat), h_1 b4 = none → ∀ (h_2 : PHeap), h_2 = h_1.put b4 (.cells ⟨[vS l1]⟩ 9) →
 Raw Tryz.prog (execOp (rho [(25, vL a2 n2 k2), (30, vL (ad b4 0) 1 1)]) (mkO o89_3 52)) h_2 fun v_1 h_3 =>
 ∃ (a4 : OA) (n4 k4 : Nat), v_1 = vL a4 n4 k4 ∧
 (okA a3 n3 k3 ∧ 0 ≤ (2 : Int) ∧ (2 : Int) ≤ ((n3 : Nat) : Int) ∧ ((n3 : Nat) : Int) ≤ k3) ∧ ∀ (a5 : OA), SlA a3 a5 2 k3 2 →
 ∃ (m3 : Nat), m3 < m1 ∧ I_1 m3 a4 n4 k4 a5 (((n3 : Nat) : Int).toNat - 2) (k3 - 2) h_3 ∧
 True)
 (br (((n3 : Nat) : Int) == 0)
 (Q (vT [vL a2 n2 k2, vS [], vL none 0 0, vI 0]) h_1)
 (∃ (b5 o4 : Nat), a3 = some ⟨b5, o4, none⟩ ∧ (0 ≤ (0 : Int) ∧ (0 : Int) < n3) ∧
 ∃ (i3 : Int), h_1.cell b5 o4 = some (vI i3) ∧
 br (i3 != 1)
 (Q (vT [vL none 0 0, vS [], vL none 0 0, vI 30]) h_1)
 (∃ (b6 o5 : Nat), a3 = some ⟨b6, o5, none⟩ ∧ (0 ≤ (0 : Int) ∧ (0 : Int) < n3) ∧
 ∃ (l2 : Bs), h_1.cell b6 (o5 + 1) = some (vS l2) ∧
 (okA a3 n3 k3 ∧ 0 ≤ (1 : Int) ∧ (1 : Int) ≤ ((n3 : Nat) : Int) ∧ ((n3 : Nat) : Int) ≤ k3) ∧ ∀ (a6 : OA), SlA a3 a6 1 k3 2 →
 ∃ (I_2 : Nat → OA → Nat → Nat → Bs → OA → Nat → Nat → Int → PHeap → Prop), (∃ (m5 : Nat), I_2 m5 a2 n2 k2 l2 none 0 0 (0 : Int) h_1) ∧
 ∀ (m4 : Nat) (a7 : OA) (n5 : Nat) (k5 : Nat) (l3 : Bs) (a8 : OA) (n6 : Nat) (k6 : Nat) (i4 : Int) (h_4 : PHeap), I_2 m4 a7 n5 k5 l3 a8 n6 k6 i4 h_4 →
 br (decide (i4 < (((((n3 : Nat) : Int).toNat - 1) : Nat) : Int)))
 (∃ (b7 o6 : Nat), a6 = some ⟨b7, o6, none⟩ ∧ (0 ≤ i4 ∧ i4 < (((((n3 : Nat) : Int).toNat - 1) : Nat) : Int)) ∧
 ∃ (i5 : Int) (l4 : Bs), h_4.row b7 (o6 + (i4).toNat * 2) [vI i5, vS l4] ∧
 br ((Int.tmod i4 2) == 0)
 (br (i5 != 1)
 (br (i5 != 2)
 (Q (vT [vL none 0 0, vS [], vL none 0 0, vI 30]) h_4)
 (∀ (b8 : Nat), h_4 b8 = none → ∀ (h_5 : PHeap), h_5 = h_4.put b8 (.cells ⟨[vI i5, vS l4]⟩ 134) →
 Raw Tryz.prog (execOp (rho [(67, vL a8 n6 k6), (69, vL (ad b8 0) 1 1)]) (mkO o89_11 124)) h_5 fun v_2 h_6 =>
 ∃ (a9 : OA) (n7 k7 : Nat), v_2 = vL a9 n7 k7 ∧
 ∃ (m6 : Nat), m6 < m4 ∧ I_2 m6 a7 n5 k5 l3 a9 n7 k7 (IntKind.i64.wrap (i4 + 1)) h_6 ∧
 True))
 (∀ (b9 : Nat), h_4 b9 = none → ∀ (h_7 : PHeap), h_7 = h_4.put b9 (.cells ⟨[vI i5, vS l4]⟩ 134) →
 Raw Tryz.prog (execOp (rho [(67, vL a8 n6 k6), (69, vL (ad b9 0) 1 1)]) (mkO o89_11 124)) h_7 fun v_3 h_8 =>
 ∃ (a10 : OA) (n8 k8 : Nat), v_3 = vL a10 n8 k8 ∧
 ∃ (m7 : Nat), m7 < m4 ∧ I_2 m7 a7 n5 k5 l3 a10 n8 k8 (IntKind.i64.wrap (i4 + 1)) h_8 ∧
 True))
 (br (i5 != 3)
 (Q (vT [vL none 0 0, vS [], vL none 0 0, vI 30]) h_4)
 (∃ (m8 : Nat), m8 < m4 ∧ I_2 m8 a7 n5 k5 l3 a8 n6 k6 (IntKind.i64.wrap (i4 + 1)) h_4 ∧
 True)))
 (br (decide ((((((n3 : Nat) : Int).toNat - 1) : Nat) : Int) > 0))
 (br ((Int.tmod (((((n3 : Nat) : Int).toNat - 1) : Nat) : Int) 2) == 0)
 (Q (vT [vL none 0 0, vS [], vL none 0 0, vI 30]) h_4)
 (Q (vT [vL a7 n5 k5, vS l3, vL a8 n6 k6, vI 0]) h_4))
 (Q (vT [vL a7 n5 k5, vS l3, vL a8 n6 k6, vI 0]) h_4))))))
 (br (((n3 : Nat) : Int) == 0)
 (Q (vT [vL a2 n2 k2, vS [], vL none 0 0, vI 0]) h_1)
 (∃ (b10 o7 : Nat), a3 = some ⟨b10, o7, none⟩ ∧ (0 ≤ (0 : Int) ∧ (0 : Int) < n3) ∧
 ∃ (i6 : Int), h_1.cell b10 o7 = some (vI i6) ∧
 br (i6 != 1)
 (Q (vT [vL none 0 0, vS [], vL none 0 0, vI 30]) h_1)
 (∃ (b11 o8 : Nat), a3 = some ⟨b11, o8, none⟩ ∧ (0 ≤ (0 : Int) ∧ (0 : Int) < n3) ∧
 ∃ (l5 : Bs), h_1.cell b11 (o8 + 1) = some (vS l5) ∧
 (okA a3 n3 k3 ∧ 0 ≤ (1 : Int) ∧ (1 : Int) ≤ ((n3 : Nat) : Int) ∧ ((n3 : Nat) : Int) ≤ k3) ∧ ∀ (a11 : OA), SlA a3 a11 1 k3 2 →
 ∃ (I_3 : Nat → OA → Nat → Nat → Bs → OA → Nat → Nat → Int → PHeap → Prop), (∃ (m10 : Nat), I_3 m10 a2 n2 k2 l5 none 0 0 (0 : Int) h_1) ∧
 ∀ (m9 : Nat) (a12 : OA) (n9 : Nat) (k9 : Nat) (l6 : Bs) (a13 : OA) (n10 : Nat) (k10 : Nat) (i7 : Int) (h_9 : PHeap), I_3 m9 a12 n9 k9 l6 a13 n10 k10 i7 h_9 →
 br (decide (i7 < (((((n3 : Nat) : Int).toNat - 1) : Nat) : Int)))
 (∃ (b12 o9 : Nat), a11 = some ⟨b12, o9, none⟩ ∧ (0 ≤ i7 ∧ i7 < (((((n3 : Nat) : Int).toNat - 1) : Nat) : Int)) ∧
 ∃ (i8 : Int) (l7 : Bs), h_9.row b12 (o9 + (i7).toNat * 2) [vI i8, vS l7] ∧
 br ((Int.tmod i7 2) == 0)
 (br (i8 != 1)
 (br (i8 != 2)
 (Q (vT [vL none 0 0, vS [], vL none 0 0, vI 30]) h_9)
 (∀ (b13 : Nat), h_9 b13 = none → ∀ (h_10 : PHeap), h_10 = h_9.put b13 (.cells ⟨[vI i8, vS l7]⟩ 134) →
 Raw Tryz.prog (execOp (rho [(67, vL a13 n10 k10), (69, vL (ad b13 0) 1 1)]) (mkO o89_11 124)) h_10 fun v_4 h_11 =>
 ∃ (a14 : OA) (n11 k11 : Nat), v_4 = vL a14 n11 k11 ∧
 ∃ (m11 : Nat), m11 < m9 ∧ I_3 m11 a12 n9 k9 l6 a14 n11 k11 (IntKind.i64.wrap (i7 + 1)) h_11 ∧
 True))
 (∀ (b14 : Nat), h_9 b14 = none → ∀ (h_12 : PHeap), h_12 = h_9.put b14 (.cells ⟨[vI i8, vS l7]⟩ 134) →
 Raw Tryz.prog (execOp (rho [(67, vL a13 n10 k10), (69, vL (ad b14 0) 1 1)]) (mkO o89_11 124)) h_12 fun v_5 h_13 =>
 ∃ (a15 : OA) (n12 k12 : Nat), v_5 = vL a15 n12 k12 ∧
 ∃ (m12 : Nat), m12 < m9 ∧ I_3 m12 a12 n9 k9 l6 a15 n12 k12 (IntKind.i64.wrap (i7 + 1)) h_13 ∧
 True))
 (br (i8 != 3)
 (Q (vT [vL none 0 0, vS [], vL none 0 0, vI 30]) h_9)
 (∃ (m13 : Nat), m13 < m9 ∧ I_3 m13 a12 n9 k9 l6 a13 n10 k10 (IntKind.i64.wrap (i7 + 1)) h_9 ∧
 True)))
 (br (decide ((((((n3 : Nat) : Int).toNat - 1) : Nat) : Int) > 0))
 (br ((Int.tmod (((((n3 : Nat) : Int).toNat - 1) : Nat) : Int) 2) == 0)
 (Q (vT [vL none 0 0, vS [], vL none 0 0, vI 30]) h_9)
 (Q (vT [vL a12 n9 k9, vS l6, vL a13 n10 k10, vI 0]) h_9))
 (Q (vT [vL a12 n9 k9, vS l6, vL a13 n10 k10, vI 0]) h_9))))))
 (br (((n3 : Nat) : Int) == 0)
 (Q (vT [vL a2 n2 k2, vS [], vL none 0 0, vI 0]) h_1)
 (∃ (b15 o10 : Nat), a3 = some ⟨b15, o10, none⟩ ∧ (0 ≤ (0 : Int) ∧ (0 : Int) < n3) ∧
 ∃ (i9 : Int), h_1.cell b15 o10 = some (vI i9) ∧
 br (i9 != 1)
 (Q (vT [vL none 0 0, vS [], vL none 0 0, vI 30]) h_1)
 (∃ (b16 o11 : Nat), a3 = some ⟨b16, o11, none⟩ ∧ (0 ≤ (0 : Int) ∧ (0 : Int) < n3) ∧
 ∃ (l8 : Bs), h_1.cell b16 (o11 + 1) = some (vS l8) ∧
 (okA a3 n3 k3 ∧ 0 ≤ (1 : Int) ∧ (1 : Int) ≤ ((n3 : Nat) : Int) ∧ ((n3 : Nat) : Int) ≤ k3) ∧ ∀ (a16 : OA), SlA a3 a16 1 k3 2 →
 ∃ (I_4 : Nat → OA → Nat → Nat → Bs → OA → Nat → Nat → Int → PHeap → Prop), (∃ (m15 : Nat), I_4 m15 a2 n2 k2 l8 none 0 0 (0 : Int) h_1) ∧
 ∀ (m14 : Nat) (a17 : OA) (n13 : Nat) (k13 : Nat) (l9 : Bs) (a18 : OA) (n14 : Nat) (k14 : Nat) (i10 : Int) (h_14 : PHeap), I_4 m14 a17 n13 k13 l9 a18 n14 k14 i10 h_14 →
 br (decide (i10 < (((((n3 : Nat) : Int).toNat - 1) : Nat) : Int)))
 (∃ (b17 o12 : Nat), a16 = some ⟨b17, o12, none⟩ ∧ (0 ≤ i10 ∧ i10 < (((((n3 : Nat) : Int).toNat - 1) : Nat) : Int)) ∧
 ∃ (i11 : Int) (l10 : Bs), h_14.row b17 (o12 + (i10).toNat * 2) [vI i11, vS l10] ∧
 br ((Int.tmod i10 2) == 0)
 (br (i11 != 1)
 (br (i11 != 2)
 (Q (vT [vL none 0 0, vS [], vL none 0 0, vI 30]) h_14)
 (∀ (b18 : Nat), h_14 b18 = none → ∀ (h_15 : PHeap), h_15 = h_14.put b18 (.cells ⟨[vI i11, vS l10]⟩ 134) →
 Raw Tryz.prog (execOp (rho [(67, vL a18 n14 k14), (69, vL (ad b18 0) 1 1)]) (mkO o89_11 124)) h_15 fun v_6 h_16 =>
 ∃ (a19 : OA) (n15 k15 : Nat), v_6 = vL a19 n15 k15 ∧
 ∃ (m16 : Nat), m16 < m14 ∧ I_4 m16 a17 n13 k13 l9 a19 n15 k15 (IntKind.i64.wrap (i10 + 1)) h_16 ∧
 True))
 (∀ (b19 : Nat), h_14 b19 = none → ∀ (h_17 : PHeap), h_17 = h_14.put b19 (.cells ⟨[vI i11, vS l10]⟩ 134) →
 Raw Tryz.prog (execOp (rho [(67, vL a18 n14 k14), (69, vL (ad b19 0) 1 1)]) (mkO o89_11 124)) h_17 fun v_7 h_18 =>
 ∃ (a20 : OA) (n16 k16 : Nat), v_7 = vL a20 n16 k16 ∧
 ∃ (m17 : Nat), m17 < m14 ∧ I_4 m17 a17 n13 k13 l9 a20 n16 k16 (IntKind.i64.wrap (i10 + 1)) h_18 ∧
 True))
 (br (i11 != 3)
 (Q (vT [vL none 0 0, vS [], vL none 0 0, vI 30]) h_14)
 (∃ (m18 : Nat), m18 < m14 ∧ I_4 m18 a17 n13 k13 l9 a18 n14 k14 (IntKind.i64.wrap (i10 + 1)) h_14 ∧
 True)))
 (br (decide ((((((n3 : Nat) : Int).toNat - 1) : Nat) : Int) > 0))
 (br ((Int.tmod (((((n3 : Nat) : Int).toNat - 1) : Nat) : Int) 2) == 0)
 (Q (vT [vL none 0 0, vS [], vL none 0 0, vI 30]) h_14)
 (Q (vT [vL a17 n13 k13, vS l9, vL a18 n14 k14, vI 0]) h_14))
 (Q (vT [vL a17 n13 k13, vS l9, vL a18 n14 k14, vI 0]) h_14)))))
theorem T89 {a1 : OA} {n1 : Nat} {k1 : Nat} {h : PHeap} {Q : Value → PHeap → Prop} (hR : R89 a1 n1 k1 h Q) : Tri Tryz.prog 89 [vL a1 n1 k1] h Q :=
 tri_of_dn mixed Tryz.func89 rfl (by kernel_rfl) low89 (rs := [.tmp 2, .tmp 3, .tmp 4, .tmp 5]) (by kernel_rfl) rfl (Eq.mpr (by kernel_rfl : dnF Tryz.prog Tryz.f89.ntmps d89 [.tmp 2, .tmp 3, .tmp 4, .tmp 5] [vL a1 n1 k1] h Q = R89 a1 n1 k1 h Q) hR)
end Go.Proofs.D
namespace Go.As
def opsG : Nat → List Tk → Option (List Tk)
 | _, [] => some []
 | i, t :: l => if i % 2 = 0 then (if t.kind = 1 ∨ t.kind = 2 then (opsG (i + 1) l).map (t :: ·) else none) else (if t.kind = 3 then opsG (i + 1) l else none)
theorem opsG_two : ∀ (l : List Tk) (i : Nat), opsG (i + 2) l = opsG i l
 | [], _ => rfl
 | t :: l, i => by
   rw [opsG, opsG, show i + 2 + 1 = i + 1 + 2 by omega, opsG_two l (i + 1), show (i + 2) % 2 = i % 2 by omega]
theorem operands_ops : ∀ (l : List Tk), operandsS l = if 0 < l.length ∧ l.length % 2 = 0 then none else opsG 0 l
 | [] => rfl
 | [t] => by
   rw [if_neg (by simp)]
   simp only [operandsS, opsG]
   split <;> simp
 | [t, u] => by rw [if_pos (by simp)]; rfl
 | t :: u :: v :: l => by
   have ih := operands_ops (v :: l)
   have e2 : opsG 1 (u :: v :: l) = if u.kind = 3 then opsG 0 (v :: l) else none := by
    rw [opsG, if_neg (by decide : ¬ 1 % 2 = 0), ← opsG_two (v :: l) 0]
   have e : opsG 0 (t :: u :: v :: l) = if t.kind = 1 ∨ t.kind = 2 then (opsG 1 (u :: v :: l)).map (t :: ·) else none := by
    rw [opsG, if_pos (by decide : 0 % 2 = 0)]
   have L : operandsS (t :: u :: v :: l) = if (t.kind = 1 ∨ t.kind = 2) ∧ u.kind = 3 then (operandsS (v :: l)).map fun x => t :: x else none := rfl
   have hc : (0 < (t :: u :: v :: l).length ∧ (t :: u :: v :: l).length % 2 = 0) ↔ (0 < (v :: l).length ∧ (v :: l).length % 2 = 0) := by simp only [List.length_cons]; omega
   rw [L, ih, e, e2]
   generalize opsG 0 (v :: l) = r
   by_cases hp : 0 < (v :: l).length ∧ (v :: l).length % 2 = 0
   · rw [if_pos hp, if_pos (hc.2 hp)]; simp
   · rw [if_neg hp, if_neg (fun h => hp (hc.1 h))]
     by_cases h1 : t.kind = 1 ∨ t.kind = 2 <;> by_cases h2 : u.kind = 3 <;> simp only [h1, h2, and_self, and_false, false_and, if_true, if_false, Option.map_none]
theorem splitL_label {t u : Tk} {l : List Tk} (h1 : t.kind = 1) (h2 : u.kind = 4) : splitL (t :: u :: l) = (splitL l).map fun x => (t.text :: x.1, x.2) := by
 rw [splitL, if_neg (by simp [h1]), if_pos h2]
theorem splitL_bad {t : Tk} {l : List Tk} (h : t.kind ≠ 1) : splitL (t :: l) = none := by
 cases l <;> rw [splitL, if_pos h]
theorem splitL_stmt {t : Tk} {l : List Tk} (h : t.kind = 1) (h2 : ∀ u r, l = u :: r → u.kind ≠ 4) : splitL (t :: l) = (operandsS l).map fun x => ([], some (t.text, x)) := by
 cases l with
 | nil => rw [splitL, if_neg (by simp [h])]; rfl
 | cons u r => rw [splitL, if_neg (by simp [h]), if_neg (h2 u r rfl)]
end Go.As
namespace Go.Proofs.D
open Go Go.Den Go.As
set_option maxRecDepth 100000
attribute [local irreducible] IntKind.wrap Tri
theorem und52 : Tryz.prog.underlying 52 = some (.slice 9) := rfl
theorem elem9 : ElemT 9 1 := ⟨_, _, rfl, rfl, rfl, rfl, by decide⟩
def TkAt (h : PHeap) (a : OA) (ts : List Tk) : Prop := ts = [] ∨ ∃ b o, a = ad b o ∧ ∀ j t, ts[j]? = some t → h.row b (o + j * 2) (tkC t)
def sL (l : List Bytes) : List (List Value) := l.map fun x => [vS x]
theorem sL_app (a b : List Bytes) : sL (a ++ b) = sL a ++ sL b := by simp [sL]
section
variable {h h' : PHeap} {a : OA} {ts : List Tk}
theorem TkAt.ext (x : Ext h h') (ht : TkAt h a ts) : TkAt h' a ts := by
 rcases ht with ht | ⟨b, o, ha, ht⟩
 · exact .inl ht
 · exact .inr ⟨b, o, ha, fun j t hj => row_ext (fun ob => x b ob) (ht j t hj)⟩
theorem LM.tk {h0 : PHeap} {n k : Nat} (hM : LM 134 2 h0 h a n k (tkL ts)) : TkAt h a ts := by
 have hl := hM.len
 simp only [tkL, List.length_map] at hl
 rcases hM.row.2 with ⟨h1, h2⟩ | ⟨b, cap, rest, h1, h2, _, _⟩
 · exact .inl (List.eq_nil_of_length_eq_zero (by omega))
 · injection h1 with h1 _ _
   refine .inr ⟨b, 0, h1, fun j t hj => ?_⟩
   have hcs : (tkL ts)[j]? = some (tkC t) := by simp [tkL, hj]
   refine row_lit h2 fun i v hv => ?_
   have := flatten_row (k := 2) (css := tkL ts) (j := j) (cs := tkC t) (fun i c hc => hM.each i c hc) hcs i v hv
   rw [Nat.zero_add, List.getElem?_append_left (List.getElem?_eq_some_iff.1 this).1]
   exact this
theorem TkAt.get (ht : TkAt h a ts) {j : Nat} {t : Tk} (hj : ts[j]? = some t) : ∃ b o, a = some ⟨b, o, none⟩ ∧ h.row b (o + j * 2) (tkC t) := by
 rcases ht with rfl | ⟨b, o, ha, ht⟩
 · simp at hj
 · exact ⟨b, o, ha, ht j t hj⟩
theorem TkAt.drop (ht : TkAt h a ts) {k i : Nat} (hk : ts.length ≤ k) {a' : OA} (hs : SlA a a' i k 2) : TkAt h a' (ts.drop i) := by
 by_cases hi : i < ts.length
 · rcases ht with rfl | ⟨b, o, rfl, ht⟩
   · simp at hi
   · obtain ⟨o', h1, h2⟩ := hs.1 b o rfl
     refine .inr ⟨b, o', h1, fun j t hj => ?_⟩
     rw [List.getElem?_drop] at hj
     rw [h2 (.inl (by omega)), Nat.add_assoc, ← Nat.add_mul]
     exact ht _ _ hj
 · exact .inl (by simp; omega)
theorem okA_of (ht : TkAt h a ts) {k : Nat} (hk : ts.length ≤ k) (h0 : ts = [] → okA a 0 k) : okA a ts.length k := by
 rcases ht with rfl | ⟨b, o, rfl, _⟩
 · exact h0 rfl
 · exact .inl ⟨b, o, rfl⟩
theorem row_hd {b o : Nat} {x y : Value} (hr : h.row b o [x, y]) : h.cell b o = some x ∧ h.cell b (o + 1) = some y := hr
end
theorem LM.base {e k : Nat} {h0 h1 h : PHeap} {a : OA} {n c : Nat} {css : List (List Value)} (x : Ext h0 h1) (hM : LM e k h1 h a n c css) : LM e k h0 h a n c css :=
 ⟨fun b hb => ⟨x.dom b (hM.own b hb).1, (hM.own b hb).2⟩, hM.len, hM.each, hM.row, hM.emp⟩
theorem kind_t {k : Nat} {n : Nat} {b : Bool} (e : ((k : Int) != (n : Int)) = b) : (k = n ↔ b = false) := by
 subst e; simp; omega
section
variable (h : PHeap)
def ParP (ts : List Tk) (v : Value) (h' : PHeap) : Prop := Ext h h' ∧ match splitL ts with
 | none => v = vT [vL none 0 0, vS [], vL none 0 0, vI 30]
 | some (ls, none) => ∃ a k, v = vT [vL a ls.length k, vS [], vL none 0 0, vI 0] ∧ LM 9 1 h h' a ls.length k (sL ls)
 | some (ls, some (n, os)) => ∃ a k a2 k2, v = vT [vL a ls.length k, vS n, vL a2 os.length k2, vI 0] ∧ LM 9 1 h h' a ls.length k (sL ls) ∧ LM 134 2 h h' a2 os.length k2 (tkL os)
def tail89 (a2 : OA) (n2 k2 : Nat) (a3 : OA) (n3 k3 : Nat) (h_1 : PHeap) (Q : Value → PHeap → Prop) : Prop :=
 br (((n3 : Nat) : Int) == 0)
 (Q (vT [vL a2 n2 k2, vS [], vL none 0 0, vI 0]) h_1)
 (∃ (b5 o4 : Nat), a3 = some ⟨b5, o4, none⟩ ∧ (0 ≤ (0 : Int) ∧ (0 : Int) < n3) ∧
 ∃ (i3 : Int), h_1.cell b5 o4 = some (vI i3) ∧
 br (i3 != 1)
 (Q (vT [vL none 0 0, vS [], vL none 0 0, vI 30]) h_1)
 (∃ (b6 o5 : Nat), a3 = some ⟨b6, o5, none⟩ ∧ (0 ≤ (0 : Int) ∧ (0 : Int) < n3) ∧
 ∃ (l2 : Bs), h_1.cell b6 (o5 + 1) = some (vS l2) ∧
 (okA a3 n3 k3 ∧ 0 ≤ (1 : Int) ∧ (1 : Int) ≤ ((n3 : Nat) : Int) ∧ ((n3 : Nat) : Int) ≤ k3) ∧ ∀ (a6 : OA), SlA a3 a6 1 k3 2 →
 ∃ (I_2 : Nat → OA → Nat → Nat → Bs → OA → Nat → Nat → Int → PHeap → Prop), (∃ (m5 : Nat), I_2 m5 a2 n2 k2 l2 none 0 0 (0 : Int) h_1) ∧
 ∀ (m4 : Nat) (a7 : OA) (n5 : Nat) (k5 : Nat) (l3 : Bs) (a8 : OA) (n6 : Nat) (k6 : Nat) (i4 : Int) (h_4 : PHeap), I_2 m4 a7 n5 k5 l3 a8 n6 k6 i4 h_4 →
 br (decide (i4 < (((((n3 : Nat) : Int).toNat - 1) : Nat) : Int)))
 (∃ (b7 o6 : Nat), a6 = some ⟨b7, o6, none⟩ ∧ (0 ≤ i4 ∧ i4 < ((((((n3 : Nat) : Int).toNat - 1)) : Nat) : Int)) ∧
 ∃ (i5 : Int) (l4 : Bs), h_4.row b7 (o6 + (i4).toNat * 2) [vI i5, vS l4] ∧
 br ((Int.tmod i4 2) == 0)
 (br (i5 != 1)
 (br (i5 != 2)
 (Q (vT [vL none 0 0, vS [], vL none 0 0, vI 30]) h_4)
 (∀ (b8 : Nat), h_4 b8 = none → ∀ (h_5 : PHeap), h_5 = h_4.put b8 (.cells ⟨[vI i5, vS l4]⟩ 134) →
 Raw Tryz.prog (execOp (rho [(67, vL a8 n6 k6), (69, vL (ad b8 0) 1 1)]) (mkO o89_11 124)) h_5 fun v_2 h_6 =>
 ∃ (a9 : OA) (n7 k7 : Nat), v_2 = vL a9 n7 k7 ∧
 ∃ (m6 : Nat), m6 < m4 ∧ I_2 m6 a7 n5 k5 l3 a9 n7 k7 (IntKind.i64.wrap (i4 + 1)) h_6 ∧
 True))
 (∀ (b9 : Nat), h_4 b9 = none → ∀ (h_7 : PHeap), h_7 = h_4.put b9 (.cells ⟨[vI i5, vS l4]⟩ 134) →
 Raw Tryz.prog (execOp (rho [(67, vL a8 n6 k6), (69, vL (ad b9 0) 1 1)]) (mkO o89_11 124)) h_7 fun v_3 h_8 =>
 ∃ (a10 : OA) (n8 k8 : Nat), v_3 = vL a10 n8 k8 ∧
 ∃ (m7 : Nat), m7 < m4 ∧ I_2 m7 a7 n5 k5 l3 a10 n8 k8 (IntKind.i64.wrap (i4 + 1)) h_8 ∧
 True))
 (br (i5 != 3)
 (Q (vT [vL none 0 0, vS [], vL none 0 0, vI 30]) h_4)
 (∃ (m8 : Nat), m8 < m4 ∧ I_2 m8 a7 n5 k5 l3 a8 n6 k6 (IntKind.i64.wrap (i4 + 1)) h_4 ∧
 True)))
 (br (decide ((((((n3 : Nat) : Int).toNat - 1) : Nat) : Int) > 0))
 (br ((Int.tmod (((((n3 : Nat) : Int).toNat - 1) : Nat) : Int) 2) == 0)
 (Q (vT [vL none 0 0, vS [], vL none 0 0, vI 30]) h_4)
 (Q (vT [vL a7 n5 k5, vS l3, vL a8 n6 k6, vI 0]) h_4))
 (Q (vT [vL a7 n5 k5, vS l3, vL a8 n6 k6, vI 0]) h_4))))
theorem tmod2 (j : Nat) : (Int.tmod (j : Int) 2 == 0) = decide (j % 2 = 0) := by
 have : Int.tmod (j : Int) 2 = ((j % 2 : Nat) : Int) := rfl
 rw [this, Bool.eq_iff_iff]; simp; omega
theorem tail_89 {ts0 rem : List Tk} {acc : List Bytes} {a2 a3 : OA} {k2 k3 : Nat} {h1 : PHeap} (hsp : splitL ts0 = (splitL rem).map fun x => (acc ++ x.1, x.2)) (hlen : rem.length ≤ 1000000) (hx : Ext h h1) (hM : LM 9 1 h h1 a2 acc.length k2 (sL acc)) (hT : TkAt h a3 rem)
 (hk3 : rem.length ≤ k3) (hok : okA a3 rem.length k3) (hno : ∀ t u l, rem = t :: u :: l → ¬ (t.kind = 1 ∧ u.kind = 4)) : tail89 a2 acc.length k2 a3 rem.length k3 h1 (ParP h ts0) := by
 unfold tail89
 match rem, hsp, hlen, hT, hk3, hok, hno with
 | [], hsp, _, _, _, _, _ =>
   refine br_pos rfl ⟨hx, ?_⟩
   rw [hsp]
   simp only [splitL, Option.map_some, List.append_nil]
   exact ⟨a2, k2, rfl, hM⟩
 | t :: l, hsp, hlen, hT, hk3, hok, hno =>
   have hT1 := hT.ext hx
   obtain ⟨b, o, ha, hr⟩ := hT1.get (j := 0) (t := t) rfl
   rw [Nat.zero_mul, Nat.add_zero] at hr
   obtain ⟨hr1, hr2⟩ := row_hd hr
   refine br_neg (by simp; omega) ⟨b, o, ha, ⟨by omega, by simp⟩, _, hr1, br_split (fun e => ?_) fun e => ?_⟩
   · have hk : t.kind ≠ 1 := fun hk => by have := (kind_t (n := 1) e).1 hk; cases this
     rw [splitL_bad hk] at hsp
     refine ⟨hx, ?_⟩
     rw [hsp]; rfl
   have hk : t.kind = 1 := (kind_t (n := 1) e).2 rfl
   refine ⟨b, o, ha, ⟨by omega, by simp⟩, _, hr2, ⟨hok, by omega, by simp; omega, by simp at hk3 ⊢; omega⟩, ?_⟩
   intro a6 hs6
   have hT6 := hT.drop hk3 hs6
   rw [List.drop_succ_cons, List.drop_zero] at hT6
   rw [splitL_stmt hk (fun u r e h4 => hno t u r (by rw [e]) ⟨hk, h4⟩), operands_ops] at hsp
   have hn : ((((t :: l).length : Nat) : Int).toNat - 1 : Nat) = l.length := by simp
   rw [hn]
   simp only [List.length_cons] at hlen hk3
   have bad : ∀ h4, Ext h h4 → (opsG 0 l = none ∨ (0 < l.length ∧ l.length % 2 = 0)) → ParP h ts0 (vT [vL none 0 0, vS [], vL none 0 0, vI 30]) h4 := fun h4 hx4 ho => by
    refine ⟨hx4, ?_⟩
    rw [hsp]
    by_cases hc : 0 < l.length ∧ l.length % 2 = 0
    · rw [if_pos hc]; rfl
    · rw [if_neg hc, ho.resolve_right hc]; rfl
   refine ⟨fun m a7 n5 k5 nm a8 n6 k6 i h' => ∃ (j : Nat) (os : List Tk), i = (j : Int) ∧ j + m = l.length ∧ a2 = a7 ∧ acc.length = n5 ∧ k2 = k5 ∧ t.text = nm ∧ Ext h1 h' ∧ LM 134 2 h1 h' a8 n6 k6 (tkL os) ∧ n6 = os.length ∧ os.length ≤ j ∧
    opsG 0 l = (opsG j (l.drop j)).map fun x => os ++ x, ⟨l.length, 0, [], rfl, by omega, rfl, rfl, rfl, rfl, Ext.refl h1, LM.nil, rfl, by simp, by cases h : opsG 0 l <;> simp [h]⟩, ?_⟩
   rintro m _ _ _ _ a8 _ k6 _ h4 ⟨j, os, rfl, hjm, rfl, rfl, rfl, rfl, hx4, hO, rfl, hjo, hop⟩
   have hxx := hx.trans hx4
   by_cases hj : j < l.length
   · have hd := List.drop_eq_getElem_cons hj
     have hgj : l[j]? = some l[j] := by simp [hj]
     rw [hd] at hop
     generalize l[j] = u at *
     obtain ⟨b7, o7, ha7, hr7⟩ := (hT6.ext hxx).get hgj
     have hn1 : IntKind.i64.wrap ((j : Int) + 1) = ((j + 1 : Nat) : Int) := by rw [wrap64 (by omega) (by omega)]; omega
     refine br_pos (by simp; omega) ⟨b7, o7, ha7, ⟨by omega, by omega⟩, _, _, (by rw [Int.toNat_natCast]; exact hr7), ?_⟩
     rw [tmod2]
     refine br_split (fun e2 => ?_) fun e2 => ?_
     · have e2 := of_decide_eq_true e2
       have push : u.kind = 1 ∨ u.kind = 2 → ∀ (b8 : Nat), h4 b8 = none → ∀ (h_5 : PHeap), h_5 = h4.put b8 (.cells ⟨[vI (u.kind : Int), vS u.text]⟩ 134) →
        Raw Tryz.prog (execOp (rho [(67, vL a8 os.length k6), (69, vL (ad b8 0) 1 1)]) (mkO o89_11 124)) h_5 fun v_2 h_6 =>
        ∃ (a9 : OA) (n7 k7 : Nat), v_2 = vL a9 n7 k7 ∧
        ∃ (m6 : Nat), m6 < m ∧ (∃ (j' : Nat) (os' : List Tk), IntKind.i64.wrap ((j : Int) + 1) = (j' : Int) ∧ j' + m6 = l.length ∧ a2 = a2 ∧ acc.length = acc.length ∧ k2 = k2 ∧ t.text = t.text ∧ Ext h1 h_6 ∧ LM 134 2 h1 h_6 a9 n7 k7 (tkL os') ∧ n7 = os'.length ∧ os'.length ≤ j' ∧
           opsG 0 l = (opsG j' (l.drop j')).map fun x => os' ++ x) ∧ True := by
        intro hk1 b8 hb8 h5 hh5
        refine Raw.mono (LM.push und124 elem134 rfl rfl rfl rfl rfl hx4 hO hb8 hh5 rfl rfl (by omega)) ?_
        rintro _ h6 ⟨b9, cap, rfl, hx6, hO6, hg1, hg2⟩
        refine ⟨_, _, _, rfl, m - 1, by omega, ⟨j + 1, os ++ [u], hn1, by omega, rfl, rfl, rfl, rfl, hx6, by rw [tkL_app]; exact hO6, by simp, by simp; omega, ?_⟩, trivial⟩
        rw [hop, opsG, if_pos e2, if_pos hk1]
        cases opsG (j + 1) (l.drop (j + 1)) <;> simp
       refine br_split (fun e3 => br_split (fun e4 => bad h4 hxx (.inl ?_)) fun e4 => push (.inr ((kind_t (n := 2) e4).2 rfl))) fun e3 => push (.inl ((kind_t (n := 1) e3).2 rfl))
       rw [hop, opsG, if_pos e2, if_neg]
       · rfl
       · rintro (hk | hk)
         · have := (kind_t (n := 1) e3).1 hk; cases this
         · have := (kind_t (n := 2) e4).1 hk; cases this
     · have e2 := of_decide_eq_false e2
       refine br_split (fun e3 => bad h4 hxx (.inl ?_)) fun e3 => ⟨m - 1, by omega, ⟨j + 1, os, hn1, by omega, rfl, rfl, rfl, rfl, hx4, hO, rfl, by omega, ?_⟩, trivial⟩
       · rw [hop, opsG, if_neg e2, if_neg]
         · rfl
         · intro hk; have := (kind_t (n := 3) e3).1 hk; cases this
       · rw [hop, opsG, if_neg e2, if_pos ((kind_t (n := 3) e3).2 rfl)]
   · have hjl : j = l.length := by omega
     subst hjl
     rw [List.drop_length] at hop
     simp only [opsG, Option.map_some, List.append_nil] at hop
     have good : ¬ (0 < l.length ∧ l.length % 2 = 0) → ParP h ts0 (vT [vL a2 acc.length k2, vS t.text, vL a8 os.length k6, vI 0]) h4 := fun hc => by
      refine ⟨hxx, ?_⟩
      rw [hsp, if_neg hc, hop]
      simp only [Option.map_some, List.append_nil]
      exact ⟨a2, k2, a8, k6, rfl, hM.ext hx4, LM.base hx hO⟩
     refine br_neg (by simp) (br_split (fun e3 => ?_) fun e3 => good ?_)
     · rw [tmod2]
       have e3 := of_decide_eq_true e3
       refine br_split (fun e4 => bad h4 hxx (.inr ⟨by omega, of_decide_eq_true e4⟩)) fun e4 => good fun hc => of_decide_eq_false e4 hc.2
     · have e3 := of_decide_eq_false e3
       omega
theorem parse_t {a1 : OA} {k1 : Nat} {ts : List Tk} (hlen : ts.length ≤ 1000000) (hT : TkAt h a1 ts) (hk : ts.length ≤ k1) (hok : okA a1 ts.length k1) : Tri Tryz.prog 89 [vL a1 ts.length k1] h fun v h' => ParP h ts v h' := by
 refine T89 ?_
 unfold R89
 refine ⟨fun m a2 n2 k2 a3 n3 k3 h' => ∃ (rem : List Tk) (acc : List Bytes), rem.length = m ∧ rem.length = n3 ∧ acc.length = n2 ∧ Ext h h' ∧ LM 9 1 h h' a2 acc.length k2 (sL acc) ∧ TkAt h a3 rem ∧ rem.length ≤ k3 ∧ okA a3 rem.length k3 ∧ rem.length + acc.length ≤ 1000000 ∧
  splitL ts = (splitL rem).map fun x => (acc ++ x.1, x.2), ⟨ts.length, ts, [], rfl, rfl, rfl, Ext.refl h, LM.nil, hT, hk, hok, by simpa using hlen, by cases h : splitL ts <;> simp [h]⟩, ?_⟩
 rintro m a2 _ k2 a3 _ k3 h1 ⟨rem, acc, rfl, rfl, rfl, hx, hM, hT3, hk3, hok3, hl3, hsp⟩
 have tl : (∀ t u l, rem = t :: u :: l → ¬ (t.kind = 1 ∧ u.kind = 4)) → tail89 a2 acc.length k2 a3 rem.length k3 h1 (ParP h ts) := fun hno => tail_89 h hsp (by omega) hx hM hT3 hk3 hok3 hno
 refine br_split (fun e => ?_) fun e => tl ?_
 rotate_left
 · rintro t u l rfl
   have e := of_decide_eq_false e
   simp at e; omega
 have e := of_decide_eq_true e
 match rem, hT3, hk3, hok3, hl3, hsp, tl, e with
 | [], _, _, _, _, _, _, e => simp at e
 | [_], _, _, _, _, _, _, e => simp at e
 | t :: u :: l, hT3, hk3, hok3, hl3, hsp, tl, e =>
   have hT1 := hT3.ext hx
   obtain ⟨b, o, ha, hr⟩ := hT1.get (j := 0) (t := t) rfl
   rw [Nat.zero_mul, Nat.add_zero] at hr
   obtain ⟨hr1, hr2⟩ := row_hd hr
   obtain ⟨b', o', ha', hr'⟩ := hT1.get (j := 1) (t := u) rfl
   rw [Nat.one_mul] at hr'
   obtain ⟨hr1', hr2'⟩ := row_hd hr'
   refine ⟨b, o, ha, ⟨by omega, by omega⟩, _, hr1, br_split (fun e1 => ?_) fun e1 => tl ?_⟩
   rotate_left
   · rintro t' u' l' h' ⟨h1, _⟩; injection h' with h' _; subst h'; simp at e1; omega
   have k1 : t.kind = 1 := by simp at e1; omega
   refine ⟨b', o', ha', ⟨by omega, by omega⟩, _, hr1', br_split (fun e2 => ?_) fun e2 => tl ?_⟩
   rotate_left
   · rintro t' u' l' h' ⟨_, h1⟩; injection h' with _ h'; injection h' with h' _; subst h'; simp at e2; omega
   have k2' : u.kind = 4 := by simp at e2; omega
   refine ⟨b, o, ha, ⟨by omega, by omega⟩, _, hr2, ?_⟩
   intro b4 hb4 h2 hh2
   refine Raw.mono (LM.push und52 elem9 rfl rfl rfl rfl rfl hx hM hb4 hh2 rfl rfl (by omega)) ?_
   rintro _ h3 ⟨b5, cap, rfl, hx3, hM3, _⟩
   refine ⟨_, _, _, rfl, ⟨hok3, by omega, by omega, by omega⟩, ?_⟩
   intro a5 hs5
   simp only [List.length_cons] at hl3 hk3 e
   have hT5 := hT3.drop (by simp; omega) hs5
   rw [splitL_label k1 k2'] at hsp
   refine ⟨l.length, by simp; omega, ⟨l, acc ++ [t.text], rfl, by simp; omega, by simp, hx3, by rw [sL_app, List.length_append]; exact hM3, hT5, by omega, ?_, by simp; omega, ?_⟩, trivial⟩
   · rcases hok3 with ⟨b, o, h1⟩ | ⟨h1, h2, _⟩
     · obtain ⟨o', h2, _⟩ := hs5.1 b o h1
       exact .inl ⟨b, o', h2⟩
     · simp at h2
   · rw [hsp]
     cases splitL l <;> simp
end
end Go.Proofs.D
