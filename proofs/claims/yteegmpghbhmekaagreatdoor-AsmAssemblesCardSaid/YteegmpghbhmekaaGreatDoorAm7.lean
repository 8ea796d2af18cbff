import Derived.Test.YteegmpghbhmekaaGreatDoorAm6
import Derived.Shelf.Small.Strs
import Derived.Shelf.Strings.Split
import Derived.Sort.Grow
import Derived.Deep.Draws
namespace Go.As
def stepD (a : St) (name : Bytes) (t : Tk) : R St :=
 if name = dWord then (valueS a.line t.text 1 a.p.data.length (-2147483648) 4294967295).map fun x => { a with p := { a.p with data := a.p.data ++ wordOf x.1 }, uses := a.uses ++ x.2 }
 else if name = dByte then (literalS t.text (-128) 255).map fun n => { a with p := { a.p with data := a.p.data ++ [As.byteOf n] } }
 else if name = dText then .ok { a with p := { a.p with data := a.p.data ++ t.text } }
 else (literalS t.text 0 4096).map fun n => { a with p := { a.p with data := a.p.data ++ List.replicate n.toNat 0 } }
def foldD (name : Bytes) : St → List Tk → R St
 | a, [] => .ok a
 | a, t :: l => match stepD a name t with
   | .error e => .error e
   | .ok a' => foldD name a' l
def dataS (a : St) (name : Bytes) (l : List Tk) : R St :=
 if l = [] ∨ ((name = dText ∨ name = dSpace) ∧ l.length ≠ 1) then .error 30
 else if (l.all fun t => decide (t.kind = 2) == decide (name = dText)) = false then .error 30
 else (foldD name a l) >>= full
theorem words_fold : ∀ (l : List Tk) (a : St), wordsS a l = foldD dWord a l
 | [], a => rfl
 | t :: l, a => by
   rw [wordsS, foldD]
   unfold stepD
   rw [if_pos rfl]
   cases valueS a.line t.text 1 a.p.data.length (-2147483648) 4294967295 with
   | error e => rfl
   | ok x => exact words_fold l _
theorem bytes_fold : ∀ (l : List Tk) (a : St), bytesS a l = foldD dByte a l
 | [], a => rfl
 | t :: l, a => by
   rw [bytesS, foldD]
   unfold stepD
   rw [if_neg (by decide), if_pos rfl]
   cases literalS t.text (-128) 255 with
   | error e => rfl
   | ok x => exact bytes_fold l _
theorem literal_ne {e : Nat} {t : Bytes} {lo hi : Int} (h : literalS t lo hi = .error e) : e ≠ 0 := by
 unfold literalS at h
 split at h
 · split at h
   · injection h with h; omega
   · cases h
 · injection h with h; omega
theorem literal_rng {n : Int} {t : Bytes} {lo hi : Int} (h : literalS t lo hi = .ok n) : lo ≤ n ∧ n ≤ hi := by
 unfold literalS at h
 split at h
 · split at h
   · cases h
   · injection h with h; omega
 · cases h
theorem step_ne {a : St} {name : Bytes} {t : Tk} {e : Nat} (h : stepD a name t = .error e) : e ≠ 0 := by
 unfold stepD at h
 split at h
 · cases hv : valueS a.line t.text 1 a.p.data.length (-2147483648) 4294967295 with
   | error e' => rw [hv] at h; injection h with h; subst h; exact value_ne hv
   | ok x => rw [hv] at h; cases h
 split at h
 · cases hv : literalS t.text (-128) 255 with
   | error e' => rw [hv] at h; injection h with h; subst h; exact literal_ne hv
   | ok x => rw [hv] at h; cases h
 split at h
 · cases h
 · cases hv : literalS t.text 0 4096 with
   | error e' => rw [hv] at h; injection h with h; subst h; exact literal_ne hv
   | ok x => rw [hv] at h; cases h
theorem stmt_dataS {a : St} {name : Bytes} {l : List Tk} (hn : name = dWord ∨ name = dByte ∨ name = dText ∨ name = dSpace) (hi : a.inData = true) : stmtS a name l = dataS a name l := by
 have one : l.length = 1 → l = [l.getD 0 ⟨1, []⟩] := fun h => by
  match l, h with
  | [t], _ => rfl
 have hsk : ∀ X Y : R St, (l ≠ [] → ¬ ((name = dText ∨ name = dSpace) ∧ l.length ≠ 1) → X = Y) → (if l = [] ∨ ((name = dText ∨ name = dSpace) ∧ l.length ≠ 1) then (.error 30 : R St) else if (l.all fun t => decide (t.kind = 2) == decide (name = dText)) = false then .error 30 else X) = (if l = [] ∨ ((name = dText ∨ name = dSpace) ∧ l.length ≠ 1) then (.error 30 : R St) else if (l.all fun t => decide (t.kind = 2) == decide (name = dText)) = false then .error 30 else Y) := fun X Y h => by
  by_cases h1 : l = [] ∨ ((name = dText ∨ name = dSpace) ∧ l.length ≠ 1)
  · rw [if_pos h1, if_pos h1]
  · rw [if_neg h1, if_neg h1, h (fun e => h1 (.inl e)) (fun e => h1 (.inr e))]
 unfold stmtS dataS
 have hw : wordsB.findIdx? (· == name) = none := by rcases hn with rfl | rfl | rfl | rfl <;> decide
 rw [hw]
 have h1 : ¬ (name = dCode ∨ name = dData) := by rcases hn with rfl | rfl | rfl | rfl <;> decide
 have h2 : ¬ name = dEntry := by rcases hn with rfl | rfl | rfl | rfl <;> decide
 have h3 : ¬ name = dZero := by rcases hn with rfl | rfl | rfl | rfl <;> decide
 have h4 : name = dWord ∨ name = dByte ∨ name = dText ∨ name = dSpace := hn
 simp only
 rw [if_neg h1, if_neg h2, if_neg h3, if_pos h4, if_neg (by rw [hi]; decide)]
 refine hsk _ _ fun g1 g2 => ?_
 rcases hn with rfl | rfl | rfl | rfl
 · rw [if_pos rfl, words_fold]
 · rw [if_neg (by decide), if_pos rfl, bytes_fold]
 · rw [if_neg (by decide), if_neg (by decide), if_pos rfl]
   have := one (Decidable.byContradiction fun h => g2 ⟨.inl rfl, h⟩)
   generalize l.getD 0 ⟨1, []⟩ = t at *
   subst this
   rfl
 · rw [if_neg (by decide), if_neg (by decide), if_neg (by decide)]
   have := one (Decidable.byContradiction fun h => g2 ⟨.inr rfl, h⟩)
   generalize l.getD 0 ⟨1, []⟩ = t at *
   subst this
   unfold foldD stepD foldD
   rw [if_neg (by decide), if_neg (by decide), if_neg (by decide)]
   cases literalS t.text 0 4096 <;> rfl
end Go.As
namespace Go.Proofs.D
open Go Go.Den Go.As
set_option maxRecDepth 100000
attribute [local irreducible] IntKind.wrap Tri
theorem beqD (a b : Bytes) : (a == b) = decide (a = b) := by rw [Bool.eq_iff_iff, beq_iff_eq, decide_eq_true_iff]
theorem vU_byte (n : Int) : vU (IntKind.u8.wrap n) = byteV (As.byteOf n) := by rw [u8_byte]; rfl
def tail135 (a1 : OA) (n1 : Nat) (ez5k1 : Nat) (l1 : Bs) (i1 : Int) (i2 : Int) (a2 : OA) (n2 : Nat) (k2 : Nat) (c1 : Bool) (c2 : Bool) (c3 : Bool) (a3 : OA) (n3 : Nat) (k3 : Nat) (i3 : Int) (a5 : OA) (n : Nat) (l2 : Bs) (h0 : PHeap) (Q : Value → PHeap → Prop) : Prop :=
 ∃ (I_1 : Nat → Int → OA → Nat → Nat → Bs → Int → Int → OA → Nat → Nat → Bool → Bool → Bool → OA → Nat → Nat → Int → PHeap → Prop), (∃ (m2 : Nat), I_1 m2 (0 : Int) none 0 0 [] (0 : Int) (0 : Int) none 0 0 false false false none 0 0 (0 : Int) h0) ∧
 ∀ (m1 : Nat) (i4 : Int) (a6 : OA) (n5 : Nat) (k5 : Nat) (l3 : Bs) (i5 : Int) (i6 : Int) (a7 : OA) (n6 : Nat) (k6 : Nat) (c4 : Bool) (c5 : Bool) (c6 : Bool) (a8 : OA) (n7 : Nat) (k7 : Nat) (i7 : Int) (h_1 : PHeap), I_1 m1 i4 a6 n5 k5 l3 i5 i6 a7 n6 k6 c4 c5 c6 a8 n7 k7 i7 h_1 →
 br (decide (i4 < ((n : Nat) : Int)))
 (∃ (b2 o2 : Nat), a5 = some ⟨b2, o2, none⟩ ∧ (0 ≤ i4 ∧ i4 < ((n : Nat) : Int)) ∧
 ∃ (i8 : Int), h_1.cell b2 (o2 + (i4).toNat * 2) = some (vU i8) ∧
 br (!((i8 == 115) == (l2 == [46, 116, 101, 120, 116])))
 (Q (vT [vA [vL a1 n1 ez5k1, vS l1, vI i1, vI i2, vL a2 n2 k2, vB c1, vB c2, vB c3, vL a3 n3 k3, vI i3], vI 30]) h_1)
 (∃ (m3 : Nat), m3 < m1 ∧ I_1 m3 (IntKind.i64.wrap (i4 + 1)) a6 n5 k5 l3 i5 i6 a7 n6 k6 c4 c5 c6 a8 n7 k7 i7 h_1 ∧
 tv [vL a1 n1 ez5k1, vS l1, vI i1, vI i2, vL a2 n2 k2, vB c1, vB c2, vB c3, vL a3 n3 k3, vI i3] ∧ True))
 (∃ (I_2 : Nat → Bs → Int → OA → Nat → Nat → Bs → Int → Int → OA → Nat → Nat → Bool → Bool → Bool → OA → Nat → Nat → Int → OA → Nat → Nat → Bs → Int → Int → OA → Nat → Nat → Bool → Bool → Bool → OA → Nat → Nat → Int → PHeap → Prop), (∃ (m5 : Nat), I_2 m5 [] (0 : Int) a6 n5 k5 l3 i5 i6 a7 n6 k6 c4 c5 c6 a8 n7 k7 i7 a1 n1 ez5k1 l1 i1 i2 a2 n2 k2 c1 c2 c3 a3 n3 k3 i3 h_1) ∧
 ∀ (m4 : Nat) (l4 : Bs) (i9 : Int) (a9 : OA) (n8 : Nat) (k8 : Nat) (l5 : Bs) (i10 : Int) (i11 : Int) (a10 : OA) (n9 : Nat) (k9 : Nat) (c7 : Bool) (c8 : Bool) (c9 : Bool) (a11 : OA) (n10 : Nat) (k10 : Nat) (i12 : Int) (a12 : OA) (n11 : Nat) (k11 : Nat) (l6 : Bs) (i13 : Int) (i14 : Int) (a13 : OA) (n12 : Nat) (k12 : Nat) (c10 : Bool) (c11 : Bool) (c12 : Bool) (a14 : OA) (n13 : Nat) (k13 : Nat) (i15 : Int) (h_2 : PHeap), I_2 m4 l4 i9 a9 n8 k8 l5 i10 i11 a10 n9 k9 c7 c8 c9 a11 n10 k10 i12 a12 n11 k11 l6 i13 i14 a13 n12 k12 c10 c11 c12 a14 n13 k13 i15 h_2 →
 br (decide (i9 < ((n : Nat) : Int)))
 (br (l2 == [46, 116, 101, 120, 116])
 (∃ (b3 o3 : Nat), a5 = some ⟨b3, o3, none⟩ ∧ (0 ≤ i9 ∧ i9 < ((n : Nat) : Int)) ∧
 ∃ (l7 : Bs), h_2.cell b3 ((o3 + (i9).toNat * 2) + 1) = some (vS l7) ∧
 ∀ (b4 : Nat), h_2 b4 = none → ∀ (h_3 : PHeap), h_3 = h_2.put b4 (.cells ⟨[]⟩ 145) →
 Raw Tryz.prog (execOp (rho [(122, vL (ad b4 0) 0 0), (124, vL a14 n13 k13)]) (mkO o135_17 83)) h_3 fun v_1 h_4 =>
 ∃ (a15 : OA) (n14 k14 : Nat), v_1 = vL a15 n14 k14 ∧
 Raw Tryz.prog (execOp (rho [(125, vL a15 n14 k14), (126, vL none 0 0)]) (mkO o135_18 83)) h_4 fun v_2 h_5 =>
 ∃ (a16 : OA) (n15 k15 : Nat), v_2 = vL a16 n15 k15 ∧
 ∃ (m6 : Nat), m6 < m4 ∧ I_2 m6 l7 (IntKind.i64.wrap (i9 + 1)) a9 n8 k8 l5 i10 i11 a10 n9 k9 c7 c8 c9 a11 n10 k10 i12 a12 n11 k11 l6 i13 i14 a13 n12 k12 c10 c11 c12 a16 n15 k15 i15 h_5 ∧
 True)
 (br (l2 == [46, 115, 112, 97, 99, 101])
 (∃ (b5 o4 : Nat), a5 = some ⟨b5, o4, none⟩ ∧ (0 ≤ i9 ∧ i9 < ((n : Nat) : Int)) ∧
 ∃ (i16 : Int) (l8 : Bs), h_2.row b5 (o4 + (i9).toNat * 2) [vU i16, vS l8] ∧
 Tri Tryz.prog 136 [vA [vU i16, vS l8], vI 0, vI 4096] h_2 fun v_3 h_6 =>
 ∃ (i17 i18 : Int), v_3 = vT [vI i17, vI i18] ∧
 Raw Tryz.prog (execOp (rho [(99, vI i17), (99, vI i17)]) (mkO o135_9 40)) h_6 fun v_4 h_7 =>
 ∃ (a17 : OA) (n16 k16 : Nat), v_4 = vL a17 n16 k16 ∧
 ∃ (l9 : Bs), BytesAt h_7 a17 n16 l9 ∧
 br (i18 != 0)
 (Q (vT [vA [vL a12 n11 k11, vS l6, vI i13, vI i14, vL a13 n12 k12, vB c10, vB c11, vB c12, vL a14 n13 k13, vI i15], vI i18]) h_7)
 (∀ (b6 : Nat), h_7 b6 = none → ∀ (h_8 : PHeap), h_8 = h_7.put b6 (.cells ⟨[]⟩ 145) →
 Raw Tryz.prog (execOp (rho [(122, vL (ad b6 0) 0 0), (124, vL a14 n13 k13)]) (mkO o135_17 83)) h_8 fun v_5 h_9 =>
 ∃ (a18 : OA) (n17 k17 : Nat), v_5 = vL a18 n17 k17 ∧
 Raw Tryz.prog (execOp (rho [(125, vL a18 n17 k17), (126, vL none 0 0)]) (mkO o135_18 83)) h_9 fun v_6 h_10 =>
 ∃ (a19 : OA) (n18 k18 : Nat), v_6 = vL a19 n18 k18 ∧
 ∃ (m7 : Nat), m7 < m4 ∧ I_2 m7 l9 (IntKind.i64.wrap (i9 + 1)) a9 n8 k8 l5 i10 i11 a10 n9 k9 c7 c8 c9 a11 n10 k10 i12 a12 n11 k11 l6 i13 i14 a13 n12 k12 c10 c11 c12 a19 n18 k18 i15 h_10 ∧
 True))
 (br (l2 == [46, 98, 121, 116, 101])
 (∃ (b7 o5 : Nat), a5 = some ⟨b7, o5, none⟩ ∧ (0 ≤ i9 ∧ i9 < ((n : Nat) : Int)) ∧
 ∃ (i19 : Int) (l10 : Bs), h_2.row b7 (o5 + (i9).toNat * 2) [vU i19, vS l10] ∧
 Tri Tryz.prog 136 [vA [vU i19, vS l10], vI (-128), vI 255] h_2 fun v_7 h_11 =>
 ∃ (i20 i21 : Int), v_7 = vT [vI i20, vI i21] ∧
 ∀ (b8 : Nat), h_11 b8 = none → ∀ (h_12 : PHeap), h_12 = h_11.put b8 (.cells ⟨[vU (IntKind.u8.wrap (i20))]⟩ 5) →
 ∃ (l11 : Bs), BytesAt h_12 (ad b8 0) 1 l11 ∧
 l4.length + l11.length ≤ 9223372036854775807 ∧
 br (i21 != 0)
 (Q (vT [vA [vL a12 n11 k11, vS l6, vI i13, vI i14, vL a13 n12 k12, vB c10, vB c11, vB c12, vL a14 n13 k13, vI i15], vI i21]) h_12)
 (∀ (b9 : Nat), h_12 b9 = none → ∀ (h_13 : PHeap), h_13 = h_12.put b9 (.cells ⟨[]⟩ 145) →
 Raw Tryz.prog (execOp (rho [(122, vL (ad b9 0) 0 0), (124, vL a14 n13 k13)]) (mkO o135_17 83)) h_13 fun v_8 h_14 =>
 ∃ (a20 : OA) (n19 k19 : Nat), v_8 = vL a20 n19 k19 ∧
 Raw Tryz.prog (execOp (rho [(125, vL a20 n19 k19), (126, vL none 0 0)]) (mkO o135_18 83)) h_14 fun v_9 h_15 =>
 ∃ (a21 : OA) (n20 k20 : Nat), v_9 = vL a21 n20 k20 ∧
 ∃ (m8 : Nat), m8 < m4 ∧ I_2 m8 (l4 ++ l11) (IntKind.i64.wrap (i9 + 1)) a9 n8 k8 l5 i10 i11 a10 n9 k9 c7 c8 c9 a11 n10 k10 i12 a12 n11 k11 l6 i13 i14 a13 n12 k12 c10 c11 c12 a21 n20 k20 i15 h_15 ∧
 True))
 (∃ (b10 o6 : Nat), a5 = some ⟨b10, o6, none⟩ ∧ (0 ≤ i9 ∧ i9 < ((n : Nat) : Int)) ∧
 ∃ (i22 : Int) (l12 : Bs), h_2.row b10 (o6 + (i9).toNat * 2) [vU i22, vS l12] ∧
 Tri Tryz.prog 137 [vA [vL a12 n11 k11, vS l6, vI i13, vI i14, vL a13 n12 k12, vB c10, vB c11, vB c12, vL a14 n13 k13, vI i15], vA [vU i22, vS l12], vI 1, vI (IntKind.i64.wrap ((l6.length : Int) + (l4.length : Int))), vI (-2147483648), vI 4294967295] h_2 fun v_10 h_16 =>
 ∃ (i23 : Int) (a22 : OA) (n21 k21 : Nat) (i24 : Int), v_10 = vT [vI i23, vL a22 n21 k21, vI i24] ∧
 (tv [vS l6]) ∧
 Tri Tryz.prog 97 [vI i23] h_16 fun v_11 h_17 =>
 ∃ (l13 : Bs), v_11 = vS l13 ∧
 l4.length + l13.length ≤ 9223372036854775807 ∧
 br (i24 != 0)
 (Q (vT [vA [vL a12 n11 k11, vS l6, vI i13, vI i14, vL a13 n12 k12, vB c10, vB c11, vB c12, vL a14 n13 k13, vI i15], vI i24]) h_17)
 (∀ (b11 : Nat), h_17 b11 = none → ∀ (h_18 : PHeap), h_18 = h_17.put b11 (.cells ⟨[]⟩ 145) →
 Raw Tryz.prog (execOp (rho [(122, vL (ad b11 0) 0 0), (124, vL a14 n13 k13)]) (mkO o135_17 83)) h_18 fun v_12 h_19 =>
 ∃ (a23 : OA) (n22 k22 : Nat), v_12 = vL a23 n22 k22 ∧
 Raw Tryz.prog (execOp (rho [(125, vL a23 n22 k22), (126, vL a22 n21 k21)]) (mkO o135_18 83)) h_19 fun v_13 h_20 =>
 ∃ (a24 : OA) (n23 k23 : Nat), v_13 = vL a24 n23 k23 ∧
 ∃ (m9 : Nat), m9 < m4 ∧ I_2 m9 (l4 ++ l13) (IntKind.i64.wrap (i9 + 1)) a9 n8 k8 l5 i10 i11 a10 n9 k9 c7 c8 c9 a11 n10 k10 i12 a12 n11 k11 l6 i13 i14 a13 n12 k12 c10 c11 c12 a24 n23 k23 i15 h_20 ∧
 True)))))
 (br (decide ((IntKind.i64.wrap ((l6.length : Int) + (l4.length : Int))) > 4096))
 (Q (vT [vA [vL a12 n11 k11, vS l6, vI i13, vI i14, vL a13 n12 k12, vB c10, vB c11, vB c12, vL a14 n13 k13, vI i15], vI 9]) h_2)
 (l6.length + l4.length ≤ 9223372036854775807 ∧
 Q (vT [vA [vL a12 n11 k11, vS (l6 ++ l4), vI i13, vI i14, vL a13 n12 k12, vB c10, vB c11, vB c12, vL a14 n13 k13, vI i15], vI 0]) h_2)))
section
variable {h : PHeap}
theorem rcs_word {t : Tk} (hk : t.kind = 1) : rtkC t = [vU 119, vS t.text] := by unfold rtkC rk; rw [if_pos hk, if_pos (by omega)]
theorem rcs_text {t : Tk} (hk : t.kind = 2) : rtkC t = [vU 115, vS t.text] := by unfold rtkC rk; rw [if_neg (by omega), if_pos hk, if_pos (by omega)]
theorem tail_135 {a : As.St} {a1 : OA} {k1 : Nat} {a2 : OA} {k2 : Nat} {a3 : OA} {k3 : Nat} {a5 : OA} {name : Bytes} {l : List Tk} (hA : RA h a a1 k1 a2 k2 a3 k3) (hS : RSm a) (hT : RTkAt h a5 l) (hn : name = dWord ∨ name = dByte ∨ name = dText ∨ name = dSpace) (hk : ∀ t ∈ l, t.kind = 1 ∨ t.kind = 2) (htl : ∀ t ∈ l, t.text.length ≤ 1000000) (hll : l.length ≤ 1000000)
 (hne : l ≠ []) (hsg : name = dText ∨ name = dSpace → l.length = 1) :
 tail135 a1 a.p.code.length k1 a.p.data a.p.zero a.p.entry a2 a.p.labels.length k2 a.inData a.hasEntry a.hasZero a3 a.uses.length k3 (a.line : Int) a5 l.length name h fun v h' => RStP h (dataS a name l) v h' := by
 have h1 : ¬ (l = [] ∨ ((name = dText ∨ name = dSpace) ∧ l.length ≠ 1)) := fun hh => by
  rcases hh with hh | ⟨hh, h2⟩
  · exact hne hh
  · exact h2 (hsg hh)
 have hd : dataS a name l = if (l.all fun t => decide (t.kind = 2) == decide (name = dText)) = false then .error 30 else (foldD name a l) >>= full := by
  unfold dataS; rw [if_neg h1]
 rw [hd]
 clear hd h1
 have hu0 := hS.uses
 have hd0 := hS.data
 have hcT : (name == ([46, 116, 101, 120, 116] : Bs)) = decide (name = dText) := beqD name dText
 have hcS : (name == ([46, 115, 112, 97, 99, 101] : Bs)) = decide (name = dSpace) := beqD name dSpace
 have hcB : (name == ([46, 98, 121, 116, 101] : Bs)) = decide (name = dByte) := beqD name dByte
 unfold tail135
 rw [hcT, hcS, hcB]
 refine ⟨fun m i a5 n5 k5 l2 i9 i10 a6 n6 k6 c4 c5 c6 a7 n7 k7 i11 h' => ∃ j : Nat, i = (j : Int) ∧ j + m = l.length ∧ h' = h ∧ ((l.take j).all fun t => decide (t.kind = 2) == decide (name = dText)) = true, ⟨l.length, 0, rfl, by omega, rfl, rfl⟩, ?_⟩
 rintro m _ a8 n8 k8 l8 i9 i10 a6 n6 k6 c4 c5 c6 a7 n7 k7 i11 h3 ⟨j, rfl, hjm, rfl, hno⟩
 refine br_split (fun e1 => ?_) fun e1 => ?_
 · have hlt : j < l.length := by have := of_decide_eq_true e1; omega
   have hg : l[j]? = some l[j] := by simp [hlt]
   have htk := List.take_append_getElem hlt
   have hmem := List.getElem_mem hlt
   generalize l[j] = t at *
   obtain ⟨b, o, ha, hr⟩ := hT.get hg
   refine ⟨b, o, ha, ⟨by omega, by omega⟩, rk t.kind, by rw [Int.toNat_natCast]; exact hr.1, ?_⟩
   rw [rk_s]
   refine br_split (fun e2 => ?_) fun e2 => ⟨m - 1, by omega, ⟨j + 1, by rw [wrap64 (by omega) (by omega)]; omega, by omega, rfl, ?_⟩, rfl, trivial⟩
   · have hf : (l.all fun t => decide (t.kind = 2) == decide (name = dText)) = false := by
      rw [List.all_eq_false]
      exact ⟨t, hmem, by simpa using e2⟩
     rw [if_pos hf]
     exact ⟨Ext.refl _, by decide, _, _, _, _, _, _, _, _, _, _, _, _, _, _, _, _, rfl⟩
   · rw [← htk, List.all_append, hno]
     simpa using e2
 have hj : j = l.length := by have := of_decide_eq_false e1; omega
 subst hj
 rw [List.take_length] at hno
 rw [if_neg (by rw [hno]; decide)]
 have hkind : ∀ t ∈ l, (t.kind = 2 ↔ name = dText) := fun t ht => by
  have := List.all_eq_true.1 hno t ht
  simpa using this
 refine ⟨fun m more i9 a8 n8 k8 l5 i10 i11 a10 n9 k9 c7 c8 c9 a11 n10 k10 i12 a12 n11 k11 l6 i13 i14 a13 n12 k12 c10 c11 c12 a14 n13 k13 i15 h' =>
  ∃ (j : Nat) (u : List Us), i9 = (j : Int) ∧ j + m = l.length ∧ Ext h3 h' ∧ a1 = a12 ∧ n11 = a.p.code.length ∧ k1 = k11 ∧ l6 = a.p.data ∧ i13 = a.p.zero ∧ i14 = a.p.entry ∧ a2 = a13 ∧ n12 = a.p.labels.length ∧ k2 = k12 ∧ c10 = a.inData ∧ c11 = a.hasEntry ∧ c12 = a.hasZero ∧ n13 = (a.uses ++ u).length ∧ i15 = (a.line : Int) ∧
    UsR h' a14 (a.uses ++ u) ∧ okA a14 (a.uses ++ u).length k13 ∧ (j = 0 → more = [] ∧ u = []) ∧ more.length ≤ 1000000 + 4 * j ∧ u.length ≤ j ∧
    foldD name a l = foldD name { a with p := { a.p with data := a.p.data ++ more }, uses := a.uses ++ u } (l.drop j),
  ⟨l.length, 0, [], rfl, by omega, Ext.refl _, rfl, rfl, rfl, rfl, rfl, rfl, rfl, rfl, rfl, rfl, rfl, rfl, by rw [List.append_nil], rfl, by rw [List.append_nil]; exact hA.uss, by rw [List.append_nil]; exact hA.ok3, fun _ => ⟨rfl, rfl⟩, by simp, Nat.le_refl _, by simp⟩, ?_⟩
 rintro m more _ _ _ _ _ _ _ _ _ _ _ _ _ _ _ _ _ a12 n11 k11 l6 i13 i14 a13 n12 k12 c10 c11 c12 a14 n13 k13 i15 h4 ⟨j, u, rfl, hjm, x4, rfl, rfl, rfl, rfl, rfl, rfl, rfl, rfl, rfl, rfl, rfl, rfl, rfl, rfl, hu, hok, hz, hml, hul, hfold⟩
 have hw : IntKind.i64.wrap ((a.p.data.length : Int) + (more.length : Int)) = ((a.p.data.length + more.length : Nat) : Int) := by rw [wrap64 (by omega) (by omega)]; omega
 have hw2 : IntKind.i64.wrap ((j : Int) + 1) = ((j + 1 : Nat) : Int) := by rw [wrap64 (by omega) (by omega)]; omega
 rw [hw, hw2]
 refine br_split (fun e2 => ?_) fun e2 => ?_
 · have hlt : j < l.length := by have := of_decide_eq_true e2; omega
   have hg : l[j]? = some l[j] := by simp [hlt]
   have hmem := List.getElem_mem hlt
   have hdr := List.drop_eq_getElem_cons hlt
   have hkt := hkind _ hmem
   have hk1 := hk _ hmem
   have hxt := htl _ hmem
   rw [hdr] at hfold
   generalize l[j] = t at *
   rw [foldD] at hfold
   obtain ⟨b, o, ha, hr⟩ := (hT.ext x4).get hg
   have hsum : (a.uses ++ u).length ≤ 2000000 := by rw [List.length_append]; omega
   have next : ∀ (more' : Bs) (u2 : List Us), stepD { a with p := { a.p with data := a.p.data ++ more }, uses := a.uses ++ u } name t = .ok { a with p := { a.p with data := a.p.data ++ more' }, uses := a.uses ++ u ++ u2 } → more'.length ≤ 1000000 + 4 * (j + 1) → u2.length ≤ 1 →
    ∀ a' k' h', Ext h4 h' → UsR h' a' (a.uses ++ u ++ u2) → okA a' (a.uses ++ u ++ u2).length k' → _ := fun more' u2 hstep hm2 hu2 a' k' h' x' g1 g2 => (⟨m - 1, by omega, ⟨j + 1, u ++ u2, rfl, by omega, x4.trans x', rfl, rfl, rfl, rfl, rfl, rfl, rfl, rfl, rfl, rfl, rfl, rfl, by rw [List.append_assoc], rfl, by rw [← List.append_assoc]; exact g1, by rw [← List.append_assoc]; exact g2, fun h => by omega, hm2, by rw [List.length_append]; omega, by
    rw [hstep] at hfold
    rw [← List.append_assoc]; exact hfold⟩, trivial⟩ : ∃ (m6 : Nat), m6 < m ∧ (∃ (j' : Nat) (u' : List Us), ((j + 1 : Nat) : Int) = (j' : Int) ∧ j' + m6 = l.length ∧ Ext h3 h' ∧ a1 = a1 ∧ a.p.code.length = a.p.code.length ∧ k1 = k1 ∧ a.p.data = a.p.data ∧ a.p.zero = a.p.zero ∧ a.p.entry = a.p.entry ∧ a2 = a2 ∧ a.p.labels.length = a.p.labels.length ∧ k2 = k2 ∧ a.inData = a.inData ∧ a.hasEntry = a.hasEntry ∧ a.hasZero = a.hasZero ∧ (a.uses ++ u ++ u2).length = (a.uses ++ u').length ∧ (a.line : Int) = (a.line : Int) ∧
    UsR h' a' (a.uses ++ u') ∧ okA a' (a.uses ++ u').length k' ∧ (j' = 0 → more' = [] ∧ u' = []) ∧ more'.length ≤ 1000000 + 4 * j' ∧ u'.length ≤ j' ∧
    foldD name a l = foldD name { a with p := { a.p with data := a.p.data ++ more' }, uses := a.uses ++ u' } (l.drop j')) ∧ True)
   have fail : ∀ (e : Nat) (a13 : OA) (n13 k13 : Nat) h', Ext h4 h' → stepD { a with p := { a.p with data := a.p.data ++ more }, uses := a.uses ++ u } name t = .error e → RStP h3 ((foldD name a l) >>= full) (vT [vA [vL a1 a.p.code.length k1, vS a.p.data, vI a.p.zero, vI a.p.entry, vL a2 a.p.labels.length k2, vB a.inData, vB a.hasEntry, vB a.hasZero, vL a13 n13 k13, vI (a.line : Int)], vI (e : Int)]) h' := fun e a13 n13 k13 h' x' he => by
    rw [he] at hfold
    rw [hfold]
    exact ⟨x4.trans x', step_ne he, _, _, _, _, _, _, _, _, _, _, _, _, _, _, _, _, rfl⟩
   refine br_split (fun e3 => ?_) fun e3 => br_split (fun e4 => ?_) fun e4 => br_split (fun e5 => ?_) fun e5 => ?_
   · -- a text
     have e3 := of_decide_eq_true e3
     have hj0 : j = 0 := by have := hsg (.inl e3); omega
     obtain ⟨rfl, rfl⟩ := hz hj0
     have hcs := rcs_text (hkt.2 e3)
     rw [hcs] at hr
     refine ⟨b, o, ha, ⟨by omega, by omega⟩, t.text, by rw [Int.toNat_natCast]; exact hr.2, ?_⟩
     refine copyU (us2 := []) (K := fun a16 n16 k16 h' => ∃ (m6 : Nat), m6 < m ∧ _ ∧ True) hu hok (.inl rfl) (.inr ⟨rfl, rfl, rfl⟩) (by simp only [List.length_nil]; omega) rfl rfl rfl rfl rfl rfl (fun b => rfl) (fun b => rfl) (fun a n k => rfl) (fun a n k => rfl) fun a' k' h' x' g1 g2 => ?_
     refine next t.text [] ?_ (by omega) (by simp) a' k' h' x' g1 g2
     unfold stepD
     rw [if_neg (by rw [e3]; decide), if_neg (by rw [e3]; decide), if_pos e3]
     simp
   · -- zeros
     have e3 := of_decide_eq_false e3
     have e4 := of_decide_eq_true e4
     have hj0 : j = 0 := by have := hsg (.inr e4); omega
     obtain ⟨rfl, rfl⟩ := hz hj0
     have hcs := rcs_word (t := t) (hk1.resolve_right fun h => e3 (hkt.1 h))
     rw [hcs] at hr
     refine ⟨b, o, ha, ⟨by omega, by omega⟩, 119, t.text, by rw [Int.toNat_natCast]; exact hr, ?_⟩
     refine Tri.mono (rliteral_t _ t.text 0 4096 hxt) ?_
     rintro _ h5 ⟨rfl, rfl⟩
     have hst : stepD { a with p := { a.p with data := a.p.data ++ [] }, uses := a.uses ++ [] } name t = (literalS t.text 0 4096).map fun n => { a with p := { a.p with data := a.p.data ++ [] ++ List.replicate n.toNat 0 }, uses := a.uses ++ [] } := by
      unfold stepD
      rw [if_neg (by rw [e4]; decide), if_neg (by rw [e4]; decide), if_neg (by rw [e4]; decide)]
     have zer : ∀ N : Nat, N ≤ 4096 → ∀ (K : OA → Nat → Nat → Bs → PHeap → Prop), (∀ b h', Ext h5 h' → K (ad b 0) N N (List.replicate N 0) h') → Raw Tryz.prog (execOp (rho [(99, vI (N : Int)), (99, vI (N : Int))]) (mkO o135_9 40)) h5 fun v_4 h_7 =>
      ∃ (a17 : OA) (n16 k16 : Nat), v_4 = vL a17 n16 k16 ∧ ∃ (l9 : Bs), BytesAt h_7 a17 n16 l9 ∧ K a17 n16 k16 l9 h_7 := fun N hN K hK => by
      refine Raw.mono (raw_makeB (N := N) rfl rfl (by omega)) ?_
      rintro _ h6 ⟨b, hb, rfl, hh6⟩
      refine ⟨_, _, _, rfl, List.replicate N 0, .inr ⟨b, 0, rfl, by simp, ?_⟩, hK b h6 (Put.ext hh6 hb)⟩
      rw [List.map_replicate]
      exact row_lit (Put.at hh6) fun j v hj => by rw [Nat.zero_add]; exact hj
     cases hlit : literalS t.text 0 4096 with
     | error e =>
       have he0 := literal_ne hlit
       refine ⟨0, (e : Int), rfl, zer 0 (by omega) (fun a17 n16 k16 l9 h7 => _) fun b h' x' => br_pos (by simp; omega) (fail e _ _ _ h' x' ?_)⟩
       rw [hst, hlit]; rfl
     | ok n =>
       obtain ⟨r1, r2⟩ := literal_rng hlit
       obtain ⟨N, rfl⟩ : ∃ N : Nat, n = (N : Int) := ⟨n.toNat, by omega⟩
       refine ⟨(N : Int), 0, rfl, zer N (by omega) (fun a17 n16 k16 l9 h7 => _) fun b h' x' => br_neg rfl ?_⟩
       refine copyU (us2 := []) (K := fun a16 n16 k16 h' => ∃ (m6 : Nat), m6 < m ∧ _ ∧ True) (hu.ext x') hok (.inl rfl) (.inr ⟨rfl, rfl, rfl⟩) (by simp only [List.length_nil]; omega) rfl rfl rfl rfl rfl rfl (fun b => rfl) (fun b => rfl) (fun a n k => rfl) (fun a n k => rfl) fun a' k' h' x'' g1 g2 => ?_
       refine next (List.replicate N 0) [] ?_ (by simp; omega) (by simp) a' k' h' (x'.trans x'') g1 g2
       rw [hst, hlit]
       simp [Except.map]
   · -- bytes
     have e3 := of_decide_eq_false e3
     have e5 := of_decide_eq_true e5
     have hcs := rcs_word (t := t) (hk1.resolve_right fun h => e3 (hkt.1 h))
     rw [hcs] at hr
     refine ⟨b, o, ha, ⟨by omega, by omega⟩, 119, t.text, by rw [Int.toNat_natCast]; exact hr, ?_⟩
     refine Tri.mono (rliteral_t _ t.text (-128) 255 hxt) ?_
     rintro _ h5 ⟨rfl, rfl⟩
     have hst : stepD { a with p := { a.p with data := a.p.data ++ more }, uses := a.uses ++ u } name t = (literalS t.text (-128) 255).map fun n => { a with p := { a.p with data := a.p.data ++ more ++ [As.byteOf n] }, uses := a.uses ++ u } := by
      unfold stepD
      rw [if_neg (by rw [e5]; decide), if_pos e5]
     have hlv : ∃ i20 i21, rlitV (literalS t.text (-128) 255) = vT [vI i20, vI i21] ∧ (∀ e : Nat, literalS t.text (-128) 255 = .error e → i21 = (e : Int)) ∧ (∀ n, literalS t.text (-128) 255 = .ok n → i20 = n ∧ i21 = 0) := by
      cases hlit : literalS t.text (-128) 255 with
      | error e => exact ⟨_, _, rfl, fun e' he => by injection he with he; rw [he], fun n hn => by cases hn⟩
      | ok n => exact ⟨_, _, rfl, fun e' he => by (cases he), fun n' hn => by injection hn with hn; exact ⟨hn, rfl⟩⟩
     obtain ⟨i20, i21, hlv, hl1, hl2⟩ := hlv
     refine ⟨i20, i21, hlv, fun b8 hb8 h6 hh6 => ⟨[As.byteOf i20], .inr ⟨b8, 0, rfl, rfl, ?_⟩, by simp only [List.length_singleton]; omega, ?_⟩⟩
     · refine row_lit (Put.at hh6) fun j v hj => ?_
       rw [Nat.zero_add, vU_byte]; exact hj
     have x6 := Put.ext hh6 hb8
     cases hlit : literalS t.text (-128) 255 with
     | error e =>
       have he0 := literal_ne hlit
       rw [hl1 e hlit]
       refine br_pos (by simp; omega) (fail e _ _ _ h6 x6 ?_)
       rw [hst, hlit]; rfl
     | ok n =>
       obtain ⟨rfl, rfl⟩ := hl2 n hlit
       refine br_neg rfl ?_
       refine copyU (us2 := []) (K := fun a16 n16 k16 h' => ∃ (m6 : Nat), m6 < m ∧ _ ∧ True) (hu.ext x6) hok (.inl rfl) (.inr ⟨rfl, rfl, rfl⟩) (by simp only [List.length_nil]; omega) rfl rfl rfl rfl rfl rfl (fun b => rfl) (fun b => rfl) (fun a n k => rfl) (fun a n k => rfl) fun a' k' h' x'' g1 g2 => ?_
       refine next (more ++ [As.byteOf i20]) [] ?_ (by rw [List.length_append, List.length_singleton]; omega) (by simp) a' k' h' (x6.trans x'') g1 g2
       rw [hst, hlit]
       simp [Except.map]
   · -- words
     have e3 := of_decide_eq_false e3
     have e4 := of_decide_eq_false e4
     have e5 := of_decide_eq_false e5
     have e6 : name = dWord := by
      rcases hn with h | h | h | h
      · exact h
      · exact absurd h e5
      · exact absurd h e3
      · exact absurd h e4
     have hcs := rcs_word (t := t) (hk1.resolve_right fun h => e3 (hkt.1 h))
     rw [hcs] at hr
     refine ⟨b, o, ha, ⟨by omega, by omega⟩, 119, t.text, by rw [Int.toNat_natCast]; exact hr, ?_⟩
     refine Tri.mono (rvalue_t (line := a.line) (kind := 1) (idx := a.p.data.length + more.length) hxt rfl rfl rfl) ?_
     rintro v h6 ⟨x6, hv⟩
     have hst : stepD { a with p := { a.p with data := a.p.data ++ more }, uses := a.uses ++ u } name t = (valueS a.line t.text 1 (a.p.data.length + more.length) (-2147483648) 4294967295).map fun x => { a with p := { a.p with data := a.p.data ++ more ++ wordOf x.1 }, uses := a.uses ++ u ++ x.2 } := by
      unfold stepD
      rw [if_pos e6]
      simp only [List.length_append]
     cases hval : valueS a.line t.text 1 (a.p.data.length + more.length) (-2147483648) 4294967295 with
     | error e =>
       rw [hval] at hv
       have hv : v = vT [vI 0, vL none 0 0, vI (e : Int)] := hv
       have := value_ne hval
       refine ⟨_, _, _, _, _, hv, rfl, ?_⟩
       refine Tri.mono (rword97_t 0) ?_
       rintro _ h7 ⟨rfl, x7⟩
       refine ⟨_, rfl, by simp [wordOf]; omega, br_pos (by simp; omega) (fail e _ _ _ h7 (x6.trans x7) ?_)⟩
       rw [hst, hval]; rfl
     | ok r =>
       obtain ⟨n, us2⟩ := r
       rw [hval] at hv
       obtain ⟨a', rfl, g1, g2⟩ := hv
       have hl2 : us2.length ≤ 1 := by
        unfold valueS at hval
        split at hval
        · split at hval
          · cases hval
          · injection hval with he; injection he with _ he; subst he; simp
        · split at hval
          · injection hval with he; injection he with _ he; subst he; simp
          · cases hval
       refine ⟨_, _, _, _, _, rfl, rfl, ?_⟩
       refine Tri.mono (rword97_t n) ?_
       rintro _ h7 ⟨rfl, x7⟩
       refine ⟨_, rfl, by simp [wordOf]; omega, br_neg rfl ?_⟩
       refine copyU (us2 := us2) (K := fun a16 n16 k16 h' => ∃ (m6 : Nat), m6 < m ∧ _ ∧ True) (hu.ext (x6.trans x7)) hok (g1.ext x7) g2 (by omega) rfl rfl rfl rfl rfl rfl (fun b => rfl) (fun b => rfl) (fun a n k => rfl) (fun a n k => rfl) fun a' k' h' x'' g1 g2 => ?_
       refine next (more ++ wordOf n) us2 ?_ (by rw [List.length_append]; simp [wordOf]; omega) hl2 a' k' h' ((x6.trans x7).trans x'') g1 g2
       rw [hst, hval]
       simp [Except.map]
 have hj : j = l.length := by have := of_decide_eq_false e2; omega
 subst hj
 rw [List.drop_length, foldD] at hfold
 rw [hfold]
 show br _ _ _
 refine br_split (fun e3 => ?_) fun e3 => ⟨by omega, ?_⟩
 · have e3 := of_decide_eq_true e3
   have : (Except.ok { a with p := { a.p with data := a.p.data ++ more }, uses := a.uses ++ u } >>= full : As.R As.St) = .error 9 := by
    show full _ = _
    unfold full; rw [if_pos (by simp only [List.length_append]; omega)]
   rw [this]
   exact ⟨x4, by decide, _, _, _, _, _, _, _, _, _, _, _, _, _, _, _, _, rfl⟩
 · have e3 := of_decide_eq_false e3
   have : (Except.ok { a with p := { a.p with data := a.p.data ++ more }, uses := a.uses ++ u } >>= full : As.R As.St) = .ok { a with p := { a.p with data := a.p.data ++ more }, uses := a.uses ++ u } := by
    show full _ = _
    unfold full; rw [if_neg (by simp only [List.length_append]; omega)]
   rw [this]
   have hA4 := hA.ext x4
   exact ⟨x4, a1, k1, a2, k2, a14, k13, rfl, hA4.ins, hA4.lbs, hu, hA4.ok1, hA4.ok2, hok, hA4.le2⟩
end
end Go.Proofs.D
namespace Go.Proofs.D
open Go Go.Den
set_option maxRecDepth 100000
set_option maxHeartbeats 4000000
abbrev ezk1 : List CK := [.slice, .str, qi, qi, .slice, .bool, .bool, .bool, .slice, qi]
abbrev o96_15 : Op := .call { callee := (.builtin .append), args := #[(.tmp 117), (.tmp 119)], argTypes := #[83, 83] }
abbrev o96_16 : Op := .call { callee := (.builtin .append), args := #[(.tmp 120), (.tmp 121)], argTypes := #[83, 83] }
noncomputable def d96 : DCode := up ⟨[(17, .l [.str]), (20, .c (.tup [(false, [qi]), (false, [.bool])])), (25, .l [.bool]), (26, .l ezk1), (27, .l ezk1), (31, .c (.tup [(true, ezk1), (false, [qi])])), (41, .l [.bool]), (43, .l ezk1), (44, .l ezk1), (46, .c (.tup [(true, ezk1), (false, [qi])])), (55, .l ezk1), (59, .l ezk1), (67, .l [.bool]), (74, .l [.bool]), (77, .l ezk1), (85, .l [.int .u8]), (88, .l ezk1), (94, .l [.int .u8, .str]), (95, .c (.tup [(false, [qi]), (false, [qi])])), (102, .l ezk1), (105, .l ezk1), (108, .l [.int .u8, .str]), (109, .c (.tup [(false, [qi]), (false, [.slice]), (false, [qi])])), (119, .l [.slice]), (120, .c (.one false [.slice])), (122, .c (.one false [.slice])), (124, .l ezk1), (126, .l ezk1)], [], []⟩ (low Tryz.prog (fun _ => false) (Tryz.f96.body.getD .skip))
theorem low96 : low Tryz.prog (fun _ => false) (Tryz.f96.body.getD .skip) = some (eC d96) := by kernel_rfl
def R96 (a1 : OA) (n1 : Nat) (ezk1 : Nat) (l1 : Bs) (i1 : Int) (i2 : Int) (a2 : OA) (n2 : Nat) (k2 : Nat) (c1 : Bool) (c2 : Bool) (c3 : Bool) (a3 : OA) (n3 : Nat) (k3 : Nat) (i3 : Int) (a4 : OA) (n4 : Nat) (k4 : Nat) (h : PHeap) (Q : Value → PHeap → Prop) : Prop :=
 ∃ (b1 o1 : Nat), a4 = some ⟨b1, o1, none⟩ ∧ (0 ≤ (0 : Int) ∧ (0 : Int) < n4) ∧
 ∃ (l2 : Bs), h.cell b1 (o1 + 1) = some (vS l2) ∧
 Tri Tryz.prog 133 [vS l2] h fun v_1 h_1 =>
 ∃ (i4 : Int) (c4 : Bool), v_1 = vT [vI i4, vB c4] ∧
 br c4
 (br c1
 (Q (vT [vA [vL a1 n1 ezk1, vS l1, vI i1, vI i2, vL a2 n2 k2, vB c1, vB c2, vB c3, vL a3 n3 k3, vI i3], vI 10]) h_1)
 ((okA a4 n4 k4 ∧ 0 ≤ (1 : Int) ∧ (1 : Int) ≤ ((n4 : Nat) : Int) ∧ ((n4 : Nat) : Int) ≤ k4) ∧ ∀ (a5 : OA), SlA a4 a5 1 k4 2 →
 Tri Tryz.prog 134 [vA [vL a1 n1 ezk1, vS l1, vI i1, vI i2, vL a2 n2 k2, vB c1, vB c2, vB c3, vL a3 n3 k3, vI i3], vI i4, vL a5 (((n4 : Nat) : Int).toNat - 1) (k4 - 1)] h_1 fun v_2 h_2 =>
 ∃ (a6 : OA) (n5 k5 : Nat) (l3 : Bs) (i5 i6 : Int) (a7 : OA) (n6 k6 : Nat) (c5 c6 c7 : Bool) (a8 : OA) (n7 k7 : Nat) (i7 i8 : Int), v_2 = vT [vA [vL a6 n5 k5, vS l3, vI i5, vI i6, vL a7 n6 k6, vB c5, vB c6, vB c7, vL a8 n7 k7, vI i7], vI i8] ∧
 Q (vT [vA [vL a6 n5 k5, vS l3, vI i5, vI i6, vL a7 n6 k6, vB c5, vB c6, vB c7, vL a8 n7 k7, vI i7], vI i8]) h_2))
 (br (l2 == [46, 119, 111, 114, 100])
 (br (!c1)
 (Q (vT [vA [vL a1 n1 ezk1, vS l1, vI i1, vI i2, vL a2 n2 k2, vB c1, vB c2, vB c3, vL a3 n3 k3, vI i3], vI 10]) h_1)
 (Tri Tryz.prog 135 [vA [vL a1 n1 ezk1, vS l1, vI i1, vI i2, vL a2 n2 k2, vB c1, vB c2, vB c3, vL a3 n3 k3, vI i3], vL a4 n4 k4] h_1 fun v_3 h_3 =>
 ∃ (a9 : OA) (n8 k8 : Nat) (l4 : Bs) (i9 i10 : Int) (a10 : OA) (n9 k9 : Nat) (c8 c9 c10 : Bool) (a11 : OA) (n10 k10 : Nat) (i11 i12 : Int), v_3 = vT [vA [vL a9 n8 k8, vS l4, vI i9, vI i10, vL a10 n9 k9, vB c8, vB c9, vB c10, vL a11 n10 k10, vI i11], vI i12] ∧
 Q (vT [vA [vL a9 n8 k8, vS l4, vI i9, vI i10, vL a10 n9 k9, vB c8, vB c9, vB c10, vL a11 n10 k10, vI i11], vI i12]) h_3))
 (br (l2 == [46, 98, 121, 116, 101])
 (br (!c1)
 (Q (vT [vA [vL a1 n1 ezk1, vS l1, vI i1, vI i2, vL a2 n2 k2, vB c1, vB c2, vB c3, vL a3 n3 k3, vI i3], vI 10]) h_1)
 (Tri Tryz.prog 135 [vA [vL a1 n1 ezk1, vS l1, vI i1, vI i2, vL a2 n2 k2, vB c1, vB c2, vB c3, vL a3 n3 k3, vI i3], vL a4 n4 k4] h_1 fun v_4 h_4 =>
 ∃ (a12 : OA) (n11 k11 : Nat) (l5 : Bs) (i13 i14 : Int) (a13 : OA) (n12 k12 : Nat) (c11 c12 c13 : Bool) (a14 : OA) (n13 k13 : Nat) (i15 i16 : Int), v_4 = vT [vA [vL a12 n11 k11, vS l5, vI i13, vI i14, vL a13 n12 k12, vB c11, vB c12, vB c13, vL a14 n13 k13, vI i15], vI i16] ∧
 Q (vT [vA [vL a12 n11 k11, vS l5, vI i13, vI i14, vL a13 n12 k12, vB c11, vB c12, vB c13, vL a14 n13 k13, vI i15], vI i16]) h_4))
 (br (l2 == [46, 116, 101, 120, 116])
 (br (!c1)
 (Q (vT [vA [vL a1 n1 ezk1, vS l1, vI i1, vI i2, vL a2 n2 k2, vB c1, vB c2, vB c3, vL a3 n3 k3, vI i3], vI 10]) h_1)
 (Tri Tryz.prog 135 [vA [vL a1 n1 ezk1, vS l1, vI i1, vI i2, vL a2 n2 k2, vB c1, vB c2, vB c3, vL a3 n3 k3, vI i3], vL a4 n4 k4] h_1 fun v_5 h_5 =>
 ∃ (a15 : OA) (n14 k14 : Nat) (l6 : Bs) (i17 i18 : Int) (a16 : OA) (n15 k15 : Nat) (c14 c15 c16 : Bool) (a17 : OA) (n16 k16 : Nat) (i19 i20 : Int), v_5 = vT [vA [vL a15 n14 k14, vS l6, vI i17, vI i18, vL a16 n15 k15, vB c14, vB c15, vB c16, vL a17 n16 k16, vI i19], vI i20] ∧
 Q (vT [vA [vL a15 n14 k14, vS l6, vI i17, vI i18, vL a16 n15 k15, vB c14, vB c15, vB c16, vL a17 n16 k16, vI i19], vI i20]) h_5))
 (br (l2 == [46, 115, 112, 97, 99, 101])
 (br (!c1)
 (Q (vT [vA [vL a1 n1 ezk1, vS l1, vI i1, vI i2, vL a2 n2 k2, vB c1, vB c2, vB c3, vL a3 n3 k3, vI i3], vI 10]) h_1)
 (Tri Tryz.prog 135 [vA [vL a1 n1 ezk1, vS l1, vI i1, vI i2, vL a2 n2 k2, vB c1, vB c2, vB c3, vL a3 n3 k3, vI i3], vL a4 n4 k4] h_1 fun v_6 h_6 =>
 ∃ (a18 : OA) (n17 k17 : Nat) (l7 : Bs) (i21 i22 : Int) (a19 : OA) (n18 k18 : Nat) (c17 c18 c19 : Bool) (a20 : OA) (n19 k19 : Nat) (i23 i24 : Int), v_6 = vT [vA [vL a18 n17 k17, vS l7, vI i21, vI i22, vL a19 n18 k18, vB c17, vB c18, vB c19, vL a20 n19 k19, vI i23], vI i24] ∧
 Q (vT [vA [vL a18 n17 k17, vS l7, vI i21, vI i22, vL a19 n18 k18, vB c17, vB c18, vB c19, vL a20 n19 k19, vI i23], vI i24]) h_6))
 (br (l2 == [46, 99, 111, 100, 101])
 (br (((n4 : Nat) : Int) != 1)
 (Q (vT [vA [vL a1 n1 ezk1, vS l1, vI i1, vI i2, vL a2 n2 k2, vB c1, vB c2, vB c3, vL a3 n3 k3, vI i3], vI 30]) h_1)
 (Q (vT [vA [vL a1 n1 ezk1, vS l1, vI i1, vI i2, vL a2 n2 k2, vB (l2 == [46, 100, 97, 116, 97]), vB c2, vB c3, vL a3 n3 k3, vI i3], vI 0]) h_1))
 (br (l2 == [46, 100, 97, 116, 97])
 (br (((n4 : Nat) : Int) != 1)
 (Q (vT [vA [vL a1 n1 ezk1, vS l1, vI i1, vI i2, vL a2 n2 k2, vB c1, vB c2, vB c3, vL a3 n3 k3, vI i3], vI 30]) h_1)
 (Q (vT [vA [vL a1 n1 ezk1, vS l1, vI i1, vI i2, vL a2 n2 k2, vB (l2 == [46, 100, 97, 116, 97]), vB c2, vB c3, vL a3 n3 k3, vI i3], vI 0]) h_1))
 (br (l2 == [46, 101, 110, 116, 114, 121])
 (br (l2 == [46, 101, 110, 116, 114, 121])
 (br c2
 (Q (vT [vA [vL a1 n1 ezk1, vS l1, vI i1, vI i2, vL a2 n2 k2, vB c1, vB c2, vB c3, vL a3 n3 k3, vI i3], vI 10]) h_1)
 (br (l2 == [46, 122, 101, 114, 111])
 (br c3
 (Q (vT [vA [vL a1 n1 ezk1, vS l1, vI i1, vI i2, vL a2 n2 k2, vB c1, vB c2, vB c3, vL a3 n3 k3, vI i3], vI 10]) h_1)
 (br (((n4 : Nat) : Int) != 2)
 (Q (vT [vA [vL a1 n1 ezk1, vS l1, vI i1, vI i2, vL a2 n2 k2, vB c1, vB c2, vB c3, vL a3 n3 k3, vI i3], vI 30]) h_1)
 (∃ (b2 o2 : Nat), a4 = some ⟨b2, o2, none⟩ ∧ (0 ≤ (1 : Int) ∧ (1 : Int) < n4) ∧
 ∃ (i25 : Int), h_1.cell b2 (o2 + 2) = some (vU i25) ∧
 br (i25 == 115)
 (Q (vT [vA [vL a1 n1 ezk1, vS l1, vI i1, vI i2, vL a2 n2 k2, vB c1, vB c2, vB c3, vL a3 n3 k3, vI i3], vI 30]) h_1)
 (br (l2 == [46, 122, 101, 114, 111])
 (∃ (b3 o3 : Nat), a4 = some ⟨b3, o3, none⟩ ∧ (0 ≤ (1 : Int) ∧ (1 : Int) < n4) ∧
 ∃ (i26 : Int) (l8 : Bs), h_1.row b3 (o3 + 2) [vU i26, vS l8] ∧
 Tri Tryz.prog 136 [vA [vU i26, vS l8], vI 0, vI 4096] h_1 fun v_7 h_7 =>
 ∃ (i27 i28 : Int), v_7 = vT [vI i27, vI i28] ∧
 Q (vT [vA [vL a1 n1 ezk1, vS l1, vI i27, vI i2, vL a2 n2 k2, vB c1, vB c2, vB true, vL a3 n3 k3, vI i3], vI i28]) h_7)
 (∃ (b4 o4 : Nat), a4 = some ⟨b4, o4, none⟩ ∧ (0 ≤ (1 : Int) ∧ (1 : Int) < n4) ∧
 ∃ (i29 : Int) (l9 : Bs), h_1.row b4 (o4 + 2) [vU i29, vS l9] ∧
 Tri Tryz.prog 137 [vA [vL a1 n1 ezk1, vS l1, vI i1, vI i2, vL a2 n2 k2, vB c1, vB c2, vB c3, vL a3 n3 k3, vI i3], vA [vU i29, vS l9], vI 2, vI 0, vI (-9999999999), vI 9999999999] h_1 fun v_8 h_8 =>
 ∃ (i30 : Int) (a21 : OA) (n20 k20 : Nat) (i31 : Int), v_8 = vT [vI i30, vL a21 n20 k20, vI i31] ∧
 ∀ (b5 : Nat), h_8 b5 = none → ∀ (h_9 : PHeap), h_9 = h_8.put b5 (.cells ⟨[]⟩ 145) →
 Raw Tryz.prog (execOp (rho [(117, vL (ad b5 0) 0 0), (119, vL a3 n3 k3)]) (mkO o96_15 83)) h_9 fun v_9 h_10 =>
 ∃ (a22 : OA) (n21 k21 : Nat), v_9 = vL a22 n21 k21 ∧
 Raw Tryz.prog (execOp (rho [(120, vL a22 n21 k21), (121, vL a21 n20 k20)]) (mkO o96_16 83)) h_10 fun v_10 h_11 =>
 ∃ (a23 : OA) (n22 k22 : Nat), v_10 = vL a23 n22 k22 ∧
 Q (vT [vA [vL a1 n1 ezk1, vS l1, vI i1, vI i30, vL a2 n2 k2, vB c1, vB true, vB c3, vL a23 n22 k22, vI i3], vI i31]) h_11)))))
 (br (((n4 : Nat) : Int) != 2)
 (Q (vT [vA [vL a1 n1 ezk1, vS l1, vI i1, vI i2, vL a2 n2 k2, vB c1, vB c2, vB c3, vL a3 n3 k3, vI i3], vI 30]) h_1)
 (∃ (b6 o5 : Nat), a4 = some ⟨b6, o5, none⟩ ∧ (0 ≤ (1 : Int) ∧ (1 : Int) < n4) ∧
 ∃ (i32 : Int), h_1.cell b6 (o5 + 2) = some (vU i32) ∧
 br (i32 == 115)
 (Q (vT [vA [vL a1 n1 ezk1, vS l1, vI i1, vI i2, vL a2 n2 k2, vB c1, vB c2, vB c3, vL a3 n3 k3, vI i3], vI 30]) h_1)
 (br (l2 == [46, 122, 101, 114, 111])
 (∃ (b7 o6 : Nat), a4 = some ⟨b7, o6, none⟩ ∧ (0 ≤ (1 : Int) ∧ (1 : Int) < n4) ∧
 ∃ (i33 : Int) (l10 : Bs), h_1.row b7 (o6 + 2) [vU i33, vS l10] ∧
 Tri Tryz.prog 136 [vA [vU i33, vS l10], vI 0, vI 4096] h_1 fun v_11 h_12 =>
 ∃ (i34 i35 : Int), v_11 = vT [vI i34, vI i35] ∧
 Q (vT [vA [vL a1 n1 ezk1, vS l1, vI i34, vI i2, vL a2 n2 k2, vB c1, vB c2, vB true, vL a3 n3 k3, vI i3], vI i35]) h_12)
 (∃ (b8 o7 : Nat), a4 = some ⟨b8, o7, none⟩ ∧ (0 ≤ (1 : Int) ∧ (1 : Int) < n4) ∧
 ∃ (i36 : Int) (l11 : Bs), h_1.row b8 (o7 + 2) [vU i36, vS l11] ∧
 Tri Tryz.prog 137 [vA [vL a1 n1 ezk1, vS l1, vI i1, vI i2, vL a2 n2 k2, vB c1, vB c2, vB c3, vL a3 n3 k3, vI i3], vA [vU i36, vS l11], vI 2, vI 0, vI (-9999999999), vI 9999999999] h_1 fun v_12 h_13 =>
 ∃ (i37 : Int) (a24 : OA) (n23 k23 : Nat) (i38 : Int), v_12 = vT [vI i37, vL a24 n23 k23, vI i38] ∧
 ∀ (b9 : Nat), h_13 b9 = none → ∀ (h_14 : PHeap), h_14 = h_13.put b9 (.cells ⟨[]⟩ 145) →
 Raw Tryz.prog (execOp (rho [(117, vL (ad b9 0) 0 0), (119, vL a3 n3 k3)]) (mkO o96_15 83)) h_14 fun v_13 h_15 =>
 ∃ (a25 : OA) (n24 k24 : Nat), v_13 = vL a25 n24 k24 ∧
 Raw Tryz.prog (execOp (rho [(120, vL a25 n24 k24), (121, vL a24 n23 k23)]) (mkO o96_16 83)) h_15 fun v_14 h_16 =>
 ∃ (a26 : OA) (n25 k25 : Nat), v_14 = vL a26 n25 k25 ∧
 Q (vT [vA [vL a1 n1 ezk1, vS l1, vI i1, vI i37, vL a2 n2 k2, vB c1, vB true, vB c3, vL a26 n25 k25, vI i3], vI i38]) h_16))))))
 (br (l2 == [46, 122, 101, 114, 111])
 (br c3
 (Q (vT [vA [vL a1 n1 ezk1, vS l1, vI i1, vI i2, vL a2 n2 k2, vB c1, vB c2, vB c3, vL a3 n3 k3, vI i3], vI 10]) h_1)
 (br (((n4 : Nat) : Int) != 2)
 (Q (vT [vA [vL a1 n1 ezk1, vS l1, vI i1, vI i2, vL a2 n2 k2, vB c1, vB c2, vB c3, vL a3 n3 k3, vI i3], vI 30]) h_1)
 (∃ (b10 o8 : Nat), a4 = some ⟨b10, o8, none⟩ ∧ (0 ≤ (1 : Int) ∧ (1 : Int) < n4) ∧
 ∃ (i39 : Int), h_1.cell b10 (o8 + 2) = some (vU i39) ∧
 br (i39 == 115)
 (Q (vT [vA [vL a1 n1 ezk1, vS l1, vI i1, vI i2, vL a2 n2 k2, vB c1, vB c2, vB c3, vL a3 n3 k3, vI i3], vI 30]) h_1)
 (br (l2 == [46, 122, 101, 114, 111])
 (∃ (b11 o9 : Nat), a4 = some ⟨b11, o9, none⟩ ∧ (0 ≤ (1 : Int) ∧ (1 : Int) < n4) ∧
 ∃ (i40 : Int) (l12 : Bs), h_1.row b11 (o9 + 2) [vU i40, vS l12] ∧
 Tri Tryz.prog 136 [vA [vU i40, vS l12], vI 0, vI 4096] h_1 fun v_15 h_17 =>
 ∃ (i41 i42 : Int), v_15 = vT [vI i41, vI i42] ∧
 Q (vT [vA [vL a1 n1 ezk1, vS l1, vI i41, vI i2, vL a2 n2 k2, vB c1, vB c2, vB true, vL a3 n3 k3, vI i3], vI i42]) h_17)
 (∃ (b12 o10 : Nat), a4 = some ⟨b12, o10, none⟩ ∧ (0 ≤ (1 : Int) ∧ (1 : Int) < n4) ∧
 ∃ (i43 : Int) (l13 : Bs), h_1.row b12 (o10 + 2) [vU i43, vS l13] ∧
 Tri Tryz.prog 137 [vA [vL a1 n1 ezk1, vS l1, vI i1, vI i2, vL a2 n2 k2, vB c1, vB c2, vB c3, vL a3 n3 k3, vI i3], vA [vU i43, vS l13], vI 2, vI 0, vI (-9999999999), vI 9999999999] h_1 fun v_16 h_18 =>
 ∃ (i44 : Int) (a27 : OA) (n26 k26 : Nat) (i45 : Int), v_16 = vT [vI i44, vL a27 n26 k26, vI i45] ∧
 ∀ (b13 : Nat), h_18 b13 = none → ∀ (h_19 : PHeap), h_19 = h_18.put b13 (.cells ⟨[]⟩ 145) →
 Raw Tryz.prog (execOp (rho [(117, vL (ad b13 0) 0 0), (119, vL a3 n3 k3)]) (mkO o96_15 83)) h_19 fun v_17 h_20 =>
 ∃ (a28 : OA) (n27 k27 : Nat), v_17 = vL a28 n27 k27 ∧
 Raw Tryz.prog (execOp (rho [(120, vL a28 n27 k27), (121, vL a27 n26 k26)]) (mkO o96_16 83)) h_20 fun v_18 h_21 =>
 ∃ (a29 : OA) (n28 k28 : Nat), v_18 = vL a29 n28 k28 ∧
 Q (vT [vA [vL a1 n1 ezk1, vS l1, vI i1, vI i44, vL a2 n2 k2, vB c1, vB true, vB c3, vL a29 n28 k28, vI i3], vI i45]) h_21)))))
 (br (((n4 : Nat) : Int) != 2)
 (Q (vT [vA [vL a1 n1 ezk1, vS l1, vI i1, vI i2, vL a2 n2 k2, vB c1, vB c2, vB c3, vL a3 n3 k3, vI i3], vI 30]) h_1)
 (∃ (b14 o11 : Nat), a4 = some ⟨b14, o11, none⟩ ∧ (0 ≤ (1 : Int) ∧ (1 : Int) < n4) ∧
 ∃ (i46 : Int), h_1.cell b14 (o11 + 2) = some (vU i46) ∧
 br (i46 == 115)
 (Q (vT [vA [vL a1 n1 ezk1, vS l1, vI i1, vI i2, vL a2 n2 k2, vB c1, vB c2, vB c3, vL a3 n3 k3, vI i3], vI 30]) h_1)
 (br (l2 == [46, 122, 101, 114, 111])
 (∃ (b15 o12 : Nat), a4 = some ⟨b15, o12, none⟩ ∧ (0 ≤ (1 : Int) ∧ (1 : Int) < n4) ∧
 ∃ (i47 : Int) (l14 : Bs), h_1.row b15 (o12 + 2) [vU i47, vS l14] ∧
 Tri Tryz.prog 136 [vA [vU i47, vS l14], vI 0, vI 4096] h_1 fun v_19 h_22 =>
 ∃ (i48 i49 : Int), v_19 = vT [vI i48, vI i49] ∧
 Q (vT [vA [vL a1 n1 ezk1, vS l1, vI i48, vI i2, vL a2 n2 k2, vB c1, vB c2, vB true, vL a3 n3 k3, vI i3], vI i49]) h_22)
 (∃ (b16 o13 : Nat), a4 = some ⟨b16, o13, none⟩ ∧ (0 ≤ (1 : Int) ∧ (1 : Int) < n4) ∧
 ∃ (i50 : Int) (l15 : Bs), h_1.row b16 (o13 + 2) [vU i50, vS l15] ∧
 Tri Tryz.prog 137 [vA [vL a1 n1 ezk1, vS l1, vI i1, vI i2, vL a2 n2 k2, vB c1, vB c2, vB c3, vL a3 n3 k3, vI i3], vA [vU i50, vS l15], vI 2, vI 0, vI (-9999999999), vI 9999999999] h_1 fun v_20 h_23 =>
 ∃ (i51 : Int) (a30 : OA) (n29 k29 : Nat) (i52 : Int), v_20 = vT [vI i51, vL a30 n29 k29, vI i52] ∧
 ∀ (b17 : Nat), h_23 b17 = none → ∀ (h_24 : PHeap), h_24 = h_23.put b17 (.cells ⟨[]⟩ 145) →
 Raw Tryz.prog (execOp (rho [(117, vL (ad b17 0) 0 0), (119, vL a3 n3 k3)]) (mkO o96_15 83)) h_24 fun v_21 h_25 =>
 ∃ (a31 : OA) (n30 k30 : Nat), v_21 = vL a31 n30 k30 ∧
 Raw Tryz.prog (execOp (rho [(120, vL a31 n30 k30), (121, vL a30 n29 k29)]) (mkO o96_16 83)) h_25 fun v_22 h_26 =>
 ∃ (a32 : OA) (n31 k31 : Nat), v_22 = vL a32 n31 k31 ∧
 Q (vT [vA [vL a1 n1 ezk1, vS l1, vI i1, vI i51, vL a2 n2 k2, vB c1, vB true, vB c3, vL a32 n31 k31, vI i3], vI i52]) h_26))))))
 (br (l2 == [46, 122, 101, 114, 111])
 (br (l2 == [46, 101, 110, 116, 114, 121])
 (br c2
 (Q (vT [vA [vL a1 n1 ezk1, vS l1, vI i1, vI i2, vL a2 n2 k2, vB c1, vB c2, vB c3, vL a3 n3 k3, vI i3], vI 10]) h_1)
 (br (l2 == [46, 122, 101, 114, 111])
 (br c3
 (Q (vT [vA [vL a1 n1 ezk1, vS l1, vI i1, vI i2, vL a2 n2 k2, vB c1, vB c2, vB c3, vL a3 n3 k3, vI i3], vI 10]) h_1)
 (br (((n4 : Nat) : Int) != 2)
 (Q (vT [vA [vL a1 n1 ezk1, vS l1, vI i1, vI i2, vL a2 n2 k2, vB c1, vB c2, vB c3, vL a3 n3 k3, vI i3], vI 30]) h_1)
 (∃ (b18 o14 : Nat), a4 = some ⟨b18, o14, none⟩ ∧ (0 ≤ (1 : Int) ∧ (1 : Int) < n4) ∧
 ∃ (i53 : Int), h_1.cell b18 (o14 + 2) = some (vU i53) ∧
 br (i53 == 115)
 (Q (vT [vA [vL a1 n1 ezk1, vS l1, vI i1, vI i2, vL a2 n2 k2, vB c1, vB c2, vB c3, vL a3 n3 k3, vI i3], vI 30]) h_1)
 (br (l2 == [46, 122, 101, 114, 111])
 (∃ (b19 o15 : Nat), a4 = some ⟨b19, o15, none⟩ ∧ (0 ≤ (1 : Int) ∧ (1 : Int) < n4) ∧
 ∃ (i54 : Int) (l16 : Bs), h_1.row b19 (o15 + 2) [vU i54, vS l16] ∧
 Tri Tryz.prog 136 [vA [vU i54, vS l16], vI 0, vI 4096] h_1 fun v_23 h_27 =>
 ∃ (i55 i56 : Int), v_23 = vT [vI i55, vI i56] ∧
 Q (vT [vA [vL a1 n1 ezk1, vS l1, vI i55, vI i2, vL a2 n2 k2, vB c1, vB c2, vB true, vL a3 n3 k3, vI i3], vI i56]) h_27)
 (∃ (b20 o16 : Nat), a4 = some ⟨b20, o16, none⟩ ∧ (0 ≤ (1 : Int) ∧ (1 : Int) < n4) ∧
 ∃ (i57 : Int) (l17 : Bs), h_1.row b20 (o16 + 2) [vU i57, vS l17] ∧
 Tri Tryz.prog 137 [vA [vL a1 n1 ezk1, vS l1, vI i1, vI i2, vL a2 n2 k2, vB c1, vB c2, vB c3, vL a3 n3 k3, vI i3], vA [vU i57, vS l17], vI 2, vI 0, vI (-9999999999), vI 9999999999] h_1 fun v_24 h_28 =>
 ∃ (i58 : Int) (a33 : OA) (n32 k32 : Nat) (i59 : Int), v_24 = vT [vI i58, vL a33 n32 k32, vI i59] ∧
 ∀ (b21 : Nat), h_28 b21 = none → ∀ (h_29 : PHeap), h_29 = h_28.put b21 (.cells ⟨[]⟩ 145) →
 Raw Tryz.prog (execOp (rho [(117, vL (ad b21 0) 0 0), (119, vL a3 n3 k3)]) (mkO o96_15 83)) h_29 fun v_25 h_30 =>
 ∃ (a34 : OA) (n33 k33 : Nat), v_25 = vL a34 n33 k33 ∧
 Raw Tryz.prog (execOp (rho [(120, vL a34 n33 k33), (121, vL a33 n32 k32)]) (mkO o96_16 83)) h_30 fun v_26 h_31 =>
 ∃ (a35 : OA) (n34 k34 : Nat), v_26 = vL a35 n34 k34 ∧
 Q (vT [vA [vL a1 n1 ezk1, vS l1, vI i1, vI i58, vL a2 n2 k2, vB c1, vB true, vB c3, vL a35 n34 k34, vI i3], vI i59]) h_31)))))
 (br (((n4 : Nat) : Int) != 2)
 (Q (vT [vA [vL a1 n1 ezk1, vS l1, vI i1, vI i2, vL a2 n2 k2, vB c1, vB c2, vB c3, vL a3 n3 k3, vI i3], vI 30]) h_1)
 (∃ (b22 o17 : Nat), a4 = some ⟨b22, o17, none⟩ ∧ (0 ≤ (1 : Int) ∧ (1 : Int) < n4) ∧
 ∃ (i60 : Int), h_1.cell b22 (o17 + 2) = some (vU i60) ∧
 br (i60 == 115)
 (Q (vT [vA [vL a1 n1 ezk1, vS l1, vI i1, vI i2, vL a2 n2 k2, vB c1, vB c2, vB c3, vL a3 n3 k3, vI i3], vI 30]) h_1)
 (br (l2 == [46, 122, 101, 114, 111])
 (∃ (b23 o18 : Nat), a4 = some ⟨b23, o18, none⟩ ∧ (0 ≤ (1 : Int) ∧ (1 : Int) < n4) ∧
 ∃ (i61 : Int) (l18 : Bs), h_1.row b23 (o18 + 2) [vU i61, vS l18] ∧
 Tri Tryz.prog 136 [vA [vU i61, vS l18], vI 0, vI 4096] h_1 fun v_27 h_32 =>
 ∃ (i62 i63 : Int), v_27 = vT [vI i62, vI i63] ∧
 Q (vT [vA [vL a1 n1 ezk1, vS l1, vI i62, vI i2, vL a2 n2 k2, vB c1, vB c2, vB true, vL a3 n3 k3, vI i3], vI i63]) h_32)
 (∃ (b24 o19 : Nat), a4 = some ⟨b24, o19, none⟩ ∧ (0 ≤ (1 : Int) ∧ (1 : Int) < n4) ∧
 ∃ (i64 : Int) (l19 : Bs), h_1.row b24 (o19 + 2) [vU i64, vS l19] ∧
 Tri Tryz.prog 137 [vA [vL a1 n1 ezk1, vS l1, vI i1, vI i2, vL a2 n2 k2, vB c1, vB c2, vB c3, vL a3 n3 k3, vI i3], vA [vU i64, vS l19], vI 2, vI 0, vI (-9999999999), vI 9999999999] h_1 fun v_28 h_33 =>
 ∃ (i65 : Int) (a36 : OA) (n35 k35 : Nat) (i66 : Int), v_28 = vT [vI i65, vL a36 n35 k35, vI i66] ∧
 ∀ (b25 : Nat), h_33 b25 = none → ∀ (h_34 : PHeap), h_34 = h_33.put b25 (.cells ⟨[]⟩ 145) →
 Raw Tryz.prog (execOp (rho [(117, vL (ad b25 0) 0 0), (119, vL a3 n3 k3)]) (mkO o96_15 83)) h_34 fun v_29 h_35 =>
 ∃ (a37 : OA) (n36 k36 : Nat), v_29 = vL a37 n36 k36 ∧
 Raw Tryz.prog (execOp (rho [(120, vL a37 n36 k36), (121, vL a36 n35 k35)]) (mkO o96_16 83)) h_35 fun v_30 h_36 =>
 ∃ (a38 : OA) (n37 k37 : Nat), v_30 = vL a38 n37 k37 ∧
 Q (vT [vA [vL a1 n1 ezk1, vS l1, vI i1, vI i65, vL a2 n2 k2, vB c1, vB true, vB c3, vL a38 n37 k37, vI i3], vI i66]) h_36))))))
 (br (l2 == [46, 122, 101, 114, 111])
 (br c3
 (Q (vT [vA [vL a1 n1 ezk1, vS l1, vI i1, vI i2, vL a2 n2 k2, vB c1, vB c2, vB c3, vL a3 n3 k3, vI i3], vI 10]) h_1)
 (br (((n4 : Nat) : Int) != 2)
 (Q (vT [vA [vL a1 n1 ezk1, vS l1, vI i1, vI i2, vL a2 n2 k2, vB c1, vB c2, vB c3, vL a3 n3 k3, vI i3], vI 30]) h_1)
 (∃ (b26 o20 : Nat), a4 = some ⟨b26, o20, none⟩ ∧ (0 ≤ (1 : Int) ∧ (1 : Int) < n4) ∧
 ∃ (i67 : Int), h_1.cell b26 (o20 + 2) = some (vU i67) ∧
 br (i67 == 115)
 (Q (vT [vA [vL a1 n1 ezk1, vS l1, vI i1, vI i2, vL a2 n2 k2, vB c1, vB c2, vB c3, vL a3 n3 k3, vI i3], vI 30]) h_1)
 (br (l2 == [46, 122, 101, 114, 111])
 (∃ (b27 o21 : Nat), a4 = some ⟨b27, o21, none⟩ ∧ (0 ≤ (1 : Int) ∧ (1 : Int) < n4) ∧
 ∃ (i68 : Int) (l20 : Bs), h_1.row b27 (o21 + 2) [vU i68, vS l20] ∧
 Tri Tryz.prog 136 [vA [vU i68, vS l20], vI 0, vI 4096] h_1 fun v_31 h_37 =>
 ∃ (i69 i70 : Int), v_31 = vT [vI i69, vI i70] ∧
 Q (vT [vA [vL a1 n1 ezk1, vS l1, vI i69, vI i2, vL a2 n2 k2, vB c1, vB c2, vB true, vL a3 n3 k3, vI i3], vI i70]) h_37)
 (∃ (b28 o22 : Nat), a4 = some ⟨b28, o22, none⟩ ∧ (0 ≤ (1 : Int) ∧ (1 : Int) < n4) ∧
 ∃ (i71 : Int) (l21 : Bs), h_1.row b28 (o22 + 2) [vU i71, vS l21] ∧
 Tri Tryz.prog 137 [vA [vL a1 n1 ezk1, vS l1, vI i1, vI i2, vL a2 n2 k2, vB c1, vB c2, vB c3, vL a3 n3 k3, vI i3], vA [vU i71, vS l21], vI 2, vI 0, vI (-9999999999), vI 9999999999] h_1 fun v_32 h_38 =>
 ∃ (i72 : Int) (a39 : OA) (n38 k38 : Nat) (i73 : Int), v_32 = vT [vI i72, vL a39 n38 k38, vI i73] ∧
 ∀ (b29 : Nat), h_38 b29 = none → ∀ (h_39 : PHeap), h_39 = h_38.put b29 (.cells ⟨[]⟩ 145) →
 Raw Tryz.prog (execOp (rho [(117, vL (ad b29 0) 0 0), (119, vL a3 n3 k3)]) (mkO o96_15 83)) h_39 fun v_33 h_40 =>
 ∃ (a40 : OA) (n39 k39 : Nat), v_33 = vL a40 n39 k39 ∧
 Raw Tryz.prog (execOp (rho [(120, vL a40 n39 k39), (121, vL a39 n38 k38)]) (mkO o96_16 83)) h_40 fun v_34 h_41 =>
 ∃ (a41 : OA) (n40 k40 : Nat), v_34 = vL a41 n40 k40 ∧
 Q (vT [vA [vL a1 n1 ezk1, vS l1, vI i1, vI i72, vL a2 n2 k2, vB c1, vB true, vB c3, vL a41 n40 k40, vI i3], vI i73]) h_41)))))
 (br (((n4 : Nat) : Int) != 2)
 (Q (vT [vA [vL a1 n1 ezk1, vS l1, vI i1, vI i2, vL a2 n2 k2, vB c1, vB c2, vB c3, vL a3 n3 k3, vI i3], vI 30]) h_1)
 (∃ (b30 o23 : Nat), a4 = some ⟨b30, o23, none⟩ ∧ (0 ≤ (1 : Int) ∧ (1 : Int) < n4) ∧
 ∃ (i74 : Int), h_1.cell b30 (o23 + 2) = some (vU i74) ∧
 br (i74 == 115)
 (Q (vT [vA [vL a1 n1 ezk1, vS l1, vI i1, vI i2, vL a2 n2 k2, vB c1, vB c2, vB c3, vL a3 n3 k3, vI i3], vI 30]) h_1)
 (br (l2 == [46, 122, 101, 114, 111])
 (∃ (b31 o24 : Nat), a4 = some ⟨b31, o24, none⟩ ∧ (0 ≤ (1 : Int) ∧ (1 : Int) < n4) ∧
 ∃ (i75 : Int) (l22 : Bs), h_1.row b31 (o24 + 2) [vU i75, vS l22] ∧
 Tri Tryz.prog 136 [vA [vU i75, vS l22], vI 0, vI 4096] h_1 fun v_35 h_42 =>
 ∃ (i76 i77 : Int), v_35 = vT [vI i76, vI i77] ∧
 Q (vT [vA [vL a1 n1 ezk1, vS l1, vI i76, vI i2, vL a2 n2 k2, vB c1, vB c2, vB true, vL a3 n3 k3, vI i3], vI i77]) h_42)
 (∃ (b32 o25 : Nat), a4 = some ⟨b32, o25, none⟩ ∧ (0 ≤ (1 : Int) ∧ (1 : Int) < n4) ∧
 ∃ (i78 : Int) (l23 : Bs), h_1.row b32 (o25 + 2) [vU i78, vS l23] ∧
 Tri Tryz.prog 137 [vA [vL a1 n1 ezk1, vS l1, vI i1, vI i2, vL a2 n2 k2, vB c1, vB c2, vB c3, vL a3 n3 k3, vI i3], vA [vU i78, vS l23], vI 2, vI 0, vI (-9999999999), vI 9999999999] h_1 fun v_36 h_43 =>
 ∃ (i79 : Int) (a42 : OA) (n41 k41 : Nat) (i80 : Int), v_36 = vT [vI i79, vL a42 n41 k41, vI i80] ∧
 ∀ (b33 : Nat), h_43 b33 = none → ∀ (h_44 : PHeap), h_44 = h_43.put b33 (.cells ⟨[]⟩ 145) →
 Raw Tryz.prog (execOp (rho [(117, vL (ad b33 0) 0 0), (119, vL a3 n3 k3)]) (mkO o96_15 83)) h_44 fun v_37 h_45 =>
 ∃ (a43 : OA) (n42 k42 : Nat), v_37 = vL a43 n42 k42 ∧
 Raw Tryz.prog (execOp (rho [(120, vL a43 n42 k42), (121, vL a42 n41 k41)]) (mkO o96_16 83)) h_45 fun v_38 h_46 =>
 ∃ (a44 : OA) (n43 k43 : Nat), v_38 = vL a44 n43 k43 ∧
 Q (vT [vA [vL a1 n1 ezk1, vS l1, vI i1, vI i79, vL a2 n2 k2, vB c1, vB true, vB c3, vL a44 n43 k43, vI i3], vI i80]) h_46))))))
 (Q (vT [vA [vL a1 n1 ezk1, vS l1, vI i1, vI i2, vL a2 n2 k2, vB c1, vB c2, vB c3, vL a3 n3 k3, vI i3], vI 11]) h_1)))))))))
theorem T96 {a1 : OA} {n1 : Nat} {ezk1 : Nat} {l1 : Bs} {i1 : Int} {i2 : Int} {a2 : OA} {n2 : Nat} {k2 : Nat} {c1 : Bool} {c2 : Bool} {c3 : Bool} {a3 : OA} {n3 : Nat} {k3 : Nat} {i3 : Int} {a4 : OA} {n4 : Nat} {k4 : Nat} {h : PHeap} {Q : Value → PHeap → Prop} (hR : R96 a1 n1 ezk1 l1 i1 i2 a2 n2 k2 c1 c2 c3 a3 n3 k3 i3 a4 n4 k4 h Q) : Tri Tryz.prog 96 [vA [vL a1 n1 ezk1, vS l1, vI i1, vI i2, vL a2 n2 k2, vB c1, vB c2, vB c3, vL a3 n3 k3, vI i3], vL a4 n4 k4] h Q :=
 tri_of_dn mixed Tryz.func96 rfl (by kernel_rfl) low96 (rs := [.cell 4 true 10, .tmp 5]) (by kernel_rfl) rfl (Eq.mpr (by kernel_rfl : dnF Tryz.prog Tryz.f96.ntmps d96 [.cell 4 true 10, .tmp 5] [vA [vL a1 n1 ezk1, vS l1, vI i1, vI i2, vL a2 n2 k2, vB c1, vB c2, vB c3, vL a3 n3 k3, vI i3], vL a4 n4 k4] h Q = R96 a1 n1 ezk1 l1 i1 i2 a2 n2 k2 c1 c2 c3 a3 n3 k3 i3 a4 n4 k4 h Q) hR)
end Go.Proofs.D
namespace Go.As
def tailS (a : St) (name : Bytes) (l : List Tk) : R St :=
 if l.length ≠ 1 ∨ noStr l = false then .error 30
 else if name = dZero then (literalS (l.getD 0 ⟨1, []⟩).text 0 4096).map fun n => { a with p := { a.p with zero := n }, hasZero := true }
 else (valueS a.line (l.getD 0 ⟨1, []⟩).text 2 0 (-9999999999) 9999999999).map fun x => { a with p := { a.p with entry := x.1 }, hasEntry := true, uses := a.uses ++ x.2 }
theorem stmt_tail {a : St} {name : Bytes} {l : List Tk} (hn : name = dEntry ∨ name = dZero) : stmtS a name l = if (if name = dEntry then a.hasEntry else a.hasZero) = true then .error 10 else tailS a name l := by
 unfold stmtS tailS
 have hw : wordsB.findIdx? (· == name) = none := by rcases hn with rfl | rfl <;> decide
 rw [hw]
 rcases hn with rfl | rfl
 · show (if dEntry = dCode ∨ dEntry = dData then _ else _) = _
   rw [if_neg (by decide), if_pos rfl, if_pos rfl]
   by_cases g : a.hasEntry = true
   · rw [if_pos g, if_pos g]
   rw [if_neg g, if_neg g]
   by_cases g2 : l.length ≠ 1 ∨ noStr l = false
   · rw [if_pos g2, if_pos g2]
   rw [if_neg g2, if_neg g2, if_neg (show ¬ dEntry = dZero by decide)]
   cases valueS a.line (l.getD 0 ⟨1, []⟩).text 2 0 (-9999999999) 9999999999 <;> rfl
 · show (if dZero = dCode ∨ dZero = dData then _ else _) = _
   rw [if_neg (by decide), if_neg (show ¬ dZero = dEntry by decide), if_pos rfl, if_neg (show ¬ dZero = dEntry by decide)]
   by_cases g : a.hasZero = true
   · rw [if_pos g, if_pos g]
   rw [if_neg g, if_neg g]
   by_cases g2 : l.length ≠ 1 ∨ noStr l = false
   · rw [if_pos g2, if_pos g2]
   rw [if_neg g2, if_neg g2, if_pos rfl]
   cases literalS (l.getD 0 ⟨1, []⟩).text 0 4096 <;> rfl
theorem stmt_sect {a : St} {name : Bytes} {l : List Tk} (hn : name = dCode ∨ name = dData) : stmtS a name l = if l ≠ [] then .error 30 else .ok { a with inData := decide (name = dData) } := by
 unfold stmtS
 have hw : wordsB.findIdx? (· == name) = none := by rcases hn with rfl | rfl <;> decide
 rw [hw]
 show (if name = dCode ∨ name = dData then _ else _) = _
 rw [if_pos hn]
theorem stmt_none {a : St} {name : Bytes} {l : List Tk} (hw : wordsB.findIdx? (· == name) = none) (h1 : name ≠ dCode) (h2 : name ≠ dData) (h3 : name ≠ dEntry) (h4 : name ≠ dZero) (h5 : name ≠ dWord) (h6 : name ≠ dByte) (h7 : name ≠ dText) (h8 : name ≠ dSpace) : stmtS a name l = .error 11 := by
 unfold stmtS
 rw [hw]
 show (if name = dCode ∨ name = dData then _ else _) = _
 rw [if_neg (fun h => h.elim h1 h2), if_neg h3, if_neg h4, if_neg (fun h => h.elim h5 fun h => h.elim h6 fun h => h.elim h7 h8)]
theorem stmt_dstate {a : St} {name : Bytes} {l : List Tk} (hn : name = dWord ∨ name = dByte ∨ name = dText ∨ name = dSpace) (hi : a.inData = false) : stmtS a name l = .error 10 := by
 unfold stmtS
 have hw : wordsB.findIdx? (· == name) = none := by rcases hn with rfl | rfl | rfl | rfl <;> decide
 rw [hw]
 show (if name = dCode ∨ name = dData then _ else _) = _
 have h1 : ¬ (name = dCode ∨ name = dData) := by rcases hn with rfl | rfl | rfl | rfl <;> decide
 have h2 : ¬ name = dEntry := by rcases hn with rfl | rfl | rfl | rfl <;> decide
 have h3 : ¬ name = dZero := by rcases hn with rfl | rfl | rfl | rfl <;> decide
 rw [if_neg h1, if_neg h2, if_neg h3, if_pos hn, if_pos hi]
theorem stmt_oper {a : St} {name : Bytes} {l : List Tk} {op : Nat} (hw : wordsB.findIdx? (· == name) = some op) : stmtS a name l = if a.inData then .error 10 else if l.length ≠ operandsN op ∨ noStr l = false then .error 30 else instrS a op l := by
 unfold stmtS
 rw [hw]
end Go.As
namespace Go.Proofs.D
open Go Go.Den Go.As
set_option maxRecDepth 100000
attribute [local irreducible] IntKind.wrap Tri
def tail96 (a1 : OA) (n1 : Nat) (ezk1 : Nat) (l1 : Bs) (i1 : Int) (i2 : Int) (a2 : OA) (n2 : Nat) (k2 : Nat) (c1 : Bool) (c2 : Bool) (c3 : Bool) (a3 : OA) (n3 : Nat) (k3 : Nat) (i3 : Int) (a4 : OA) (n4 : Nat) (l2 : Bs) (h0 : PHeap) (Q : Value → PHeap → Prop) : Prop :=
 br (((n4 : Nat) : Int) != 2)
 (Q (vT [vA [vL a1 n1 ezk1, vS l1, vI i1, vI i2, vL a2 n2 k2, vB c1, vB c2, vB c3, vL a3 n3 k3, vI i3], vI 30]) h0)
 (∃ (b2 o2 : Nat), a4 = some ⟨b2, o2, none⟩ ∧ (0 ≤ (1 : Int) ∧ (1 : Int) < n4) ∧
 ∃ (i25 : Int), h0.cell b2 (o2 + 2) = some (vU i25) ∧
 br (i25 == 115)
 (Q (vT [vA [vL a1 n1 ezk1, vS l1, vI i1, vI i2, vL a2 n2 k2, vB c1, vB c2, vB c3, vL a3 n3 k3, vI i3], vI 30]) h0)
 (br (l2 == [46, 122, 101, 114, 111])
 (∃ (b3 o3 : Nat), a4 = some ⟨b3, o3, none⟩ ∧ (0 ≤ (1 : Int) ∧ (1 : Int) < n4) ∧
 ∃ (i26 : Int) (l8 : Bs), h0.row b3 (o3 + 2) [vU i26, vS l8] ∧
 Tri Tryz.prog 136 [vA [vU i26, vS l8], vI 0, vI 4096] h0 fun v_7 h_7 =>
 ∃ (i27 i28 : Int), v_7 = vT [vI i27, vI i28] ∧
 Q (vT [vA [vL a1 n1 ezk1, vS l1, vI i27, vI i2, vL a2 n2 k2, vB c1, vB c2, vB true, vL a3 n3 k3, vI i3], vI i28]) h_7)
 (∃ (b4 o4 : Nat), a4 = some ⟨b4, o4, none⟩ ∧ (0 ≤ (1 : Int) ∧ (1 : Int) < n4) ∧
 ∃ (i29 : Int) (l9 : Bs), h0.row b4 (o4 + 2) [vU i29, vS l9] ∧
 Tri Tryz.prog 137 [vA [vL a1 n1 ezk1, vS l1, vI i1, vI i2, vL a2 n2 k2, vB c1, vB c2, vB c3, vL a3 n3 k3, vI i3], vA [vU i29, vS l9], vI 2, vI 0, vI (-9999999999), vI 9999999999] h0 fun v_8 h_8 =>
 ∃ (i30 : Int) (a21 : OA) (n20 k20 : Nat) (i31 : Int), v_8 = vT [vI i30, vL a21 n20 k20, vI i31] ∧
 ∀ (b5 : Nat), h_8 b5 = none → ∀ (h_9 : PHeap), h_9 = h_8.put b5 (.cells ⟨[]⟩ 145) →
 Raw Tryz.prog (execOp (rho [(117, vL (ad b5 0) 0 0), (119, vL a3 n3 k3)]) (mkO o96_15 83)) h_9 fun v_9 h_10 =>
 ∃ (a22 : OA) (n21 k21 : Nat), v_9 = vL a22 n21 k21 ∧
 Raw Tryz.prog (execOp (rho [(120, vL a22 n21 k21), (121, vL a21 n20 k20)]) (mkO o96_16 83)) h_10 fun v_10 h_11 =>
 ∃ (a23 : OA) (n22 k22 : Nat), v_10 = vL a23 n22 k22 ∧
 Q (vT [vA [vL a1 n1 ezk1, vS l1, vI i1, vI i30, vL a2 n2 k2, vB c1, vB true, vB c3, vL a23 n22 k22, vI i3], vI i31]) h_11)))
section
variable {h : PHeap}
theorem RTkAt.tail {a4 a5 : OA} {t : Tk} {l : List Tk} {k4 : Nat} (hT : RTkAt h a4 (t :: l)) (hs : SlA a4 a5 1 k4 2) (hk : l.length + 1 ≤ k4) : RTkAt h a5 l := by
 by_cases hl : l = []
 · exact .inl hl
 rcases hT with hT | ⟨b, o, ha, hT⟩
 · cases hT
 obtain ⟨o', h1, h2⟩ := hs.1 b o ha
 have hl1 : 1 ≤ l.length := List.length_pos_iff.2 hl
 have := h2 (.inl (by omega))
 subst this
 exact .inr ⟨b, _, h1, fun j t hj => by
  have := hT (j + 1) t (by simpa using hj)
  rwa [show o + 1 * 2 + j * 2 = o + (j + 1) * 2 by omega]⟩
theorem tail_96 {a : As.St} {a1 : OA} {k1 : Nat} {a2 : OA} {k2 : Nat} {a3 : OA} {k3 : Nat} {a4 : OA} {name : Bytes} {l : List Tk} {h1 : PHeap} (x1 : Ext h h1) (hA : RA h a a1 k1 a2 k2 a3 k3) (hS : RSm a) (hT : RTkAt h a4 (⟨1, name⟩ :: l)) (hk : ∀ t ∈ l, t.kind = 1 ∨ t.kind = 2) (htl : ∀ t ∈ l, t.text.length ≤ 1000000) (hll : l.length ≤ 1000000) :
 tail96 a1 a.p.code.length k1 a.p.data a.p.zero a.p.entry a2 a.p.labels.length k2 a.inData a.hasEntry a.hasZero a3 a.uses.length k3 (a.line : Int) a4 (l.length + 1) name h1 fun v h' => RStP h (tailS a name l) v h' := by
 unfold tail96 tailS
 have hu0 := hS.uses
 have hcZ : (name == ([46, 122, 101, 114, 111] : Bs)) = decide (name = dZero) := beqD name dZero
 rw [hcZ]
 refine br_split (fun e => ?_) fun e => ?_
 · have e : ((l.length + 1 : Nat) : Int) ≠ 2 := by simpa using e
   rw [if_pos (.inl (by omega))]
   exact ⟨x1, by decide, _, _, _, _, _, _, _, _, _, _, _, _, _, _, _, _, rfl⟩
 have e : ((l.length + 1 : Nat) : Int) = 2 := by
  have : (((l.length + 1 : Nat) : Int) != 2) = false := e
  simpa [bne] using this
 have hl1 : l.length = 1 := by omega
 obtain ⟨t, rfl⟩ : ∃ t, l = [t] := by
  match l, hl1 with
  | [t], _ => exact ⟨t, rfl⟩
 obtain ⟨b, o, ha, hr⟩ := (hT.ext x1).get (j := 1) (t := t) rfl
 have hkt := hk t (List.mem_cons_self ..)
 have hxt := htl t (List.mem_cons_self ..)
 refine ⟨b, o, ha, ⟨by omega, by simp⟩, rk t.kind, hr.1, ?_⟩
 rw [rk_s]
 refine br_split (fun e1 => ?_) fun e1 => ?_
 · have e1 := of_decide_eq_true e1
   rw [if_pos (.inr (by unfold noStr; simp [e1]))]
   exact ⟨x1, by decide, _, _, _, _, _, _, _, _, _, _, _, _, _, _, _, _, rfl⟩
 have e1 := of_decide_eq_false e1
 have hcs := rcs_word (t := t) (hkt.resolve_right e1)
 rw [hcs] at hr
 rw [if_neg (fun h => h.elim (fun h => h rfl) fun h => by unfold noStr at h; simp [e1] at h)]
 show br _ _ _
 refine br_split (fun e2 => ?_) fun e2 => ?_
 · have e2 := of_decide_eq_true e2
   rw [if_pos e2]
   refine ⟨b, o, ha, ⟨by omega, by simp⟩, 119, t.text, hr, ?_⟩
   refine Tri.mono (rliteral_t _ t.text 0 4096 hxt) ?_
   rintro _ h5 ⟨rfl, rfl⟩
   show ∃ i26 i27, rlitV (literalS t.text 0 4096) = _ ∧ RStP h ((literalS t.text 0 4096).map _) _ _
   cases hlit : literalS t.text 0 4096 with
   | error e => exact ⟨0, (e : Int), rfl, x1, literal_ne hlit, _, _, _, _, _, _, _, _, _, _, _, _, _, _, _, _, rfl⟩
   | ok n =>
     have hA5 := hA.ext x1
     exact ⟨n, 0, rfl, x1, a1, k1, a2, k2, a3, k3, rfl, hA5.ins, hA5.lbs, hA5.uss, hA5.ok1, hA5.ok2, hA5.ok3, hA5.le2⟩
 · have e2 := of_decide_eq_false e2
   rw [if_neg e2]
   refine ⟨b, o, ha, ⟨by omega, by simp⟩, 119, t.text, hr, ?_⟩
   refine Tri.mono (rvalue_t (line := a.line) (kind := 2) (idx := 0) hxt rfl rfl rfl) ?_
   rintro v h6 ⟨x6, hv⟩
   show ∃ i28 a14 n14 k14 i29, v = _ ∧ _
   have hg : ([t].getD 0 ⟨1, []⟩).text = t.text := rfl
   rw [hg]
   cases hval : valueS a.line t.text 2 0 (-9999999999) 9999999999 with
   | error e =>
     rw [hval] at hv
     have hv : v = vT [vI 0, vL none 0 0, vI (e : Int)] := hv
     refine ⟨_, _, _, _, _, hv, ?_⟩
     refine copyU (us2 := []) (hA.uss.ext (x1.trans x6)) hA.ok3 (.inl rfl) (.inr ⟨rfl, rfl, rfl⟩) (by simp only [List.length_nil]; omega) rfl rfl rfl rfl rfl rfl (fun b => rfl) (fun b => rfl) (fun a n k => rfl) (fun a n k => rfl) fun a' k' h' x' g1 g2 => ?_
     exact ⟨(x1.trans x6).trans x', value_ne hval, _, _, _, _, _, _, _, _, _, _, _, _, _, _, _, _, rfl⟩
   | ok r =>
     obtain ⟨n, us2⟩ := r
     rw [hval] at hv
     obtain ⟨a', rfl, g1, g2⟩ := hv
     have hl2 : us2.length ≤ 1 := by
      unfold valueS at hval
      split at hval
      · split at hval
        · cases hval
        · injection hval with he; injection he with _ he; subst he; simp
      · split at hval
        · injection hval with he; injection he with _ he; subst he; simp
        · cases hval
     refine ⟨_, _, _, _, _, rfl, ?_⟩
     refine copyU (us2 := us2) (hA.uss.ext (x1.trans x6)) hA.ok3 g1 g2 (by omega) rfl rfl rfl rfl rfl rfl (fun b => rfl) (fun b => rfl) (fun a n k => rfl) (fun a n k => rfl) fun a' k' h' x' g1 g2 => ?_
     have hA5 := hA.ext ((x1.trans x6).trans x')
     exact ⟨(x1.trans x6).trans x', a1, k1, a2, k2, a', k', rfl, hA5.ins, hA5.lbs, g1, hA5.ok1, hA5.ok2, g2, hA5.le2⟩
theorem RStP.trans {h h1 h' : PHeap} {r : As.R As.St} {v : Value} (x : Ext h h1) (hr : RStP h1 r v h') : RStP h r v h' := ⟨x.trans hr.1, hr.2⟩
theorem RStP.get {h h' : PHeap} {r : As.R As.St} {v : Value} (hr : RStP h r v h') : ∃ (a1 : OA) (n1 k1 : Nat) (l : Bs) (i1 i2 : Int) (a2 : OA) (n2 k2 : Nat) (c1 c2 c3 : Bool) (a3 : OA) (n3 k3 : Nat) (i3 : Int) (i4 : Int), v = vT [vA [vL a1 n1 k1, vS l, vI i1, vI i2, vL a2 n2 k2, vB c1, vB c2, vB c3, vL a3 n3 k3, vI i3], vI i4] := by
 obtain ⟨_, hr⟩ := hr
 cases r with
 | error e => obtain ⟨_, a1, n1, k1, l, i1, i2, a2, n2, k2, c1, c2, c3, a3, n3, k3, i3, hv⟩ := hr; exact ⟨_, _, _, _, _, _, _, _, _, _, _, _, _, _, _, _, _, hv⟩
 | ok a' => obtain ⟨a1, k1, a2, k2, a3, k3, hv, _⟩ := hr; exact ⟨_, _, _, _, _, _, _, _, _, _, _, _, _, _, _, _, _, hv⟩
theorem data_t {a : As.St} {a1 : OA} {k1 : Nat} {a2 : OA} {k2 : Nat} {a3 : OA} {k3 : Nat} {a4 : OA} {k4 : Nat} {name : Bytes} {l : List Tk} (hA : RA h a a1 k1 a2 k2 a3 k3) (hS : RSm a) (hT : RTkAt h a4 (⟨1, name⟩ :: l)) (hn : name = dWord ∨ name = dByte ∨ name = dText ∨ name = dSpace) (hk : ∀ t ∈ l, t.kind = 1 ∨ t.kind = 2) (htl : ∀ t ∈ l, t.text.length ≤ 1000000) (hll : l.length ≤ 1000000)
 (hok : okA a4 (l.length + 1) k4) (hle : l.length + 1 ≤ k4) : Tri Tryz.prog 135 [vA (RAl a a1 k1 a2 k2 a3 k3), vL a4 (l.length + 1) k4] h fun v h' => RStP h (dataS a name l) v h' := by
 refine T135 ?_
 unfold R135
 obtain ⟨b, o, ha, hr⟩ := hT.get (j := 0) (t := ⟨1, name⟩) rfl
 refine ⟨b, o, ha, ⟨Int.le_refl _, by omega⟩, name, hr.2, ⟨hok, by omega, by omega, by omega⟩, fun a5 hs => ?_⟩
 have hT5 := hT.tail hs hle
 have hcT : (name == ([46, 116, 101, 120, 116] : Bs)) = decide (name = dText) := beqD name dText
 have hcS : (name == ([46, 115, 112, 97, 99, 101] : Bs)) = decide (name = dSpace) := beqD name dSpace
 have bad : (l = [] ∨ ((name = dText ∨ name = dSpace) ∧ l.length ≠ 1)) → RStP h (dataS a name l) (vT [vA (RAl a a1 k1 a2 k2 a3 k3), vI 30]) h := fun hh => by
  unfold dataS
  rw [if_pos hh]
  exact ⟨Ext.refl _, by decide, _, _, _, _, _, _, _, _, _, _, _, _, _, _, _, _, rfl⟩
 have hz : (((((l.length + 1 : Nat) : Int).toNat - 1 : Nat) : Int) == 0) = decide (l = []) := by
  rw [Bool.eq_iff_iff, decide_eq_true_iff]; simp
 have ho : (((((l.length + 1 : Nat) : Int).toNat - 1 : Nat) : Int) != 1) = decide (l.length ≠ 1) := by
  rw [Bool.eq_iff_iff, decide_eq_true_iff]; simp; omega
 refine br_split (fun e => ?_) fun e => ?_
 · have e := of_decide_eq_true (hcT ▸ e)
   refine br_split (fun e1 => bad (.inl (of_decide_eq_true (hz ▸ e1)))) fun e1 => br_split (fun e2 => bad (.inr ⟨.inl e, of_decide_eq_true (ho ▸ e2)⟩)) fun e2 => ?_
   have e1 := of_decide_eq_false (hz ▸ e1)
   have e2 := Decidable.not_not.1 (of_decide_eq_false (ho ▸ e2))
   exact tail_135 hA hS hT5 hn hk htl hll e1 fun _ => e2
 have e := of_decide_eq_false (hcT ▸ e)
 refine br_split (fun e1 => bad (.inl (of_decide_eq_true (hz ▸ e1)))) fun e1 => br_split (fun e2 => ?_) fun e2 => ?_
 · have e2 := of_decide_eq_true (hcS ▸ e2)
   have e1 := of_decide_eq_false (hz ▸ e1)
   refine br_split (fun e3 => bad (.inr ⟨.inr e2, of_decide_eq_true (ho ▸ e3)⟩)) fun e3 => ?_
   have e3 := Decidable.not_not.1 (of_decide_eq_false (ho ▸ e3))
   exact tail_135 hA hS hT5 hn hk htl hll e1 fun _ => e3
 · have e2 := of_decide_eq_false (hcS ▸ e2)
   have e1 := of_decide_eq_false (hz ▸ e1)
   exact tail_135 hA hS hT5 hn hk htl hll e1 fun hh => absurd hh (fun h => h.elim e e2)
theorem statement_t {a : As.St} {a1 : OA} {k1 : Nat} {a2 : OA} {k2 : Nat} {a3 : OA} {k3 : Nat} {a4 : OA} {k4 : Nat} {name : Bytes} {l : List Tk} (hA : RA h a a1 k1 a2 k2 a3 k3) (hS : RSm a) (hT : RTkAt h a4 (⟨1, name⟩ :: l)) (hk : ∀ t ∈ l, t.kind = 1 ∨ t.kind = 2) (htl : ∀ t ∈ l, t.text.length ≤ 1000000) (hll : l.length ≤ 1000000)
 (hok : okA a4 (l.length + 1) k4) (hle : l.length + 1 ≤ k4) : Tri Tryz.prog 96 [vA (RAl a a1 k1 a2 k2 a3 k3), vL a4 (l.length + 1) k4] h fun v h' => RStP h (stmtS a name l) v h' := by
 refine T96 ?_
 unfold R96
 obtain ⟨b, o, ha, hr⟩ := hT.get (j := 0) (t := ⟨1, name⟩) rfl
 refine ⟨b, o, ha, ⟨Int.le_refl _, by omega⟩, name, hr.2, ?_⟩
 refine Tri.mono (rfind_t name) ?_
 rintro v h1 ⟨x1, hv⟩
 have fail : ∀ e : Nat, e ≠ 0 → stmtS a name l = .error e → RStP h (stmtS a name l) (vT [vA (RAl a a1 k1 a2 k2 a3 k3), vI (e : Int)]) h1 := fun e h0 he => by
  rw [he]
  exact ⟨x1, h0, _, _, _, _, _, _, _, _, _, _, _, _, _, _, _, _, rfl⟩
 cases hw : wordsB.findIdx? (· == name) with
 | some op =>
   rw [hw] at hv
   have hv : v = vT [vI (op : Int), vB true] := hv
   subst hv
   have hop : op < 27 := (List.findIdx?_eq_some_iff_getElem.1 hw).1
   have hst := stmt_oper (a := a) (l := l) hw
   refine ⟨_, _, rfl, br_pos rfl (br_split (fun e => fail 10 (by decide) (by rw [hst, if_pos e])) fun e => ⟨⟨hok, by omega, by omega, by omega⟩, fun a5 hs => ?_⟩)⟩
   rw [if_neg (by rw [e]; decide)] at hst
   have hT5 := (hT.tail hs hle).ext x1
   refine Tri.mono (operation_t (k4 := k4 - 1) (hA.ext x1) hS hT5 hop hk htl hll) ?_
   intro v h2 hr2
   rw [← hst] at hr2
   obtain ⟨b1, n1, j1, l1, i1, i2, b2, n2, j2, c1, c2, c3, b3, n3, j3, i3, i4, hv⟩ := hr2.get
   subst hv
   exact ⟨_, _, _, _, _, _, _, _, _, _, _, _, _, _, _, _, _, rfl, hr2.trans x1⟩
 | none =>
   rw [hw] at hv
   have hv : v = vT [vI 0, vB false] := hv
   subst hv
   refine ⟨_, _, rfl, br_neg rfl ?_⟩
   have hcW : (name == ([46, 119, 111, 114, 100] : Bs)) = decide (name = dWord) := beqD name dWord
   have hcB : (name == ([46, 98, 121, 116, 101] : Bs)) = decide (name = dByte) := beqD name dByte
   have hcT : (name == ([46, 116, 101, 120, 116] : Bs)) = decide (name = dText) := beqD name dText
   have hcS : (name == ([46, 115, 112, 97, 99, 101] : Bs)) = decide (name = dSpace) := beqD name dSpace
   have hcC : (name == ([46, 99, 111, 100, 101] : Bs)) = decide (name = dCode) := beqD name dCode
   have hcD : (name == ([46, 100, 97, 116, 97] : Bs)) = decide (name = dData) := beqD name dData
   have hcE : (name == ([46, 101, 110, 116, 114, 121] : Bs)) = decide (name = dEntry) := beqD name dEntry
   have hcZ : (name == ([46, 122, 101, 114, 111] : Bs)) = decide (name = dZero) := beqD name dZero
   have D : (name = dWord ∨ name = dByte ∨ name = dText ∨ name = dSpace) → br (!a.inData) (RStP h (stmtS a name l) (vT [vA (RAl a a1 k1 a2 k2 a3 k3), vI 10]) h1)
    (Tri Tryz.prog 135 [vA (RAl a a1 k1 a2 k2 a3 k3), vL a4 (l.length + 1) k4] h1 fun v_3 h_3 =>
    ∃ (a9 : OA) (n8 k8 : Nat) (l4 : Bs) (i9 i10 : Int) (a10 : OA) (n9 k9 : Nat) (c8 c9 c10 : Bool) (a11 : OA) (n10 k10 : Nat) (i11 i12 : Int), v_3 = vT [vA [vL a9 n8 k8, vS l4, vI i9, vI i10, vL a10 n9 k9, vB c8, vB c9, vB c10, vL a11 n10 k10, vI i11], vI i12] ∧
    RStP h (stmtS a name l) (vT [vA [vL a9 n8 k8, vS l4, vI i9, vI i10, vL a10 n9 k9, vB c8, vB c9, vB c10, vL a11 n10 k10, vI i11], vI i12]) h_3) := fun hn =>
    br_split (fun e => fail 10 (by decide) (stmt_dstate hn (not_f e))) fun e => by
     have e := not_t e
     refine Tri.mono (data_t (hA.ext x1) hS (hT.ext x1) hn hk htl hll hok hle) ?_
     intro v h2 hr2
     rw [← stmt_dataS hn e] at hr2
     obtain ⟨b1, n1, j1, l1, i1, i2, b2, n2, j2, c1, c2, c3, b3, n3, j3, i3, i4, hv⟩ := hr2.get
     subst hv
     exact ⟨_, _, _, _, _, _, _, _, _, _, _, _, _, _, _, _, _, rfl, hr2.trans x1⟩
   refine br_split (fun e1 => D (.inl (of_decide_eq_true (hcW ▸ e1)))) fun e1 => br_split (fun e2 => D (.inr (.inl (of_decide_eq_true (hcB ▸ e2))))) fun e2 => br_split (fun e3 => D (.inr (.inr (.inl (of_decide_eq_true (hcT ▸ e3)))))) fun e3 => br_split (fun e4 => D (.inr (.inr (.inr (of_decide_eq_true (hcS ▸ e4)))))) fun e4 => ?_
   clear D
   have e1 := of_decide_eq_false (hcW ▸ e1)
   have e2 := of_decide_eq_false (hcB ▸ e2)
   have e3 := of_decide_eq_false (hcT ▸ e3)
   have e4 := of_decide_eq_false (hcS ▸ e4)
   have hz : (((l.length + 1 : Nat) : Int) != 1) = decide (l ≠ []) := by
    rw [Bool.eq_iff_iff, decide_eq_true_iff]
    cases l with
    | nil => simp
    | cons _ _ => simp; omega
   have sect : (name = dCode ∨ name = dData) → br (((l.length + 1 : Nat) : Int) != 1) (RStP h (stmtS a name l) (vT [vA (RAl a a1 k1 a2 k2 a3 k3), vI 30]) h1) (RStP h (stmtS a name l) (vT [vA [vL a1 a.p.code.length k1, vS a.p.data, vI a.p.zero, vI a.p.entry, vL a2 a.p.labels.length k2, vB (name == [46, 100, 97, 116, 97]), vB a.hasEntry, vB a.hasZero, vL a3 a.uses.length k3, vI (a.line : Int)], vI 0]) h1) := fun hn =>
    br_split (fun g => fail 30 (by decide) (by rw [stmt_sect hn, if_pos (of_decide_eq_true (hz ▸ g))])) fun g => by
     have hA1 := hA.ext x1
     rw [stmt_sect hn, if_neg (of_decide_eq_false (hz ▸ g)), hcD]
     exact ⟨x1, a1, k1, a2, k2, a3, k3, rfl, hA1.ins, hA1.lbs, hA1.uss, hA1.ok1, hA1.ok2, hA1.ok3, hA1.le2⟩
   refine br_split (fun e5 => sect (.inl (of_decide_eq_true (hcC ▸ e5)))) fun e5 => br_split (fun e6 => sect (.inr (of_decide_eq_true (hcD ▸ e6)))) fun e6 => ?_
   clear sect
   have e5 := of_decide_eq_false (hcC ▸ e5)
   have e6 := of_decide_eq_false (hcD ▸ e6)
   have hent : name = dEntry → (name == ([46, 122, 101, 114, 111] : Bs)) = false := fun e => by rw [hcZ, e]; decide
   have hzer : name = dZero → (name == ([46, 101, 110, 116, 114, 121] : Bs)) = false := fun e => by rw [hcE, e]; decide
   refine br_split (fun e7 => br_pos e7 ?_) fun e7 => br_split (fun e8 => br_neg e7 (br_pos e8 ?_)) fun e8 => ?_
   · have e7 := of_decide_eq_true (hcE ▸ e7)
     have hst := stmt_tail (a := a) (l := l) (.inl e7)
     rw [if_pos e7] at hst
     refine br_split (fun e8 => fail 10 (by decide) (by rw [hst, if_pos e8])) fun e8 => br_neg (hent e7) ?_
     rw [hst, if_neg (by rw [e8]; decide)]
     exact tail_96 x1 hA hS hT hk htl hll
   · have e8 := of_decide_eq_true (hcZ ▸ e8)
     have hst := stmt_tail (a := a) (l := l) (.inr e8)
     rw [if_neg (show ¬ name = dEntry by rw [e8]; decide)] at hst
     refine br_split (fun e9 => fail 10 (by decide) (by rw [hst, if_pos e9])) fun e9 => ?_
     rw [hst, if_neg (by rw [e9]; decide)]
     exact tail_96 x1 hA hS hT hk htl hll
   · exact fail 11 (by decide) (stmt_none hw e5 e6 (of_decide_eq_false (hcE ▸ e7)) (of_decide_eq_false (hcZ ▸ e8)) e1 e2 e3 e4)
end
end Go.Proofs.D
namespace Go.Proofs.D
open Go Go.Den
set_option maxRecDepth 100000
set_option maxHeartbeats 4000000
abbrev eik1 : List CK := [qi, qi, qi, qi]
abbrev eik2 : List CK := [.slice, .str, qi, qi, .slice]
noncomputable def d41 : DCode := up ⟨[(7, .l [.bool]), (9, .l [.bool]), (13, .l [.bool]), (16, .l [.bool]), (18, .l [.bool]), (22, .l [qi]), (24, .l [qi]), (29, .l [.bool]), (31, .l [.bool]), (34, .l [qi]), (36, .l [qi]), (39, .l [.str]), (41, .l [.str]), (42, .c (.one false [qi]))], [], []⟩ (low Tryz.prog (fun _ => false) (Tryz.f41.body.getD .skip))
theorem low41 : low Tryz.prog (fun _ => false) (Tryz.f41.body.getD .skip) = some (eC d41) := by kernel_rfl
def R41 (l1 : Bs) (c1 : Bool) (i1 : Int) (l2 : Bs) (c2 : Bool) (i2 : Int) (h : PHeap) (Q : Value → PHeap → Prop) : Prop :=
 br (!(c1 == c2))
 (br c2
 (Q (vI (-1)) h)
 (br (c1 == c2)
 (br (decide (i1 < i2))
 (Q (vI (-1)) h)
 (br (!(c1 == c2))
 (Q (vI 1) h)
 (br (decide (i1 > i2))
 (Q (vI 1) h)
 (Tri Tryz.prog 93 [vS l1, vS l2] h fun v_1 h_1 =>
 ∃ (i3 : Int), v_1 = vI i3 ∧
 Q (vI i3) h_1))))
 (br (!(c1 == c2))
 (Q (vI 1) h)
 (br (decide (i1 > i2))
 (Q (vI 1) h)
 (Tri Tryz.prog 93 [vS l1, vS l2] h fun v_2 h_2 =>
 ∃ (i4 : Int), v_2 = vI i4 ∧
 Q (vI i4) h_2)))))
 (br (c1 == c2)
 (br (decide (i1 < i2))
 (Q (vI (-1)) h)
 (br (!(c1 == c2))
 (Q (vI 1) h)
 (br (decide (i1 > i2))
 (Q (vI 1) h)
 (Tri Tryz.prog 93 [vS l1, vS l2] h fun v_3 h_3 =>
 ∃ (i5 : Int), v_3 = vI i5 ∧
 Q (vI i5) h_3))))
 (br (!(c1 == c2))
 (Q (vI 1) h)
 (br (decide (i1 > i2))
 (Q (vI 1) h)
 (Tri Tryz.prog 93 [vS l1, vS l2] h fun v_4 h_4 =>
 ∃ (i6 : Int), v_4 = vI i6 ∧
 Q (vI i6) h_4))))
theorem T41 {l1 : Bs} {c1 : Bool} {i1 : Int} {l2 : Bs} {c2 : Bool} {i2 : Int} {h : PHeap} {Q : Value → PHeap → Prop} (hR : R41 l1 c1 i1 l2 c2 i2 h Q) : Tri Tryz.prog 41 [vA [vS l1, vB c1, vI i1], vA [vS l2, vB c2, vI i2]] h Q :=
 tri_of_dn mixed Tryz.func41 rfl (by kernel_rfl) low41 (rs := [.tmp 4]) (by kernel_rfl) rfl (Eq.mpr (by kernel_rfl : dnF Tryz.prog Tryz.f41.ntmps d41 [.tmp 4] [vA [vS l1, vB c1, vI i1], vA [vS l2, vB c2, vI i2]] h Q = R41 l1 c1 i1 l2 c2 i2 h Q) hR)
abbrev o48_12 : Op := .makeMap 149 none
abbrev o48_14 : Op := .lookup 149 (.tmp 73) (.tmp 75) false
abbrev o48_15 : Op := .mapUpdate 149 (.tmp 77) (.tmp 79) (.const (vB true))
noncomputable def d48 : DCode := up ⟨[(9, .l [.slice]), (15, .l [.str, .bool, qi]), (17, .l [.str]), (18, .c (.one false [.bool])), (21, .l [.bool]), (25, .l [qi]), (27, .l [.slice]), (30, .c (.one false [.bool])), (34, .l [.bool]), (37, .l [qi]), (41, .l [qi]), (43, .l [.str]), (46, .l [qi]), (55, .l [.slice]), (59, .l [.str, .bool, qi]), (60, .l [.str, .bool, qi]), (61, .c (.one false [qi])), (65, .c (.one false [.map])), (67, .l [.slice]), (72, .l [.str, .bool, qi]), (75, .l [.str]), (76, .c (.one false [.bool])), (79, .l [.str])], [], [(12, 57, [(11, qi)], []), (70, 14, [(69, qi)], [])]⟩ (low Tryz.prog (fun _ => false) (Tryz.f48.body.getD .skip))
theorem low48 : low Tryz.prog (fun _ => false) (Tryz.f48.body.getD .skip) = some (eC d48) := by kernel_rfl
def R48 (a1 : OA) (n1 : Nat) (eik1 : Nat) (l1 : Bs) (i1 : Int) (i2 : Int) (a2 : OA) (n2 : Nat) (eik2 : Nat) (h : PHeap) (Q : Value → PHeap → Prop) : Prop :=
 ∃ (I_1 : Nat → Int → PHeap → Prop), (∃ (m2 : Nat), I_1 m2 (0 : Int) h) ∧
 ∀ (m1 : Nat) (i3 : Int) (h_1 : PHeap), I_1 m1 i3 h_1 →
 br (decide (i3 < ((n2 : Nat) : Int)))
 (∃ (b1 o1 : Nat), a2 = some ⟨b1, o1, none⟩ ∧ (0 ≤ i3 ∧ i3 < n2) ∧
 ∃ (l2 : Bs) (c1 : Bool) (i4 : Int), h_1.row b1 (o1 + (i3).toNat * 3) [vS l2, vB c1, vI i4] ∧
 Tri Tryz.prog 27 [vS l2] h_1 fun v_1 h_2 =>
 ∃ (c2 : Bool), v_1 = vB c2 ∧
 br (!c2)
 (Q (vI 12) h_2)
 (br (!c1)
 (Tri Tryz.prog 47 [vI i4, vI (IntKind.i64.wrap (((n1 : Nat) : Int) * 4))] h_2 fun v_2 h_3 =>
 ∃ (c3 : Bool), v_2 = vB c3 ∧
 br (!c3)
 (Q (vI 2) h_3)
 (br c1
 (br (decide (i4 < 0))
 (Q (vI 2) h_3)
 (br (decide (i4 > (IntKind.i64.wrap ((l1.length : Int) + i1))))
 (Q (vI 2) h_3)
 (br (decide (i3 > 0))
 (∃ (b2 o2 : Nat), a2 = some ⟨b2, o2, none⟩ ∧ (0 ≤ (IntKind.i64.wrap (i3 - 1)) ∧ (IntKind.i64.wrap (i3 - 1)) < n2) ∧
 ∃ (l3 : Bs) (c4 : Bool) (i5 : Int), h_3.row b2 (o2 + (IntKind.i64.wrap (i3 - 1)).toNat * 3) [vS l3, vB c4, vI i5] ∧
 Tri Tryz.prog 41 [vA [vS l3, vB c4, vI i5], vA [vS l2, vB c1, vI i4]] h_3 fun v_3 h_4 =>
 ∃ (i6 : Int), v_3 = vI i6 ∧
 (tv [vL a2 n2 eik2]) ∧
 br (decide (i6 ≥ 0))
 (Q (vI 32) h_4)
 (∃ (m3 : Nat), m3 < m1 ∧ I_1 m3 (IntKind.i64.wrap (i3 + 1)) h_4 ∧
 tv [vL a1 n1 eik1, vS l1, vI i1, vI i2, vL a2 n2 eik2] ∧ True))
 (∃ (m4 : Nat), m4 < m1 ∧ I_1 m4 (IntKind.i64.wrap (i3 + 1)) h_3 ∧
 tv [vL a1 n1 eik1, vS l1, vI i1, vI i2, vL a2 n2 eik2] ∧ True))))
 (br (decide (i3 > 0))
 (∃ (b3 o3 : Nat), a2 = some ⟨b3, o3, none⟩ ∧ (0 ≤ (IntKind.i64.wrap (i3 - 1)) ∧ (IntKind.i64.wrap (i3 - 1)) < n2) ∧
 ∃ (l4 : Bs) (c5 : Bool) (i7 : Int), h_3.row b3 (o3 + (IntKind.i64.wrap (i3 - 1)).toNat * 3) [vS l4, vB c5, vI i7] ∧
 Tri Tryz.prog 41 [vA [vS l4, vB c5, vI i7], vA [vS l2, vB c1, vI i4]] h_3 fun v_4 h_5 =>
 ∃ (i8 : Int), v_4 = vI i8 ∧
 (tv [vL a2 n2 eik2]) ∧
 br (decide (i8 ≥ 0))
 (Q (vI 32) h_5)
 (∃ (m5 : Nat), m5 < m1 ∧ I_1 m5 (IntKind.i64.wrap (i3 + 1)) h_5 ∧
 tv [vL a1 n1 eik1, vS l1, vI i1, vI i2, vL a2 n2 eik2] ∧ True))
 (∃ (m6 : Nat), m6 < m1 ∧ I_1 m6 (IntKind.i64.wrap (i3 + 1)) h_3 ∧
 tv [vL a1 n1 eik1, vS l1, vI i1, vI i2, vL a2 n2 eik2] ∧ True))))
 (br c1
 (br (decide (i4 < 0))
 (Q (vI 2) h_2)
 (br (decide (i4 > (IntKind.i64.wrap ((l1.length : Int) + i1))))
 (Q (vI 2) h_2)
 (br (decide (i3 > 0))
 (∃ (b4 o4 : Nat), a2 = some ⟨b4, o4, none⟩ ∧ (0 ≤ (IntKind.i64.wrap (i3 - 1)) ∧ (IntKind.i64.wrap (i3 - 1)) < n2) ∧
 ∃ (l5 : Bs) (c6 : Bool) (i9 : Int), h_2.row b4 (o4 + (IntKind.i64.wrap (i3 - 1)).toNat * 3) [vS l5, vB c6, vI i9] ∧
 Tri Tryz.prog 41 [vA [vS l5, vB c6, vI i9], vA [vS l2, vB c1, vI i4]] h_2 fun v_5 h_6 =>
 ∃ (i10 : Int), v_5 = vI i10 ∧
 (tv [vL a2 n2 eik2]) ∧
 br (decide (i10 ≥ 0))
 (Q (vI 32) h_6)
 (∃ (m7 : Nat), m7 < m1 ∧ I_1 m7 (IntKind.i64.wrap (i3 + 1)) h_6 ∧
 tv [vL a1 n1 eik1, vS l1, vI i1, vI i2, vL a2 n2 eik2] ∧ True))
 (∃ (m8 : Nat), m8 < m1 ∧ I_1 m8 (IntKind.i64.wrap (i3 + 1)) h_2 ∧
 tv [vL a1 n1 eik1, vS l1, vI i1, vI i2, vL a2 n2 eik2] ∧ True))))
 (br (decide (i3 > 0))
 (∃ (b5 o5 : Nat), a2 = some ⟨b5, o5, none⟩ ∧ (0 ≤ (IntKind.i64.wrap (i3 - 1)) ∧ (IntKind.i64.wrap (i3 - 1)) < n2) ∧
 ∃ (l6 : Bs) (c7 : Bool) (i11 : Int), h_2.row b5 (o5 + (IntKind.i64.wrap (i3 - 1)).toNat * 3) [vS l6, vB c7, vI i11] ∧
 Tri Tryz.prog 41 [vA [vS l6, vB c7, vI i11], vA [vS l2, vB c1, vI i4]] h_2 fun v_6 h_7 =>
 ∃ (i12 : Int), v_6 = vI i12 ∧
 (tv [vL a2 n2 eik2]) ∧
 br (decide (i12 ≥ 0))
 (Q (vI 32) h_7)
 (∃ (m9 : Nat), m9 < m1 ∧ I_1 m9 (IntKind.i64.wrap (i3 + 1)) h_7 ∧
 tv [vL a1 n1 eik1, vS l1, vI i1, vI i2, vL a2 n2 eik2] ∧ True))
 (∃ (m10 : Nat), m10 < m1 ∧ I_1 m10 (IntKind.i64.wrap (i3 + 1)) h_2 ∧
 tv [vL a1 n1 eik1, vS l1, vI i1, vI i2, vL a2 n2 eik2] ∧ True)))))
 (Raw Tryz.prog (execOp (rho []) (mkO o48_12 149)) h_1 fun v_7 h_8 =>
 ∃ (m11 : Nat), v_7 = vM m11 ∧
 ∃ (I_2 : Nat → Int → PHeap → Prop), (∃ (m13 : Nat), I_2 m13 (0 : Int) h_8) ∧
 ∀ (m12 : Nat) (i13 : Int) (h_9 : PHeap), I_2 m12 i13 h_9 →
 br (decide (i13 < ((n2 : Nat) : Int)))
 (∃ (b6 o6 : Nat), a2 = some ⟨b6, o6, none⟩ ∧ (0 ≤ i13 ∧ i13 < n2) ∧
 ∃ (l7 : Bs) (c8 : Bool) (i14 : Int), h_9.row b6 (o6 + (i13).toNat * 3) [vS l7, vB c8, vI i14] ∧
 Raw Tryz.prog (execOp (rho [(73, vM m11), (75, vS l7)]) (mkO o48_14 4)) h_9 fun v_8 h_10 =>
 ∃ (c9 : Bool), v_8 = vB c9 ∧
 br c9
 (Q (vI 7) h_10)
 (Raw Tryz.prog (execOp (rho [(77, vM m11), (79, vS l7)]) (mkO o48_15 0)) h_10 fun v_9 h_11 =>
 v_9 = vT [] ∧
 ∃ (m14 : Nat), m14 < m12 ∧ I_2 m14 (IntKind.i64.wrap (i13 + 1)) h_11 ∧
 tv [vL a1 n1 eik1, vS l1, vI i1, vI i2, vL a2 n2 eik2] ∧ True))
 (Q (vI 0) h_9))
theorem T48 {a1 : OA} {n1 : Nat} {eik1 : Nat} {l1 : Bs} {i1 : Int} {i2 : Int} {a2 : OA} {n2 : Nat} {eik2 : Nat} {h : PHeap} {Q : Value → PHeap → Prop} (hR : R48 a1 n1 eik1 l1 i1 i2 a2 n2 eik2 h Q) : Tri Tryz.prog 48 [vA [vL a1 n1 eik1, vS l1, vI i1, vI i2, vL a2 n2 eik2]] h Q :=
 tri_of_dn mixed Tryz.func48 rfl (by kernel_rfl) low48 (rs := [.tmp 2]) (by kernel_rfl) rfl (Eq.mpr (by kernel_rfl : dnF Tryz.prog Tryz.f48.ntmps d48 [.tmp 2] [vA [vL a1 n1 eik1, vS l1, vI i1, vI i2, vL a2 n2 eik2]] h Q = R48 a1 n1 eik1 l1 i1 i2 a2 n2 eik2 h Q) hR)
noncomputable def d24 : DCode := up ⟨[(7, .l [.slice]), (12, .l eik1), (13, .l eik1), (14, .c (.one false [qi])), (20, .l [qi]), (24, .l [qi]), (28, .l eik2), (29, .c (.one false [qi])), (31, .l [.str]), (35, .l [qi]), (41, .l [.slice]), (46, .l [qi]), (48, .l [.slice]), (52, .c (.one false [.bool])), (54, .l eik2), (55, .c (.one false [qi]))], [], [(10, 13, [(9, qi)], [])]⟩ (low Tryz.prog (fun _ => false) (Tryz.f24.body.getD .skip))
theorem low24 : low Tryz.prog (fun _ => false) (Tryz.f24.body.getD .skip) = some (eC d24) := by kernel_rfl
def R24 (a1 : OA) (n1 : Nat) (eik1 : Nat) (l1 : Bs) (i1 : Int) (i2 : Int) (a2 : OA) (n2 : Nat) (eik2 : Nat) (h : PHeap) (Q : Value → PHeap → Prop) : Prop :=
 ∃ (I_1 : Nat → Int → PHeap → Prop), (∃ (m2 : Nat), I_1 m2 (0 : Int) h) ∧
 ∀ (m1 : Nat) (i3 : Int) (h_1 : PHeap), I_1 m1 i3 h_1 →
 br (decide (i3 < ((n1 : Nat) : Int)))
 (∃ (b1 o1 : Nat), a1 = some ⟨b1, o1, none⟩ ∧ (0 ≤ i3 ∧ i3 < n1) ∧
 ∃ (i4 i5 i6 i7 : Int), h_1.row b1 (o1 + (i3).toNat * 4) [vI i4, vI i5, vI i6, vI i7] ∧
 Tri Tryz.prog 46 [vA [vI i4, vI i5, vI i6, vI i7]] h_1 fun v_1 h_2 =>
 ∃ (i8 : Int), v_1 = vI i8 ∧
 br (i8 != 0)
 (Q (vI i8) h_2)
 (∃ (m3 : Nat), m3 < m1 ∧ I_1 m3 (IntKind.i64.wrap (i3 + 1)) h_2 ∧
 tv [vL a1 n1 eik1, vS l1, vI i1, vI i2, vL a2 n2 eik2] ∧ True))
 (br (decide (i1 < 0))
 ((tv [vI i1]) ∧
 Q (vI 9) h_1)
 (br (decide (i1 > 4096))
 ((tv [vI i1]) ∧
 (tv [vI i1]) ∧
 Q (vI 9) h_1)
 (Tri Tryz.prog 25 [vA [vL a1 n1 eik1, vS l1, vI i1, vI i2, vL a2 n2 eik2]] h_1 fun v_2 h_3 =>
 ∃ (i9 : Int), v_2 = vI i9 ∧
 (tv [vI i1]) ∧
 (tv [vS l1]) ∧
 (tv [vI i1]) ∧
 (tv [vI i1]) ∧
 br (decide ((IntKind.i64.wrap ((IntKind.i64.wrap (i9 + (l1.length : Int))) + i1)) > 4096))
 (Q (vI 9) h_3)
 (br (decide (((n2 : Nat) : Int) > 1024))
 (Q (vI 9) h_3)
 (Tri Tryz.prog 47 [vI i2, vI (IntKind.i64.wrap ((IntKind.i64.wrap (((n1 : Nat) : Int) * 4)) - 4))] h_3 fun v_3 h_4 =>
 ∃ (c1 : Bool), v_3 = vB c1 ∧
 br (!c1)
 (Q (vI 2) h_4)
 (Tri Tryz.prog 48 [vA [vL a1 n1 eik1, vS l1, vI i1, vI i2, vL a2 n2 eik2]] h_4 fun v_4 h_5 =>
 ∃ (i10 : Int), v_4 = vI i10 ∧
 Q (vI i10) h_5))))))
theorem T24 {a1 : OA} {n1 : Nat} {eik1 : Nat} {l1 : Bs} {i1 : Int} {i2 : Int} {a2 : OA} {n2 : Nat} {eik2 : Nat} {h : PHeap} {Q : Value → PHeap → Prop} (hR : R24 a1 n1 eik1 l1 i1 i2 a2 n2 eik2 h Q) : Tri Tryz.prog 24 [vA [vL a1 n1 eik1, vS l1, vI i1, vI i2, vL a2 n2 eik2]] h Q :=
 tri_of_dn mixed Tryz.func24 rfl (by kernel_rfl) low24 (rs := [.tmp 2]) (by kernel_rfl) rfl (Eq.mpr (by kernel_rfl : dnF Tryz.prog Tryz.f24.ntmps d24 [.tmp 2] [vA [vL a1 n1 eik1, vS l1, vI i1, vI i2, vL a2 n2 eik2]] h Q = R24 a1 n1 eik1 l1 i1 i2 a2 n2 eik2 h Q) hR)
abbrev o142_0 : Op := .lookup 71 (.tmp 13) (.tmp 14) true
noncomputable def d142 : DCode := up ⟨[(10, .l [.ptr]), (13, .l [.map]), (14, .l [.str]), (15, .c (.tup [(true, [.str, .bool, qi]), (false, [.bool])])), (20, .l [.ptr]), (23, .l eik2), (24, .l [.str, .bool, qi]), (25, .c (.one false [qi])), (27, .l [qi]), (31, .l [qi]), (34, .l [.func]), (36, .c (.tup []))], [], []⟩ (low Tryz.prog (fun _ => false) (Tryz.f142.body.getD .skip))
theorem low142 : low Tryz.prog (fun _ => false) (Tryz.f142.body.getD .skip) = some (eC d142) := by kernel_rfl
def R142 (p1 : Nat) (o1 : Nat) (p2 : Nat) (o2 : Nat) (p3 : Nat) (o3 : Nat) (p4 : Nat) (o4 : Nat) (p5 : Nat) (o5 : Nat) (h : PHeap) (Q : Value → PHeap → Prop) : Prop :=
 ∃ (p6 o6 : Nat), h.cell p1 o1 = some (vP p6 o6) ∧
 ∃ (m1 : Nat), h.cell p6 (o6 + 10) = some (vM m1) ∧
 ∃ (l1 : Bs), h.cell p2 o2 = some (vS l1) ∧
 (Raw Tryz.prog (execOp (rho [(13, vM m1), (14, vS l1)]) (mkO o142_0 168)) h fun v_1 h_1 =>
 ∃ (l2 : Bs) (c1 : Bool) (i1 : Int) (c2 : Bool), v_1 = vT [vA [vS l2, vB c1, vI i1], vB c2] ∧
 (h_1.cell p1 o1 = some (vP p6 o6)) ∧
 (h_1.cell p1 o1 = some (vP p6 o6)) ∧
 br (!c2)
 (Q (vI 37) h_1)
 (∃ (p7 o7 : Nat), h_1.cell p1 o1 = some (vP p7 o7) ∧
 ∃ (a1 : OA) (n1 eik1 : Nat) (l3 : Bs) (i2 i3 : Int) (a2 : OA) (n2 eik2 : Nat), h_1.row p7 (o7 + 1) [vL a1 n1 eik1, vS l3, vI i2, vI i3, vL a2 n2 eik2] ∧
 Tri Tryz.prog 44 [vA [vL a1 n1 eik1, vS l3, vI i2, vI i3, vL a2 n2 eik2], vA [vS l2, vB c1, vI i1]] h_1 fun v_2 h_2 =>
 ∃ (i4 : Int), v_2 = vI i4 ∧
 (h_2.cell p1 o1 = some (vP p7 o7)) ∧
 ∃ (i5 : Int), h_2.cell p3 o3 = some (vI i5) ∧
 br (decide (i4 < i5))
 (Q (vI 2) h_2)
 (∃ (i6 : Int), h_2.cell p4 o4 = some (vI i6) ∧
 br (decide (i4 > i6))
 (Q (vI 2) h_2)
 (∃ (f1 : Nat) (x1 y1 : List Value), h_2.cell p5 o5 = some (vF f1 x1 y1) ∧
 Tri Tryz.prog f1 (x1 ++ [vI i4] ++ y1) h_2 fun v_3 h_3 =>
 v_3 = vT [] ∧
 Q (vI 0) h_3)))) ∧
 ((h.cell p2 o2 = some (vS l1)) ∧
 (h.cell p6 (o6 + 10) = some (vM m1)) ∧
 (h.cell p1 o1 = some (vP p6 o6)) ∧
 Raw Tryz.prog (execOp (rho [(13, vM m1), (14, vS l1)]) (mkO o142_0 168)) h fun v_4 h_4 =>
 ∃ (l4 : Bs) (c3 : Bool) (i7 : Int) (c4 : Bool), v_4 = vT [vA [vS l4, vB c3, vI i7], vB c4] ∧
 (h_4.cell p1 o1 = some (vP p6 o6)) ∧
 br (!c4)
 (Q (vI 37) h_4)
 (∃ (p8 o8 : Nat), h_4.cell p1 o1 = some (vP p8 o8) ∧
 ∃ (a3 : OA) (n3 k3 : Nat) (l5 : Bs) (i8 i9 : Int) (a4 : OA) (n4 k4 : Nat), h_4.row p8 (o8 + 1) [vL a3 n3 k3, vS l5, vI i8, vI i9, vL a4 n4 k4] ∧
 Tri Tryz.prog 44 [vA [vL a3 n3 k3, vS l5, vI i8, vI i9, vL a4 n4 k4], vA [vS l4, vB c3, vI i7]] h_4 fun v_5 h_5 =>
 ∃ (i10 : Int), v_5 = vI i10 ∧
 (h_5.cell p1 o1 = some (vP p8 o8)) ∧
 ∃ (i11 : Int), h_5.cell p3 o3 = some (vI i11) ∧
 br (decide (i10 < i11))
 (Q (vI 2) h_5)
 (∃ (i12 : Int), h_5.cell p4 o4 = some (vI i12) ∧
 br (decide (i10 > i12))
 (Q (vI 2) h_5)
 (∃ (f2 : Nat) (x2 y2 : List Value), h_5.cell p5 o5 = some (vF f2 x2 y2) ∧
 Tri Tryz.prog f2 (x2 ++ [vI i10] ++ y2) h_5 fun v_6 h_6 =>
 v_6 = vT [] ∧
 Q (vI 0) h_6))))
theorem T142 {p1 : Nat} {o1 : Nat} {p2 : Nat} {o2 : Nat} {p3 : Nat} {o3 : Nat} {p4 : Nat} {o4 : Nat} {p5 : Nat} {o5 : Nat} {h : PHeap} {Q : Value → PHeap → Prop} (hR : R142 p1 o1 p2 o2 p3 o3 p4 o4 p5 o5 h Q) : Tri Tryz.prog 142 [vP p1 o1, vP p2 o2, vP p3 o3, vP p4 o4, vP p5 o5] h Q :=
 tri_of_dn mixed Tryz.func142 rfl (by kernel_rfl) low142 (rs := [.tmp 5]) (by kernel_rfl) rfl (Eq.mpr (by kernel_rfl : dnF Tryz.prog Tryz.f142.ntmps d142 [.tmp 5] [vP p1 o1, vP p2 o2, vP p3 o3, vP p4 o4, vP p5 o5] h Q = R142 p1 o1 p2 o2 p3 o3 p4 o4 p5 o5 h Q) hR)
abbrev o13_1 : Op := .makeMap 71 none
abbrev o13_9 : Op := .range 71 (.tmp 79)
abbrev o13_10 : Op := .next (.tmp 80) false
abbrev o13_12 : Op := .entry (.tmp 80)
abbrev o13_14 : Op := .call { callee := (.builtin .append), args := #[(.tmp 90), (.tmp 92)], argTypes := #[23, 23] }
noncomputable def d13 : DCode := up ⟨[(19, .c (.one false [.map])), (20, .c (.one false [.map])), (24, .c (.one false [.slice])), (30, .l [.str]), (38, .c (.one false [qi])), (45, .l [qi]), (51, .l [.slice]), (56, .l [qi, .func]), (58, .l [.func]), (59, .c (.one false [qi])), (64, .l [qi]), (71, .l [.slice]), (79, .l [.map]), (80, .c (.one false [.ptr])), (81, .c .nxt), (83, .c (.tup [(false, [.str]), (true, [.str, .bool, qi])])), (90, .l [.slice]), (91, .l [.str, .bool, qi]), (93, .c (.one false [.slice])), (101, .l [.slice]), (102, .c (.tup [])), (106, .l eik2), (107, .c (.one false [qi])), (115, .l eik2)], [35, 75, 96], [(27, 27, [(26, qi)], [(2, eik2)]), (54, 18, [(53, qi)], [(2, eik2)]), (81, 17, [], [])]⟩ (low Tryz.prog (fun d => Nat.beq d 22) (Tryz.f13.body.getD .skip))
theorem low13 : low Tryz.prog (fun d => Nat.beq d 22) (Tryz.f13.body.getD .skip) = some (eC d13) := by kernel_rfl
def R13 (l1 : Bs) (h : PHeap) (Q : Value → PHeap → Prop) : Prop :=
 br (decide ((l1.length : Int) > 65536))
 (Q (vT [vA [vL none 0 0, vS [], vI 0, vI 0, vL none 0 0], vI 0, vI 5]) h)
 (Tri Tryz.prog 37 [] h fun v_1 h_1 =>
 ∃ (m1 : Nat), v_1 = vM m1 ∧
 Raw Tryz.prog (execOp (rho []) (mkO o13_1 71)) h_1 fun v_2 h_2 =>
 ∃ (m2 : Nat), v_2 = vM m2 ∧
 ∀ (b1 : Nat), h_2 b1 = none → ∀ (h_3 : PHeap), h_3 = h_2.put b1 (.cells ⟨[vM m1, vL none 0 0, vS [], vI 0, vI 0, vL none 0 0, vL none 0 0, vB false, vB false, vB false, vM m2, vI 0, vL none 0 0]⟩ 74) →
 Tri Tryz.prog 38 [vS l1, vS [10]] h_3 fun v_3 h_4 =>
 ∃ (a1 : OA) (n1 eik1 : Nat), v_3 = vL a1 n1 eik1 ∧
 ∃ (I_1 : Nat → Int → OA → Nat → Nat → Bs → Int → Int → OA → Nat → Nat → PHeap → Prop), (∃ (m4 : Nat), I_1 m4 (0 : Int) none 0 0 [] (0 : Int) (0 : Int) none 0 0 h_4) ∧
 ∀ (m3 : Nat) (i1 : Int) (a2 : OA) (n2 : Nat) (eik2 : Nat) (l2 : Bs) (i2 : Int) (i3 : Int) (a3 : OA) (n3 : Nat) (k3 : Nat) (h_5 : PHeap), I_1 m3 i1 a2 n2 eik2 l2 i2 i3 a3 n3 k3 h_5 →
 br (decide (i1 < ((n1 : Nat) : Int)))
 (∃ (b2 o1 : Nat), a1 = some ⟨b2, o1, none⟩ ∧ (0 ≤ i1 ∧ i1 < n1) ∧
 ∃ (l3 : Bs), h_5.cell b2 (o1 + (i1).toNat * 1) = some (vS l3) ∧
 ∃ (l4 : List Value) (t1 : TypeId) (z1 : Nat × Nat), h_5 b1 = some (.cells ⟨l4⟩ t1 z1) ∧ (11 + 1 ≤ l4.length ∧ z1.2 ≤ 11) ∧
 ∀ (h_6 : PHeap), h_6 = h_5.put b1 (.cells ⟨splice l4 11 [vI (IntKind.i64.wrap (i1 + 1))]⟩ t1 z1) →
 Tri Tryz.prog 39 [vP b1 0, vS l3] h_6 fun v_4 h_7 =>
 ∃ (i4 : Int), v_4 = vI i4 ∧
 br (i4 != 0)
 (∃ (i5 : Int), h_7.cell b1 11 = some (vI i5) ∧
 (h_7.cell b1 11 = some (vI i5)) ∧
 Q (vT [vA [vL none 0 0, vS [], vI 0, vI 0, vL none 0 0], vI i5, vI i4]) h_7)
 (∃ (m5 : Nat), m5 < m3 ∧ I_1 m5 (IntKind.i64.wrap (i1 + 1)) a2 n2 eik2 l2 i2 i3 a3 n3 k3 h_7 ∧
 True))
 (∃ (a4 : OA) (n4 k4 : Nat), h_5.cell b1 12 = some (vL a4 n4 k4) ∧
 ∃ (I_2 : Nat → Int → OA → Nat → Nat → Bs → Int → Int → OA → Nat → Nat → PHeap → Prop), (∃ (m7 : Nat), I_2 m7 (0 : Int) a2 n2 eik2 l2 i2 i3 a3 n3 k3 h_5) ∧
 ∀ (m6 : Nat) (i6 : Int) (a5 : OA) (n5 : Nat) (k5 : Nat) (l5 : Bs) (i7 : Int) (i8 : Int) (a6 : OA) (n6 : Nat) (k6 : Nat) (h_8 : PHeap), I_2 m6 i6 a5 n5 k5 l5 i7 i8 a6 n6 k6 h_8 →
 br (decide (i6 < ((n4 : Nat) : Int)))
 (∃ (b3 o2 : Nat), a4 = some ⟨b3, o2, none⟩ ∧ (0 ≤ i6 ∧ i6 < n4) ∧
 ∃ (i9 : Int) (f1 : Nat) (x1 y1 : List Value), h_8.row b3 (o2 + (i6).toNat * 2) [vI i9, vF f1 x1 y1] ∧
 Tri Tryz.prog f1 (x1 ++ [] ++ y1) h_8 fun v_5 h_9 =>
 ∃ (i10 : Int), v_5 = vI i10 ∧
 br (i10 != 0)
 ((tv [vI i9]) ∧
 Q (vT [vA [vL none 0 0, vS [], vI 0, vI 0, vL none 0 0], vI i9, vI i10]) h_9)
 (∃ (m8 : Nat), m8 < m6 ∧ I_2 m8 (IntKind.i64.wrap (i6 + 1)) a5 n5 k5 l5 i7 i8 a6 n6 k6 h_9 ∧
 True))
 (∃ (a7 : OA) (n7 k7 : Nat), h_8.cell b1 6 = some (vL a7 n7 k7) ∧
 ∃ (l6 : Bs), BytesAt h_8 a7 n7 l6 ∧
 ∃ (l7 : List Value) (t2 : TypeId) (z2 : Nat × Nat), h_8 b1 = some (.cells ⟨l7⟩ t2 z2) ∧ (2 + 1 ≤ l7.length ∧ z2.2 ≤ 2) ∧
 ∀ (h_10 : PHeap), h_10 = h_8.put b1 (.cells ⟨splice l7 2 [vS l6]⟩ t2 z2) →
 ∃ (m9 : Nat), h_10.cell b1 10 = some (vM m9) ∧
 Raw Tryz.prog (execOp (rho [(79, vM m9)]) (mkO o13_9 0)) h_10 fun v_6 h_11 =>
 ∃ (p1 o3 : Nat), v_6 = vP p1 o3 ∧
 ∃ (I_3 : Nat → PHeap → Prop), (∃ (m11 : Nat), I_3 m11 h_11) ∧
 ∀ (m10 : Nat) (h_12 : PHeap), I_3 m10 h_12 →
 Raw Tryz.prog (execOp (rho [(80, vP p1 o3)]) (mkO o13_10 0)) h_12 fun v_7 h_13 =>
 ((v_7 = vT [vB false] ∧
 ∃ (a8 : OA) (n8 k9 : Nat), h_13.cell b1 5 = some (vL a8 n8 k9) ∧
 Tri Tryz.prog 40 [vL a8 n8 k9, vF 41 [] []] h_13 fun v_8 h_14 =>
 v_8 = vT [] ∧
 ∃ (a9 : OA) (n9 k10 : Nat) (l8 : Bs) (i11 i12 : Int) (a10 : OA) (n10 k11 : Nat), h_14.row b1 1 [vL a9 n9 k10, vS l8, vI i11, vI i12, vL a10 n10 k11] ∧
 Tri Tryz.prog 24 [vA [vL a9 n9 k10, vS l8, vI i11, vI i12, vL a10 n10 k11]] h_14 fun v_9 h_15 =>
 ∃ (i13 : Int), v_9 = vI i13 ∧
 br (i13 != 0)
 (Q (vT [vA [vL none 0 0, vS [], vI 0, vI 0, vL none 0 0], vI 0, vI i13]) h_15)
 (∃ (a11 : OA) (n11 k12 : Nat) (l9 : Bs) (i14 i15 : Int) (a12 : OA) (n12 k13 : Nat), h_15.row b1 1 [vL a11 n11 k12, vS l9, vI i14, vI i15, vL a12 n12 k13] ∧
 Q (vT [vA [vL a11 n11 k12, vS l9, vI i14, vI i15, vL a12 n12 k13], vI 0, vI 0]) h_15)) ∨
 (∃ (k8 u1 : Value), v_7 = vT [vB true, k8, u1] ∧
 Raw Tryz.prog (execOp (rho [(80, vP p1 o3)]) (mkO o13_12 0)) h_13 fun v_10 h_16 =>
 ∃ (l10 l11 : Bs) (c1 : Bool) (i16 : Int), v_10 = vT [vS l10, vA [vS l11, vB c1, vI i16]] ∧
 ∃ (a13 : OA) (n13 k14 : Nat), h_16.cell b1 5 = some (vL a13 n13 k14) ∧
 ∀ (b4 : Nat), h_16 b4 = none → ∀ (h_17 : PHeap), h_17 = h_16.put b4 (.cells ⟨[vS l11, vB c1, vI i16]⟩ 80) →
 (h_17.cell b1 5 = some (vL a13 n13 k14)) ∧
 Raw Tryz.prog (execOp (rho [(90, vL a13 n13 k14), (92, vL (ad b4 0) 1 1)]) (mkO o13_14 23)) h_17 fun v_11 h_18 =>
 ∃ (a14 : OA) (n14 k15 : Nat), v_11 = vL a14 n14 k15 ∧
 ∃ (l12 : List Value) (t3 : TypeId) (z3 : Nat × Nat), h_18 b1 = some (.cells ⟨l12⟩ t3 z3) ∧ (5 + 1 ≤ l12.length ∧ z3.2 ≤ 5) ∧
 ∀ (h_19 : PHeap), h_19 = h_18.put b1 (.cells ⟨splice l12 5 [vL a14 n14 k15]⟩ t3 z3) →
 ∃ (m12 : Nat), m12 < m10 ∧ I_3 m12 h_19 ∧
 tv [vL a5 n5 k5, vS l5, vI i7, vI i8, vL a6 n6 k6] ∧ True)))))
theorem T13 {l1 : Bs} {h : PHeap} {Q : Value → PHeap → Prop} (hR : R13 l1 h Q) : Tri Tryz.prog 13 [vS l1] h Q :=
 tri_of_dn mixed Tryz.func13 rfl (by kernel_rfl) low13 (rs := [.cell 2 true 5, .tmp 3, .tmp 4]) (by kernel_rfl) rfl (Eq.mpr (by kernel_rfl : dnF Tryz.prog Tryz.f13.ntmps d13 [.cell 2 true 5, .tmp 3, .tmp 4] [vS l1] h Q = R13 l1 h Q) hR)
abbrev o15_16 : Op := .binOp .eql 80 (.tmp 64) (.tmp 65) 80
noncomputable def d15 : DCode := up ⟨[(14, .c (.tup [(true, eik2), (false, [qi]), (false, [qi])])), (19, .c (.tup [(true, eik2), (false, [qi]), (false, [qi])])), (24, .c (.tup [(true, eik2), (false, [qi]), (false, [qi])])), (29, .c (.tup [(true, eik2), (false, [qi]), (false, [qi])])), (37, .l [.slice]), (43, .l [.slice]), (46, .l [qi]), (51, .l [.str]), (56, .l [.slice]), (62, .l [.slice]), (64, .l [.str, .bool, qi]), (66, .c (.one false [.bool]))], [], []⟩ (low Tryz.prog (fun _ => false) (Tryz.f15.body.getD .skip))
theorem low15 : low Tryz.prog (fun _ => false) (Tryz.f15.body.getD .skip) = some (eC d15) := by kernel_rfl
def R15 (h : PHeap) (Q : Value → PHeap → Prop) : Prop :=
 Tri Tryz.prog 13 [vS [115, 101, 116, 32, 114, 49, 44, 32, 120, 10, 46, 100, 97, 116, 97, 10, 120, 58, 32, 46, 98, 121, 116, 101, 32, 53]] h fun v_1 h_1 =>
 ∃ (a1 : OA) (n1 eik1 : Nat) (l1 : Bs) (i1 i2 : Int) (a2 : OA) (n2 eik2 : Nat) (i3 i4 : Int), v_1 = vT [vA [vL a1 n1 eik1, vS l1, vI i1, vI i2, vL a2 n2 eik2], vI i3, vI i4] ∧
 Tri Tryz.prog 13 [vS [97, 58, 32, 106, 117, 109, 112, 32, 97, 44, 32, 49]] h_1 fun v_2 h_2 =>
 ∃ (a3 : OA) (n3 k3 : Nat) (l2 : Bs) (i5 i6 : Int) (a4 : OA) (n4 k4 : Nat) (i7 i8 : Int), v_2 = vT [vA [vL a3 n3 k3, vS l2, vI i5, vI i6, vL a4 n4 k4], vI i7, vI i8] ∧
 Tri Tryz.prog 13 [vS [106, 117, 109, 112, 32, 98]] h_2 fun v_3 h_3 =>
 ∃ (a5 : OA) (n5 k5 : Nat) (l3 : Bs) (i9 i10 : Int) (a6 : OA) (n6 k6 : Nat) (i11 i12 : Int), v_3 = vT [vA [vL a5 n5 k5, vS l3, vI i9, vI i10, vL a6 n6 k6], vI i11, vI i12] ∧
 Tri Tryz.prog 13 [vS [115, 101, 116, 32, 114, 49, 44, 32, 51, 50, 55, 54, 56]] h_3 fun v_4 h_4 =>
 ∃ (a7 : OA) (n7 k7 : Nat) (l4 : Bs) (i13 i14 : Int) (a8 : OA) (n8 k8 : Nat) (i15 i16 : Int), v_4 = vT [vA [vL a7 n7 k7, vS l4, vI i13, vI i14, vL a8 n8 k8], vI i15, vI i16] ∧
 br (i4 == 0)
 (br (((n1 : Nat) : Int) == 1)
 (∃ (b1 o1 : Nat), a1 = some ⟨b1, o1, none⟩ ∧ (0 ≤ (0 : Int) ∧ (0 : Int) < n1) ∧
 ∃ (i17 : Int), h_4.cell b1 (o1 + 3) = some (vI i17) ∧
 br (i17 == 64)
 (br (l1 == [5])
 (br (((n2 : Nat) : Int) == 1)
 (∃ (b2 o2 : Nat), a2 = some ⟨b2, o2, none⟩ ∧ (0 ≤ (0 : Int) ∧ (0 : Int) < n2) ∧
 ∃ (l5 : Bs) (c1 : Bool) (i18 : Int), h_4.row b2 o2 [vS l5, vB c1, vI i18] ∧
 ∃ (c2 : Bool), PureRun Tryz.prog (execOp (rho [(64, vA [vS l5, vB c1, vI i18]), (65, vA [vS [120], vB true, vI 0])]) (mkO o15_16 4)) (vB c2) ∧
 br c2
 (br (i7 == 1)
 (br (i8 == 30)
 (br (i12 == 37)
 (Q (vB (i16 == 2)) h_4)
 (Q (vB false) h_4))
 (Q (vB false) h_4))
 (Q (vB false) h_4))
 (Q (vB false) h_4))
 (Q (vB false) h_4))
 (Q (vB false) h_4))
 (Q (vB false) h_4))
 (Q (vB false) h_4))
 (Q (vB false) h_4)
theorem T15 {h : PHeap} {Q : Value → PHeap → Prop} (hR : R15  h Q) : Tri Tryz.prog 15 [] h Q :=
 tri_of_dn mixed Tryz.func15 rfl (by kernel_rfl) low15 (rs := [.tmp 0]) (by kernel_rfl) rfl (Eq.mpr (by kernel_rfl : dnF Tryz.prog Tryz.f15.ntmps d15 [.tmp 0] [] h Q = R15  h Q) hR)
end Go.Proofs.D
namespace Go.As
def dropM (d : Bool) (off : Nat) (ls : List Lb) : List Lb := ls.dropWhile fun l => l.data == d && l.off == (off : Int)
def chunkN (at' : Nat) (r : Bytes) (ls : List Lb) : Nat := min (min 32 r.length) (match ls with | [] => 32 | l :: _ => (l.off - at').toNat)
theorem follows_iff {a b : Lb} : follows a b = true ↔ (a.data = false ∧ b.data = true) ∨ (a.data = b.data ∧ (a.off < b.off ∨ (a.off = b.off ∧ a.name < b.name))) := by
 obtain ⟨an, ad, ao⟩ := a
 obtain ⟨bn, bd, bo⟩ := b
 unfold follows
 by_cases h : ao = bo
 · subst h; cases ad <;> cases bd <;> simp
 · cases ad <;> cases bd <;> simp [h]
theorem follows_trans {a b c : Lb} (h1 : follows a b = true) (h2 : follows b c = true) : follows a c = true := by
 rw [follows_iff] at *
 rcases h1 with ⟨x1, x2⟩ | ⟨x1, x2⟩ <;> rcases h2 with ⟨y1, y2⟩ | ⟨y1, y2⟩
 · rw [x2] at y1; cases y1
 · exact .inl ⟨x1, by rw [← y1, x2]⟩
 · exact .inl ⟨by rw [x1, y1], y2⟩
 · refine .inr ⟨x1.trans y1, ?_⟩
   rcases x2 with x2 | ⟨x2, x3⟩ <;> rcases y2 with y2 | ⟨y2, y3⟩
   · exact .inl (by omega)
   · exact .inl (by omega)
   · exact .inl (by omega)
   · exact .inr ⟨x2.trans y2, List.lt_trans x3 y3⟩
theorem pair_of {p : Pg} : ∀ {ls : List Lb} {q : Lb}, labelsErr p (some q) ls = 0 → (q :: ls).Pairwise fun a b => follows a b = true
 | [], q, _ => by simp
 | l :: ls, q, h => by
   rw [labelsErr] at h
   split at h
   · cases h
   split at h
   · cases h
   split at h
   · cases h
   rename_i hf
   have hf : follows q l = true := by simpa using hf
   have ih := pair_of h
   refine List.pairwise_cons.2 ⟨fun x hx => ?_, ih⟩
   rcases List.mem_cons.1 hx with rfl | hx
   · exact hf
   · exact follows_trans hf ((List.pairwise_cons.1 ih).1 x hx)
theorem sorted_of {p : Pg} : ∀ {ls : List Lb}, labelsErr p none ls = 0 → ls.Pairwise fun a b => follows a b = true
 | [], _ => List.Pairwise.nil
 | l :: ls, h => by
   rw [labelsErr] at h
   split at h
   · cases h
   split at h
   · cases h
   simp only [Bool.false_eq_true, if_false] at h
   exact pair_of h
structure LbOk (p : Pg) (l : Lb) : Prop where
 name : isLabel l.name = true
 lo : 0 ≤ l.off
 code : l.data = false → l.off % 4 = 0 ∧ l.off ≤ 4 * (p.code.length : Int)
 dat : l.data = true → l.off ≤ (p.data.length : Int) + p.zero
theorem each_of {p : Pg} : ∀ {ls : List Lb} {q : Option Lb}, labelsErr p q ls = 0 → ∀ l ∈ ls, LbOk p l
 | [], _, _, l, hl => by cases hl
 | x :: ls, q, h, l, hl => by
   unfold labelsErr at h
   obtain ⟨h1, h⟩ := ite_zero (n := 11) h
   obtain ⟨h2, h⟩ := ite_zero (n := 1) h
   obtain ⟨_, h⟩ := ite_zero (n := 31) h
   simp only [not_or, not_and] at h2
   rcases List.mem_cons.1 hl with rfl | hl
   · refine ⟨by simpa using h1, by omega, fun hd => ?_, fun hd => ?_⟩
     · have := h2.2.1 hd
       omega
     · have := h2.2.2 hd
       omega
   · exact each_of h l hl
structure POkS (p : Pg) : Prop where
 ins : ∀ x ∈ p.code, checkI x = 0
 zero : 0 ≤ p.zero ∧ p.zero ≤ 4096
 mem : dataAt p + p.data.length + p.zero ≤ 4096
 count : p.labels.length ≤ 1024
 entry : 0 ≤ p.entry ∧ p.entry < 4 * (p.code.length : Int)
 sorted : p.labels.Pairwise fun a b => follows a b = true
 each : ∀ l ∈ p.labels, LbOk p l
 names : twice (p.labels.map (·.name)) = false
theorem check_ok {p : Pg} (h : checkP p = 0) : POkS p := by
 unfold checkP at h
 split at h
 · rename_i e he
   have := List.find?_some he
   simp at this; exact absurd h this
 rename_i hn
 split at h
 · cases h
 rename_i h2
 split at h
 · cases h
 rename_i h3
 simp only at h
 split at h
 · rename_i h4; exact absurd h h4
 rename_i h4
 split at h
 · cases h
 rename_i h5
 have h4 : labelsErr p none p.labels = 0 := by simpa using h4
 simp only [not_or] at h2 h3
 refine ⟨fun x hx => ?_, by omega, by omega, by omega, by omega, sorted_of h4, each_of h4, by simpa using h5⟩
 have := List.find?_eq_none.1 hn (checkI x) (List.mem_map.2 ⟨x, hx, rfl⟩)
 simpa using this
theorem POkS.codeLen {p : Pg} (h : POkS p) : 4 * p.code.length + p.data.length ≤ 4096 := by
 have := h.mem
 have := h.zero.1
 unfold dataAt at *
 omega
theorem drop_head {d : Bool} {off : Nat} : ∀ {ls : List Lb} {x : Lb} {t : List Lb}, dropM d off ls = x :: t → ¬ (x.data = d ∧ x.off = (off : Int))
 | [], _, _, h => by cases h
 | y :: ls, x, t, h => by
   unfold dropM at h
   rw [List.dropWhile_cons] at h
   split at h
   · exact drop_head (ls := ls) h
   · rename_i hy
     injection h with h _
     subst h
     simpa using hy
section
variable {z e : Int} {he hz : Bool} {us : List Us}
structure Rd (p : Pg) (lb ls : List Lb) : Prop where
 labels : lb ++ ls = p.labels
 ok : POkS p
theorem Rd.each {p : Pg} {lb ls : List Lb} (h : Rd p lb ls) : ∀ l ∈ ls, LbOk p l := fun l hl => h.ok.each l (by rw [← h.labels]; exact List.mem_append_right _ hl)
theorem twice_app : ∀ (x y : List Bytes), twice (x ++ y) = false → twice x = false
 | [], _, _ => rfl
 | c :: x, y, hy => by
   rw [List.cons_append, twice, Bool.or_eq_false_iff] at hy
   rw [twice, Bool.or_eq_false_iff]
   refine ⟨?_, twice_app x y hy.2⟩
   have := hy.1
   rw [Bool.eq_false_iff] at this ⊢
   intro hc
   refine this ?_
   rw [List.contains_iff_mem] at hc ⊢
   exact List.mem_append_left _ hc
end
end Go.As
namespace Go.As
def sumN (ls : List Lb) : Nat := (ls.map fun l => l.name.length + 2).sum
theorem take_drop_len (s : Bytes) : (s.takeWhile wordB).length + (s.dropWhile wordB).length = s.length := by rw [← List.length_append, List.takeWhile_append_dropWhile]
structure Fit (a : St) (k : Nat) : Prop where
 fit : ∀ l ∈ a.p.labels, l.data = true → l.off ≤ (a.p.data.length : Int)
 sum : sumN a.p.labels ≤ 2 * k
def Grow (p q : Pg) : Prop := q.labels = p.labels ∧ p.data.length ≤ q.data.length
theorem Grow.refl (p : Pg) : Grow p p := ⟨rfl, Nat.le_refl _⟩
theorem Grow.trans {p q r : Pg} (h1 : Grow p q) (h2 : Grow q r) : Grow p r := ⟨h2.1.trans h1.1, Nat.le_trans h1.2 h2.2⟩
theorem bind_ok {α β : Type} {x : R α} {f : α → R β} {y : β} (h : (x >>= f) = .ok y) : ∃ z, x = .ok z ∧ f z = .ok y := by
 cases x with
 | error e => cases h
 | ok z => exact ⟨z, rfl, h⟩
theorem Fit.grow {a a' : St} {k : Nat} (hF : Fit a k) (h : Grow a.p a'.p) : Fit a' k := by
 refine ⟨fun l hl hd => ?_, ?_⟩
 · rw [h.1] at hl
   have := hF.fit l hl hd
   have := h.2
   omega
 · rw [h.1]; exact hF.sum
theorem Fit.le {a : St} {k k' : Nat} (hF : Fit a k) (h : k ≤ k') : Fit a k' := ⟨hF.fit, by have := hF.sum; omega⟩
theorem split_sum : ∀ s : Bytes, ((splitAt10 s).map List.length).sum ≤ s.length
 | [] => by simp [splitAt10]
 | c :: s => by
   have ih := split_sum s
   rw [splitAt10]
   split
   · simp; omega
   · obtain ⟨h, t, e⟩ := split_ne s
     rw [e] at ih ⊢
     simp at *; omega
theorem ins_perm (x : Lb) : ∀ s : List Lb, (insL x s).Perm (x :: s)
 | [] => List.Perm.refl _
 | y :: s => by
   rw [insL]
   split
   · exact ((ins_perm x s).cons y).trans (List.Perm.swap x y s)
   · exact List.Perm.refl _
theorem sort_perm (l : List Lb) : (sortL l).Perm l := by
 have : ∀ (l s : List Lb), (l.foldl (fun s x => insL x s) s).Perm (s ++ l) := by
  intro l
  induction l with
  | nil => intro s; simp
  | cons x l ih =>
    intro s
    rw [List.foldl_cons]
    refine (ih _).trans ?_
    refine ((ins_perm x s).append_right l).trans ?_
    exact (List.perm_middle (l₁ := s)).symm
 have := this l []
 rw [List.nil_append] at this
 exact this
end Go.As
namespace Go.Proofs.D
open Go Go.Den Go.As Go.Shelf
set_option maxRecDepth 100000
def layC_ren : Go.Shelf.Ren := ⟨fun | 106 => 93 | 213 => 131 | 265 => 153 | n => n, fun | 9 => 9 | 3 => 3 | n => n, fun | n => n⟩
theorem layC : Go.Proofs.Lays.n106 Tryz.prog layC_ren where
 mixed := by kernel_rfl
 f106 := Tryz.func93.trans (congrArg some (by kernel_rfl))
 f213 := Tryz.func131.trans (congrArg some (by kernel_rfl))
 f265 := Tryz.func153.trans (congrArg some (by kernel_rfl))
 t3 := Tryz.underlying3
 a3 := Tryz.isAgg3
 z3 := Tryz.sizeOf3
 v3 := Tryz.zeroValue3
 t9 := Tryz.underlying9
 a9 := Tryz.isAgg9
 z9 := Tryz.sizeOf9
 v9 := Tryz.zeroValue9
def layS_ren : Go.Shelf.Ren := ⟨fun | 146 => 38 | 221 => 87 | 268 => 116 | 138 => 117 | 143 => 118 | 195 => 143 | 197 => 144 | 218 => 145 | 219 => 146 | 260 => 166 | 217 => 167 | 225 => 168 | 224 => 169 | 267 => 170 | 266 => 182 | 314 => 183 | n => n, fun | 9 => 9 | 31 => 52 | 3 => 3 | 4 => 4 | 0 => 0 | 105 => 187 | 21 => 21 | 5 => 5 | 46 => 98 | 119 => 220 | 139 => 223 | 138 => 222 | 146 => 224 | 51 => 161 | n => n, fun | 1 => 1 | 3 => 3 | 4 => 4 | n => n⟩
theorem layS : Go.Proofs.Lays.n146 Tryz.prog layS_ren where
 mixed := by kernel_rfl
 f138 := Tryz.func117.trans (congrArg some (by kernel_rfl))
 f143 := Tryz.func118.trans (congrArg some (by kernel_rfl))
 f146 := Tryz.func38.trans (congrArg some (by kernel_rfl))
 f195 := Tryz.func143.trans (congrArg some (by kernel_rfl))
 f197 := Tryz.func144.trans (congrArg some (by kernel_rfl))
 f217 := Tryz.func167.trans (congrArg some (by kernel_rfl))
 f218 := Tryz.func145.trans (congrArg some (by kernel_rfl))
 f219 := Tryz.func146.trans (congrArg some (by kernel_rfl))
 f221 := Tryz.func87.trans (congrArg some (by kernel_rfl))
 f224 := Tryz.func169.trans (congrArg some (by kernel_rfl))
 f225 := Tryz.func168.trans (congrArg some (by kernel_rfl))
 f260 := Tryz.func166.trans (congrArg some (by kernel_rfl))
 f266 := Tryz.func182.trans (congrArg some (by kernel_rfl))
 f267 := Tryz.func170.trans (congrArg some (by kernel_rfl))
 f268 := Tryz.func116.trans (congrArg some (by kernel_rfl))
 f314 := Tryz.func183.trans (congrArg some (by kernel_rfl))
 t0 := Tryz.underlying0
 a0 := Tryz.isAgg0
 z0 := Tryz.sizeOf0
 v0 := Tryz.zeroValue0
 t3 := Tryz.underlying3
 a3 := Tryz.isAgg3
 z3 := Tryz.sizeOf3
 v3 := Tryz.zeroValue3
 t4 := Tryz.underlying4
 a4 := Tryz.isAgg4
 z4 := Tryz.sizeOf4
 v4 := Tryz.zeroValue4
 t5 := Tryz.underlying5
 a5 := Tryz.isAgg5
 z5 := Tryz.sizeOf5
 v5 := Tryz.zeroValue5
 t9 := Tryz.underlying9
 a9 := Tryz.isAgg9
 z9 := Tryz.sizeOf9
 v9 := Tryz.zeroValue9
 t21 := Tryz.underlying21
 a21 := Tryz.isAgg21
 z21 := Tryz.sizeOf21
 v21 := Tryz.zeroValue21
 t31 := Tryz.underlying52
 a31 := Tryz.isAgg52
 z31 := Tryz.sizeOf52
 v31 := Tryz.zeroValue52
 t46 := Tryz.underlying98
 a46 := Tryz.isAgg98
 z46 := Tryz.sizeOf98
 v46 := Tryz.zeroValue98
 t51 := Tryz.underlying161
 a51 := Tryz.isAgg161
 z51 := Tryz.sizeOf161
 v51 := Tryz.zeroValue161
 t105 := Tryz.underlying187
 a105 := Tryz.isAgg187
 z105 := Tryz.sizeOf187
 v105 := Tryz.zeroValue187
 t119 := Tryz.underlying220
 a119 := Tryz.isAgg220
 z119 := Tryz.sizeOf220
 t138 := Tryz.underlying222
 a138 := Tryz.isAgg222
 z138 := Tryz.sizeOf222
 v138 := Tryz.zeroValue222
 t139 := Tryz.underlying223
 a139 := Tryz.isAgg223
 z139 := Tryz.sizeOf223
 v139 := Tryz.zeroValue223
 t146 := Tryz.underlying224
 a146 := Tryz.isAgg224
 z146 := Tryz.sizeOf224
 v146 := Tryz.zeroValue224
 g1 := by kernel_rfl
 g3 := by kernel_rfl
 g4 := by kernel_rfl
theorem tri_calls {f : FuncId} {fn : Func} {c : Code} {args : List Value} {h : PHeap} {Q : Value → PHeap → Prop} (hf : Tryz.prog.funcs[f]? = some fn) (hname : (fn.name == "runtime.NumGoroutine") = false) (hb : fn.body = some c)
 (H : ∀ w, Sub w h → Calls Tryz.prog f args.toArray w fun e w' => ∃ v h', e = .returned v ∧ Q v h' ∧ Sub w' h' ∧ Keep w h w' h') : Tri Tryz.prog f args h Q := by
 intro w hs
 unfold CallR
 rw [enters_of hf hname hb]
 refine Calls.mono (H w hs) ?_
 rintro e w' ⟨v, h', rfl, hq, h1, h2⟩
 exact ⟨h', hq, h1, h2⟩
def ba (s : Bytes) : ByteArray := ⟨⟨s⟩⟩
theorem strcmp_t (a b : Bytes) {h : PHeap} : Tri Tryz.prog 93 [vS a, vS b] h fun v h' => v = vI (Lib.compareBytes a b) ∧ h' = h := by
 refine tri_calls Tryz.func93 (by kernel_rfl) rfl fun w hs => ?_
 refine Calls.mono (Any.strings_Compare layC (ba a) (ba b) w) ?_
 rintro e w' ⟨rfl, rfl⟩
 exact ⟨_, h, rfl, ⟨rfl, rfl⟩, hs, Keep.refl _ _⟩
theorem splitK_10 : ∀ (s : Bytes), Lib.splitK [10] 0 (Lib.count s [10]) s = splitAt10 s
 | [] => rfl
 | c :: r => by
   have ih := splitK_10 r
   by_cases hc : c = 10
   · subst hc
     have hix : Lib.index (10 :: r) [10] = ((0 : Nat) : Int) := rfl
     rw [Lib.count_hit (by simp) hix, Nat.add_comm, Lib.splitK, if_neg (by rw [hix]; decide), hix]
     show [] :: Lib.splitK [10] 0 (Lib.count r [10]) r = _
     rw [ih, splitAt10, if_pos rfl]
   · have hx : Lib.index (c :: r) [10] = if Lib.index r [10] == -1 then -1 else Lib.index r [10] + 1 := by
      rw [Lib.index, if_neg]
      simp [List.isPrefixOf]
      exact fun h => hc h.symm
     rw [splitAt10, if_neg hc]
     have hge := Lib.index_ge r [10]
     by_cases h1 : Lib.index r [10] = -1
     · rw [h1] at hx
       rw [Lib.count_miss h1] at ih
       rw [Lib.count_miss hx]
       rw [Lib.splitK] at ih ⊢
       rw [← ih]
     · obtain ⟨i, hi⟩ : ∃ i : Nat, Lib.index r [10] = (i : Int) := ⟨(Lib.index r [10]).toNat, by omega⟩
       rw [if_neg (by simpa using h1), hi] at hx
       have hx : Lib.index (c :: r) [10] = ((i + 1 : Nat) : Int) := by rw [hx]; omega
       rw [Lib.count_hit (by simp) hi, Nat.add_comm, Lib.splitK, if_neg (by rw [hi]; simp <;> omega), hi] at ih
       rw [Lib.count_hit (by simp) hx, Nat.add_comm, Lib.splitK, if_neg (by rw [hx]; simp <;> omega), hx]
       rw [← ih]
       simp only [Int.toNat_natCast, Nat.add_zero, List.take_succ_cons]
       rfl
def MaxLen (h : PHeap) : Prop := ∃ m : Int, h.cell 1 0 = some (vI m)
theorem MaxLen.ext {h h' : PHeap} (x : Ext h h') (hm : MaxLen h) : MaxLen h' := by
 obtain ⟨m, hm⟩ := hm
 exact ⟨m, cell_ext (fun ob => x 1 ob) hm⟩
theorem split_t (s : Bytes) (hl : s.length ≤ 1000000) {h : PHeap} (hM : MaxLen h) : Tri Tryz.prog 38 [vS s, vS [10]] h fun v h' => ∃ b, h b = none ∧ v = vL (ad b 0) (splitAt10 s).length (splitAt10 s).length ∧ h' = h.put b (.cells ⟨(splitAt10 s).map vS⟩ 9 (0, 0)) := by
 refine tri_calls Tryz.func38 (by kernel_rfl) rfl fun w hs => ?_
 obtain ⟨m, hm⟩ := hM
 refine Calls.mono (Any.strings_Split layS (by kernel_rfl) (ba s) (ba [10]) m w (by show s.length < _; omega) (hs.cell hm) (by decide)) ?_
 rintro e w' ⟨rfl, rfl⟩
 have hb : h w.heap.size = none := by
  cases hq : h w.heap.size with
  | none => rfl
  | some o =>
    have := hs _ _ hq
    simp at this
 have hall := Lib.splitB_all (ba [10]) (by decide) 0 _ (ba s) rfl
 have hdat := Lib.splitB_data (ba [10]) 0 (Lib.countB (ba s) (ba [10])) (ba s)
 rw [show Lib.splitK (ba [10]).data.toList 0 (Lib.countB (ba s) (ba [10])) (ba s).data.toList = splitAt10 s from splitK_10 s] at hdat
 have hlen : (splitAt10 s).length = Lib.countB (ba s) (ba [10]) + 1 := by rw [← hdat, List.length_map, hall]
 have hv : (Lib.splitB (ba [10]) 0 (Lib.countB (ba s) (ba [10])) (ba s)).map Value.string = (splitAt10 s).map vS := by
  rw [← hdat, List.map_map]
  rfl
 refine ⟨_, h.put w.heap.size (.cells ⟨(splitAt10 s).map vS⟩ 9 (0, 0)), rfl, ⟨_, hb, by rw [hlen], rfl⟩, ?_, ?_⟩
 · intro k o hk
   show (w.heap.push _)[k]? = some o
   by_cases hkb : k = w.heap.size
   · subst hkb
     rw [put_same] at hk
     rw [Array.getElem?_push_size, ← hk, ← hv]
     rfl
   · rw [put_ne hkb] at hk
     have := hs k o hk
     rw [Array.getElem?_push, if_neg hkb]; exact this
 · refine ⟨rfl, rfl, rfl, (by show w.heap.size ≤ (w.heap.push _).size; rw [Array.size_push]; omega), fun k hk hn => ⟨by rw [put_ne (by omega)]; exact hn, ?_⟩⟩
   show (w.heap.push _)[k]? = _
   rw [Array.getElem?_push, if_neg (by omega)]
end Go.Proofs.D
namespace Go.Proofs.D
open Go Go.Den
set_option maxRecDepth 100000
set_option maxHeartbeats 4000000
abbrev o86_11 : Op := .call { callee := (.builtin .append), args := #[(.tmp 75), (.tmp 84)], argTypes := #[22, 22] }
noncomputable def d86 : DCode := up ⟨[(25, .c (.tup [(false, [qi]), (false, [qi])])), (51, .l [qi, .str]), (54, .l [.str]), (55, .c (.tup [(false, [qi]), (false, [.bool])])), (64, .l [.ptr]), (68, .l [.slice]), (70, .l [.ptr]), (71, .l [.ptr]), (75, .l [.slice]), (78, .l [qi]), (80, .l [qi]), (82, .l [qi]), (85, .c (.one false [.slice])), (93, .c (.tup [(false, [qi]), (false, [qi]), (false, [qi])])), (99, .l [.ptr]), (106, .l [.str]), (110, .c (.tup [(false, [qi]), (false, [qi])])), (115, .c (.tup []))], [62, 16, 88], [(48, 22, [(47, qi)], [])]⟩ (low Tryz.prog (fun d => Nat.beq d 3 || Nat.beq d 11 || Nat.beq d 16) (Tryz.f86.body.getD .skip))
theorem low86 : low Tryz.prog (fun d => Nat.beq d 3 || Nat.beq d 11 || Nat.beq d 16) (Tryz.f86.body.getD .skip) = some (eC d86) := by kernel_rfl
def R86 (p1 : Nat) (o1 : Nat) (i1 : Int) (a1 : OA) (n1 : Nat) (k1 : Nat) (h : PHeap) (Q : Value → PHeap → Prop) : Prop :=
 ∀ (b1 : Nat), h b1 = none → ∀ (h_1 : PHeap), h_1 = h.put b1 (.cells ⟨[vP p1 o1]⟩ 68) →
 Tri Tryz.prog 59 [vI i1] h_1 fun v_1 h_2 =>
 ∃ (i2 i3 : Int), v_1 = vT [vI i2, vI i3] ∧
 br (i2 == 6)
 ((okA a1 n1 k1 ∧ 0 ≤ (0 : Int) ∧ (0 : Int) ≤ (IntKind.i64.wrap (((n1 : Nat) : Int) - 1)) ∧ (IntKind.i64.wrap (((n1 : Nat) : Int) - 1)) ≤ k1) ∧ ∀ (a2 : OA), SlA a1 a2 0 k1 2 →
 ∀ (b2 : Nat), h_2 b2 = none → ∀ (h_3 : PHeap), h_3 = h_2.put b2 (.cells ⟨[vI 0, vI 0, vI 0]⟩ 163) →
 ∃ (I_1 : Nat → Int → PHeap → Prop), (∃ (m2 : Nat), I_1 m2 (0 : Int) h_3) ∧
 ∀ (m1 : Nat) (i4 : Int) (h_4 : PHeap), I_1 m1 i4 h_4 →
 br (decide (i4 < ((((IntKind.i64.wrap (((n1 : Nat) : Int) - 1)).toNat - 0) : Nat) : Int)))
 (∃ (b3 o2 : Nat), a2 = some ⟨b3, o2, none⟩ ∧ (0 ≤ i4 ∧ i4 < ((((IntKind.i64.wrap (((n1 : Nat) : Int) - 1)).toNat - 0) : Nat) : Int)) ∧
 ∃ (i5 : Int) (l1 : Bs), h_4.row b3 (o2 + (i4).toNat * 2) [vI i5, vS l1] ∧
 Tri Tryz.prog 50 [vS l1] h_4 fun v_2 h_5 =>
 ∃ (i6 : Int) (c1 : Bool), v_2 = vT [vI i6, vB c1] ∧
 br (!c1)
 (Q (vI 30) h_5)
 ((0 ≤ i4 ∧ i4 < 3) ∧
 ∃ (l2 : List Value) (t1 : TypeId) (z1 : Nat × Nat), h_5 b2 = some (.cells ⟨l2⟩ t1 z1) ∧ ((0 + (i4).toNat * 1) + 1 ≤ l2.length ∧ z1.2 ≤ (0 + (i4).toNat * 1)) ∧
 ∀ (h_6 : PHeap), h_6 = h_5.put b2 (.cells ⟨splice l2 (0 + (i4).toNat * 1) [vI i6]⟩ t1 z1) →
 ∃ (m3 : Nat), m3 < m1 ∧ I_1 m3 (IntKind.i64.wrap (i4 + 1)) h_6 ∧
 True))
 (∃ (p2 o3 : Nat), h_4.cell b1 0 = some (vP p2 o3) ∧
 ∃ (a3 : OA) (n2 k2 : Nat), h_4.cell p2 (o3 + 1) = some (vL a3 n2 k2) ∧
 ∀ (b4 : Nat), h_4 b4 = none → ∀ (h_7 : PHeap), h_7 = h_4.put b4 (.cells ⟨[vI 0]⟩ 3) →
 ∃ (l3 : List Value) (t2 : TypeId) (z2 : Nat × Nat), h_7 b4 = some (.cells ⟨l3⟩ t2 z2) ∧ (0 + 1 ≤ l3.length ∧ z2.2 ≤ 0) ∧
 ∀ (h_8 : PHeap), h_8 = h_7.put b4 (.cells ⟨splice l3 0 [vI ((n2 : Nat) : Int)]⟩ t2 z2) →
 ∃ (p3 o4 : Nat), h_8.cell b1 0 = some (vP p3 o4) ∧
 ∃ (p4 o5 : Nat), h_8.cell b1 0 = some (vP p4 o5) ∧
 ∃ (a4 : OA) (n3 k3 : Nat), h_8.cell p4 (o5 + 1) = some (vL a4 n3 k3) ∧
 (0 ≤ (0 : Int) ∧ (0 : Int) < 3) ∧
 ∃ (i7 : Int), h_8.cell b2 0 = some (vI i7) ∧
 (0 ≤ (1 : Int) ∧ (1 : Int) < 3) ∧
 ∃ (i8 : Int), h_8.cell b2 1 = some (vI i8) ∧
 (0 ≤ (2 : Int) ∧ (2 : Int) < 3) ∧
 ∃ (i9 : Int), h_8.cell b2 2 = some (vI i9) ∧
 ∀ (b5 : Nat), h_8 b5 = none → ∀ (h_9 : PHeap), h_9 = h_8.put b5 (.cells ⟨[vI i1, vI i7, vI i8, vI i9]⟩ 58) →
 (h_9.cell b2 2 = some (vI i9)) ∧
 (h_9.cell b2 1 = some (vI i8)) ∧
 (h_9.cell b2 0 = some (vI i7)) ∧
 (h_9.cell p4 (o5 + 1) = some (vL a4 n3 k3)) ∧
 (h_9.cell b1 0 = some (vP p4 o5)) ∧
 (h_9.cell b1 0 = some (vP p3 o4)) ∧
 Raw Tryz.prog (execOp (rho [(75, vL a4 n3 k3), (84, vL (ad b5 0) 1 1)]) (mkO o86_11 22)) h_9 fun v_3 h_10 =>
 ∃ (a5 : OA) (n4 k4 : Nat), v_3 = vL a5 n4 k4 ∧
 (h_10.cell b2 2 = some (vI i9)) ∧
 (h_10.cell b2 1 = some (vI i8)) ∧
 (h_10.cell b2 0 = some (vI i7)) ∧
 (h_10.cell b1 0 = some (vP p4 o5)) ∧
 (h_10.cell b1 0 = some (vP p3 o4)) ∧
 ∃ (l4 : List Value) (t3 : TypeId) (z3 : Nat × Nat), h_10 p3 = some (.cells ⟨l4⟩ t3 z3) ∧ ((o4 + 1) + 1 ≤ l4.length ∧ z3.2 ≤ (o4 + 1)) ∧
 ∀ (h_11 : PHeap), h_11 = h_10.put p3 (.cells ⟨splice l4 (o4 + 1) [vL a5 n4 k4]⟩ t3 z3) →
 Tri Tryz.prog 114 [vI i1] h_11 fun v_4 h_12 =>
 ∃ (i10 i11 i12 : Int), v_4 = vT [vI i10, vI i11, vI i12] ∧
 ∃ (p5 o6 : Nat), h_12.cell b1 0 = some (vP p5 o6) ∧
 ∃ (b6 o7 : Nat), a1 = some ⟨b6, o7, none⟩ ∧ (0 ≤ (IntKind.i64.wrap (((n1 : Nat) : Int) - 1)) ∧ (IntKind.i64.wrap (((n1 : Nat) : Int) - 1)) < n1) ∧
 ∃ (l5 : Bs), h_12.cell b6 ((o7 + (IntKind.i64.wrap (((n1 : Nat) : Int) - 1)).toNat * 2) + 1) = some (vS l5) ∧
 Tri Tryz.prog 110 [vP p5 o6, vS l5, vI i10, vI i11, vF 115 [] [vP b1 0, vP b4 0]] h_12 fun v_5 h_13 =>
 ∃ (i13 i14 : Int), v_5 = vT [vI i13, vI i14] ∧
 Tri Tryz.prog 115 [vI i13, vP b1 0, vP b4 0] h_13 fun v_6 h_14 =>
 v_6 = vT [] ∧
 Q (vI i14) h_14))
 (br (i2 == 4)
 ((okA a1 n1 k1 ∧ 0 ≤ (0 : Int) ∧ (0 : Int) ≤ (IntKind.i64.wrap (((n1 : Nat) : Int) - 1)) ∧ (IntKind.i64.wrap (((n1 : Nat) : Int) - 1)) ≤ k1) ∧ ∀ (a6 : OA), SlA a1 a6 0 k1 2 →
 ∀ (b7 : Nat), h_2 b7 = none → ∀ (h_15 : PHeap), h_15 = h_2.put b7 (.cells ⟨[vI 0, vI 0, vI 0]⟩ 163) →
 ∃ (I_2 : Nat → Int → PHeap → Prop), (∃ (m5 : Nat), I_2 m5 (0 : Int) h_15) ∧
 ∀ (m4 : Nat) (i15 : Int) (h_16 : PHeap), I_2 m4 i15 h_16 →
 br (decide (i15 < ((((IntKind.i64.wrap (((n1 : Nat) : Int) - 1)).toNat - 0) : Nat) : Int)))
 (∃ (b8 o8 : Nat), a6 = some ⟨b8, o8, none⟩ ∧ (0 ≤ i15 ∧ i15 < ((((IntKind.i64.wrap (((n1 : Nat) : Int) - 1)).toNat - 0) : Nat) : Int)) ∧
 ∃ (i16 : Int) (l6 : Bs), h_16.row b8 (o8 + (i15).toNat * 2) [vI i16, vS l6] ∧
 Tri Tryz.prog 50 [vS l6] h_16 fun v_7 h_17 =>
 ∃ (i17 : Int) (c2 : Bool), v_7 = vT [vI i17, vB c2] ∧
 br (!c2)
 (Q (vI 30) h_17)
 ((0 ≤ i15 ∧ i15 < 3) ∧
 ∃ (l7 : List Value) (t4 : TypeId) (z4 : Nat × Nat), h_17 b7 = some (.cells ⟨l7⟩ t4 z4) ∧ ((0 + (i15).toNat * 1) + 1 ≤ l7.length ∧ z4.2 ≤ (0 + (i15).toNat * 1)) ∧
 ∀ (h_18 : PHeap), h_18 = h_17.put b7 (.cells ⟨splice l7 (0 + (i15).toNat * 1) [vI i17]⟩ t4 z4) →
 ∃ (m6 : Nat), m6 < m4 ∧ I_2 m6 (IntKind.i64.wrap (i15 + 1)) h_18 ∧
 True))
 (∃ (p6 o9 : Nat), h_16.cell b1 0 = some (vP p6 o9) ∧
 ∃ (a7 : OA) (n5 k5 : Nat), h_16.cell p6 (o9 + 1) = some (vL a7 n5 k5) ∧
 ∀ (b9 : Nat), h_16 b9 = none → ∀ (h_19 : PHeap), h_19 = h_16.put b9 (.cells ⟨[vI 0]⟩ 3) →
 ∃ (l8 : List Value) (t5 : TypeId) (z5 : Nat × Nat), h_19 b9 = some (.cells ⟨l8⟩ t5 z5) ∧ (0 + 1 ≤ l8.length ∧ z5.2 ≤ 0) ∧
 ∀ (h_20 : PHeap), h_20 = h_19.put b9 (.cells ⟨splice l8 0 [vI ((n5 : Nat) : Int)]⟩ t5 z5) →
 ∃ (p7 o10 : Nat), h_20.cell b1 0 = some (vP p7 o10) ∧
 ∃ (p8 o11 : Nat), h_20.cell b1 0 = some (vP p8 o11) ∧
 ∃ (a8 : OA) (n6 k6 : Nat), h_20.cell p8 (o11 + 1) = some (vL a8 n6 k6) ∧
 (0 ≤ (0 : Int) ∧ (0 : Int) < 3) ∧
 ∃ (i18 : Int), h_20.cell b7 0 = some (vI i18) ∧
 (0 ≤ (1 : Int) ∧ (1 : Int) < 3) ∧
 ∃ (i19 : Int), h_20.cell b7 1 = some (vI i19) ∧
 (0 ≤ (2 : Int) ∧ (2 : Int) < 3) ∧
 ∃ (i20 : Int), h_20.cell b7 2 = some (vI i20) ∧
 ∀ (b10 : Nat), h_20 b10 = none → ∀ (h_21 : PHeap), h_21 = h_20.put b10 (.cells ⟨[vI i1, vI i18, vI i19, vI i20]⟩ 58) →
 (h_21.cell b7 2 = some (vI i20)) ∧
 (h_21.cell b7 1 = some (vI i19)) ∧
 (h_21.cell b7 0 = some (vI i18)) ∧
 (h_21.cell p8 (o11 + 1) = some (vL a8 n6 k6)) ∧
 (h_21.cell b1 0 = some (vP p8 o11)) ∧
 (h_21.cell b1 0 = some (vP p7 o10)) ∧
 Raw Tryz.prog (execOp (rho [(75, vL a8 n6 k6), (84, vL (ad b10 0) 1 1)]) (mkO o86_11 22)) h_21 fun v_8 h_22 =>
 ∃ (a9 : OA) (n7 k7 : Nat), v_8 = vL a9 n7 k7 ∧
 (h_22.cell b7 2 = some (vI i20)) ∧
 (h_22.cell b7 1 = some (vI i19)) ∧
 (h_22.cell b7 0 = some (vI i18)) ∧
 (h_22.cell b1 0 = some (vP p8 o11)) ∧
 (h_22.cell b1 0 = some (vP p7 o10)) ∧
 ∃ (l9 : List Value) (t6 : TypeId) (z6 : Nat × Nat), h_22 p7 = some (.cells ⟨l9⟩ t6 z6) ∧ ((o10 + 1) + 1 ≤ l9.length ∧ z6.2 ≤ (o10 + 1)) ∧
 ∀ (h_23 : PHeap), h_23 = h_22.put p7 (.cells ⟨splice l9 (o10 + 1) [vL a9 n7 k7]⟩ t6 z6) →
 Tri Tryz.prog 114 [vI i1] h_23 fun v_9 h_24 =>
 ∃ (i21 i22 i23 : Int), v_9 = vT [vI i21, vI i22, vI i23] ∧
 ∃ (p9 o12 : Nat), h_24.cell b1 0 = some (vP p9 o12) ∧
 ∃ (b11 o13 : Nat), a1 = some ⟨b11, o13, none⟩ ∧ (0 ≤ (IntKind.i64.wrap (((n1 : Nat) : Int) - 1)) ∧ (IntKind.i64.wrap (((n1 : Nat) : Int) - 1)) < n1) ∧
 ∃ (l10 : Bs), h_24.cell b11 ((o13 + (IntKind.i64.wrap (((n1 : Nat) : Int) - 1)).toNat * 2) + 1) = some (vS l10) ∧
 Tri Tryz.prog 110 [vP p9 o12, vS l10, vI i21, vI i22, vF 115 [] [vP b1 0, vP b9 0]] h_24 fun v_10 h_25 =>
 ∃ (i24 i25 : Int), v_10 = vT [vI i24, vI i25] ∧
 Tri Tryz.prog 115 [vI i24, vP b1 0, vP b9 0] h_25 fun v_11 h_26 =>
 v_11 = vT [] ∧
 Q (vI i25) h_26))
 (br (i2 == 5)
 ((okA a1 n1 k1 ∧ 0 ≤ (0 : Int) ∧ (0 : Int) ≤ (IntKind.i64.wrap (((n1 : Nat) : Int) - 1)) ∧ (IntKind.i64.wrap (((n1 : Nat) : Int) - 1)) ≤ k1) ∧ ∀ (a10 : OA), SlA a1 a10 0 k1 2 →
 ∀ (b12 : Nat), h_2 b12 = none → ∀ (h_27 : PHeap), h_27 = h_2.put b12 (.cells ⟨[vI 0, vI 0, vI 0]⟩ 163) →
 ∃ (I_3 : Nat → Int → PHeap → Prop), (∃ (m8 : Nat), I_3 m8 (0 : Int) h_27) ∧
 ∀ (m7 : Nat) (i26 : Int) (h_28 : PHeap), I_3 m7 i26 h_28 →
 br (decide (i26 < ((((IntKind.i64.wrap (((n1 : Nat) : Int) - 1)).toNat - 0) : Nat) : Int)))
 (∃ (b13 o14 : Nat), a10 = some ⟨b13, o14, none⟩ ∧ (0 ≤ i26 ∧ i26 < ((((IntKind.i64.wrap (((n1 : Nat) : Int) - 1)).toNat - 0) : Nat) : Int)) ∧
 ∃ (i27 : Int) (l11 : Bs), h_28.row b13 (o14 + (i26).toNat * 2) [vI i27, vS l11] ∧
 Tri Tryz.prog 50 [vS l11] h_28 fun v_12 h_29 =>
 ∃ (i28 : Int) (c3 : Bool), v_12 = vT [vI i28, vB c3] ∧
 br (!c3)
 (Q (vI 30) h_29)
 ((0 ≤ i26 ∧ i26 < 3) ∧
 ∃ (l12 : List Value) (t7 : TypeId) (z7 : Nat × Nat), h_29 b12 = some (.cells ⟨l12⟩ t7 z7) ∧ ((0 + (i26).toNat * 1) + 1 ≤ l12.length ∧ z7.2 ≤ (0 + (i26).toNat * 1)) ∧
 ∀ (h_30 : PHeap), h_30 = h_29.put b12 (.cells ⟨splice l12 (0 + (i26).toNat * 1) [vI i28]⟩ t7 z7) →
 ∃ (m9 : Nat), m9 < m7 ∧ I_3 m9 (IntKind.i64.wrap (i26 + 1)) h_30 ∧
 True))
 (∃ (p10 o15 : Nat), h_28.cell b1 0 = some (vP p10 o15) ∧
 ∃ (a11 : OA) (n8 k8 : Nat), h_28.cell p10 (o15 + 1) = some (vL a11 n8 k8) ∧
 ∀ (b14 : Nat), h_28 b14 = none → ∀ (h_31 : PHeap), h_31 = h_28.put b14 (.cells ⟨[vI 0]⟩ 3) →
 ∃ (l13 : List Value) (t8 : TypeId) (z8 : Nat × Nat), h_31 b14 = some (.cells ⟨l13⟩ t8 z8) ∧ (0 + 1 ≤ l13.length ∧ z8.2 ≤ 0) ∧
 ∀ (h_32 : PHeap), h_32 = h_31.put b14 (.cells ⟨splice l13 0 [vI ((n8 : Nat) : Int)]⟩ t8 z8) →
 ∃ (p11 o16 : Nat), h_32.cell b1 0 = some (vP p11 o16) ∧
 ∃ (p12 o17 : Nat), h_32.cell b1 0 = some (vP p12 o17) ∧
 ∃ (a12 : OA) (n9 k9 : Nat), h_32.cell p12 (o17 + 1) = some (vL a12 n9 k9) ∧
 (0 ≤ (0 : Int) ∧ (0 : Int) < 3) ∧
 ∃ (i29 : Int), h_32.cell b12 0 = some (vI i29) ∧
 (0 ≤ (1 : Int) ∧ (1 : Int) < 3) ∧
 ∃ (i30 : Int), h_32.cell b12 1 = some (vI i30) ∧
 (0 ≤ (2 : Int) ∧ (2 : Int) < 3) ∧
 ∃ (i31 : Int), h_32.cell b12 2 = some (vI i31) ∧
 ∀ (b15 : Nat), h_32 b15 = none → ∀ (h_33 : PHeap), h_33 = h_32.put b15 (.cells ⟨[vI i1, vI i29, vI i30, vI i31]⟩ 58) →
 (h_33.cell b12 2 = some (vI i31)) ∧
 (h_33.cell b12 1 = some (vI i30)) ∧
 (h_33.cell b12 0 = some (vI i29)) ∧
 (h_33.cell p12 (o17 + 1) = some (vL a12 n9 k9)) ∧
 (h_33.cell b1 0 = some (vP p12 o17)) ∧
 (h_33.cell b1 0 = some (vP p11 o16)) ∧
 Raw Tryz.prog (execOp (rho [(75, vL a12 n9 k9), (84, vL (ad b15 0) 1 1)]) (mkO o86_11 22)) h_33 fun v_13 h_34 =>
 ∃ (a13 : OA) (n10 k10 : Nat), v_13 = vL a13 n10 k10 ∧
 (h_34.cell b12 2 = some (vI i31)) ∧
 (h_34.cell b12 1 = some (vI i30)) ∧
 (h_34.cell b12 0 = some (vI i29)) ∧
 (h_34.cell b1 0 = some (vP p12 o17)) ∧
 (h_34.cell b1 0 = some (vP p11 o16)) ∧
 ∃ (l14 : List Value) (t9 : TypeId) (z9 : Nat × Nat), h_34 p11 = some (.cells ⟨l14⟩ t9 z9) ∧ ((o16 + 1) + 1 ≤ l14.length ∧ z9.2 ≤ (o16 + 1)) ∧
 ∀ (h_35 : PHeap), h_35 = h_34.put p11 (.cells ⟨splice l14 (o16 + 1) [vL a13 n10 k10]⟩ t9 z9) →
 br (!(i2 == 5))
 (Q (vI 0) h_35)
 (Tri Tryz.prog 114 [vI i1] h_35 fun v_14 h_36 =>
 ∃ (i32 i33 i34 : Int), v_14 = vT [vI i32, vI i33, vI i34] ∧
 ∃ (p13 o18 : Nat), h_36.cell b1 0 = some (vP p13 o18) ∧
 ∃ (b16 o19 : Nat), a1 = some ⟨b16, o19, none⟩ ∧ (0 ≤ (IntKind.i64.wrap (((n1 : Nat) : Int) - 1)) ∧ (IntKind.i64.wrap (((n1 : Nat) : Int) - 1)) < n1) ∧
 ∃ (l15 : Bs), h_36.cell b16 ((o19 + (IntKind.i64.wrap (((n1 : Nat) : Int) - 1)).toNat * 2) + 1) = some (vS l15) ∧
 Tri Tryz.prog 110 [vP p13 o18, vS l15, vI i32, vI i33, vF 115 [] [vP b1 0, vP b14 0]] h_36 fun v_15 h_37 =>
 ∃ (i35 i36 : Int), v_15 = vT [vI i35, vI i36] ∧
 Tri Tryz.prog 115 [vI i35, vP b1 0, vP b14 0] h_37 fun v_16 h_38 =>
 v_16 = vT [] ∧
 Q (vI i36) h_38)))
 (∀ (b17 : Nat), h_2 b17 = none → ∀ (h_39 : PHeap), h_39 = h_2.put b17 (.cells ⟨[vI 0, vI 0, vI 0]⟩ 163) →
 ∃ (I_4 : Nat → Int → PHeap → Prop), (∃ (m11 : Nat), I_4 m11 (0 : Int) h_39) ∧
 ∀ (m10 : Nat) (i37 : Int) (h_40 : PHeap), I_4 m10 i37 h_40 →
 br (decide (i37 < ((n1 : Nat) : Int)))
 (∃ (b18 o20 : Nat), a1 = some ⟨b18, o20, none⟩ ∧ (0 ≤ i37 ∧ i37 < n1) ∧
 ∃ (i38 : Int) (l16 : Bs), h_40.row b18 (o20 + (i37).toNat * 2) [vI i38, vS l16] ∧
 Tri Tryz.prog 50 [vS l16] h_40 fun v_17 h_41 =>
 ∃ (i39 : Int) (c4 : Bool), v_17 = vT [vI i39, vB c4] ∧
 br (!c4)
 (Q (vI 30) h_41)
 ((0 ≤ i37 ∧ i37 < 3) ∧
 ∃ (l17 : List Value) (t10 : TypeId) (z10 : Nat × Nat), h_41 b17 = some (.cells ⟨l17⟩ t10 z10) ∧ ((0 + (i37).toNat * 1) + 1 ≤ l17.length ∧ z10.2 ≤ (0 + (i37).toNat * 1)) ∧
 ∀ (h_42 : PHeap), h_42 = h_41.put b17 (.cells ⟨splice l17 (0 + (i37).toNat * 1) [vI i39]⟩ t10 z10) →
 ∃ (m12 : Nat), m12 < m10 ∧ I_4 m12 (IntKind.i64.wrap (i37 + 1)) h_42 ∧
 True))
 (∃ (p14 o21 : Nat), h_40.cell b1 0 = some (vP p14 o21) ∧
 ∃ (a14 : OA) (n11 k11 : Nat), h_40.cell p14 (o21 + 1) = some (vL a14 n11 k11) ∧
 ∀ (b19 : Nat), h_40 b19 = none → ∀ (h_43 : PHeap), h_43 = h_40.put b19 (.cells ⟨[vI 0]⟩ 3) →
 ∃ (l18 : List Value) (t11 : TypeId) (z11 : Nat × Nat), h_43 b19 = some (.cells ⟨l18⟩ t11 z11) ∧ (0 + 1 ≤ l18.length ∧ z11.2 ≤ 0) ∧
 ∀ (h_44 : PHeap), h_44 = h_43.put b19 (.cells ⟨splice l18 0 [vI ((n11 : Nat) : Int)]⟩ t11 z11) →
 ∃ (p15 o22 : Nat), h_44.cell b1 0 = some (vP p15 o22) ∧
 ∃ (p16 o23 : Nat), h_44.cell b1 0 = some (vP p16 o23) ∧
 ∃ (a15 : OA) (n12 k12 : Nat), h_44.cell p16 (o23 + 1) = some (vL a15 n12 k12) ∧
 (0 ≤ (0 : Int) ∧ (0 : Int) < 3) ∧
 ∃ (i40 : Int), h_44.cell b17 0 = some (vI i40) ∧
 (0 ≤ (1 : Int) ∧ (1 : Int) < 3) ∧
 ∃ (i41 : Int), h_44.cell b17 1 = some (vI i41) ∧
 (0 ≤ (2 : Int) ∧ (2 : Int) < 3) ∧
 ∃ (i42 : Int), h_44.cell b17 2 = some (vI i42) ∧
 ∀ (b20 : Nat), h_44 b20 = none → ∀ (h_45 : PHeap), h_45 = h_44.put b20 (.cells ⟨[vI i1, vI i40, vI i41, vI i42]⟩ 58) →
 (h_45.cell b17 2 = some (vI i42)) ∧
 (h_45.cell b17 1 = some (vI i41)) ∧
 (h_45.cell b17 0 = some (vI i40)) ∧
 (h_45.cell p16 (o23 + 1) = some (vL a15 n12 k12)) ∧
 (h_45.cell b1 0 = some (vP p16 o23)) ∧
 (h_45.cell b1 0 = some (vP p15 o22)) ∧
 Raw Tryz.prog (execOp (rho [(75, vL a15 n12 k12), (84, vL (ad b20 0) 1 1)]) (mkO o86_11 22)) h_45 fun v_18 h_46 =>
 ∃ (a16 : OA) (n13 k13 : Nat), v_18 = vL a16 n13 k13 ∧
 (h_46.cell b17 2 = some (vI i42)) ∧
 (h_46.cell b17 1 = some (vI i41)) ∧
 (h_46.cell b17 0 = some (vI i40)) ∧
 (h_46.cell b1 0 = some (vP p16 o23)) ∧
 (h_46.cell b1 0 = some (vP p15 o22)) ∧
 ∃ (l19 : List Value) (t12 : TypeId) (z12 : Nat × Nat), h_46 p15 = some (.cells ⟨l19⟩ t12 z12) ∧ ((o22 + 1) + 1 ≤ l19.length ∧ z12.2 ≤ (o22 + 1)) ∧
 ∀ (h_47 : PHeap), h_47 = h_46.put p15 (.cells ⟨splice l19 (o22 + 1) [vL a16 n13 k13]⟩ t12 z12) →
 br (!(i2 == 5))
 (Q (vI 0) h_47)
 (Tri Tryz.prog 114 [vI i1] h_47 fun v_19 h_48 =>
 ∃ (i43 i44 i45 : Int), v_19 = vT [vI i43, vI i44, vI i45] ∧
 ∃ (p17 o24 : Nat), h_48.cell b1 0 = some (vP p17 o24) ∧
 ∃ (b21 o25 : Nat), a1 = some ⟨b21, o25, none⟩ ∧ (0 ≤ (IntKind.i64.wrap (((n1 : Nat) : Int) - 1)) ∧ (IntKind.i64.wrap (((n1 : Nat) : Int) - 1)) < n1) ∧
 ∃ (l20 : Bs), h_48.cell b21 ((o25 + (IntKind.i64.wrap (((n1 : Nat) : Int) - 1)).toNat * 2) + 1) = some (vS l20) ∧
 Tri Tryz.prog 110 [vP p17 o24, vS l20, vI i43, vI i44, vF 115 [] [vP b1 0, vP b19 0]] h_48 fun v_20 h_49 =>
 ∃ (i46 i47 : Int), v_20 = vT [vI i46, vI i47] ∧
 Tri Tryz.prog 115 [vI i46, vP b1 0, vP b19 0] h_49 fun v_21 h_50 =>
 v_21 = vT [] ∧
 Q (vI i47) h_50)))))
theorem T86 {p1 : Nat} {o1 : Nat} {i1 : Int} {a1 : OA} {n1 : Nat} {k1 : Nat} {h : PHeap} {Q : Value → PHeap → Prop} (hR : R86 p1 o1 i1 a1 n1 k1 h Q) : Tri Tryz.prog 86 [vP p1 o1, vI i1, vL a1 n1 k1] h Q :=
 tri_of_dn mixed Tryz.func86 rfl (by kernel_rfl) low86 (rs := [.tmp 6]) (by kernel_rfl) rfl (Eq.mpr (by kernel_rfl : dnF Tryz.prog Tryz.f86.ntmps d86 [.tmp 6] [vP p1 o1, vI i1, vL a1 n1 k1] h Q = R86 p1 o1 i1 a1 n1 k1 h Q) hR)
noncomputable def d85 : DCode := up ⟨[(7, .l [qi]), (9, .c (.one false [qi]))], [], []⟩ (low Tryz.prog (fun _ => false) (Tryz.f85.body.getD .skip))
theorem low85 : low Tryz.prog (fun _ => false) (Tryz.f85.body.getD .skip) = some (eC d85) := by kernel_rfl
def R85 (p1 : Nat) (o1 : Nat) (a1 : OA) (n1 : Nat) (k1 : Nat) (p2 : Nat) (o2 : Nat) (h : PHeap) (Q : Value → PHeap → Prop) : Prop :=
 ∃ (i1 : Int), h.cell p2 o2 = some (vI i1) ∧
 Tri Tryz.prog 86 [vP p1 o1, vI i1, vL a1 n1 k1] h fun v_1 h_1 =>
 ∃ (i2 : Int), v_1 = vI i2 ∧
 Q (vI i2) h_1
theorem T85 {p1 : Nat} {o1 : Nat} {a1 : OA} {n1 : Nat} {k1 : Nat} {p2 : Nat} {o2 : Nat} {h : PHeap} {Q : Value → PHeap → Prop} (hR : R85 p1 o1 a1 n1 k1 p2 o2 h Q) : Tri Tryz.prog 85 [vP p1 o1, vL a1 n1 k1, vP p2 o2] h Q :=
 tri_of_dn mixed Tryz.func85 rfl (by kernel_rfl) low85 (rs := [.tmp 5]) (by kernel_rfl) rfl (Eq.mpr (by kernel_rfl : dnF Tryz.prog Tryz.f85.ntmps d85 [.tmp 5] [vP p1 o1, vL a1 n1 k1, vP p2 o2] h Q = R85 p1 o1 a1 n1 k1 p2 o2 h Q) hR)
end Go.Proofs.D
namespace Go.As
def instrX (a : St) (op : Nat) (l : List Tk) : R St :=
 if form op ≤ 3 then (regsS l) >>= fun r => .ok { a with p := { a.p with code := a.p.code ++ [fieldsI op r 0] } }
 else (regsS l.dropLast) >>= fun r => (valueS a.line (l.getLast?.getD ⟨1, []⟩).text 0 a.p.code.length (limits op).1 (limits op).2) >>= fun x =>
  .ok { a with p := { a.p with code := a.p.code ++ [fieldsI op r x.1] }, uses := a.uses ++ x.2 }
theorem instr_X (a : St) (op : Nat) (l : List Tk) : instrS a op l = (instrX a op l) >>= fun a' => if 1024 ≤ a.p.code.length then .error 9 else .ok a' := by
 unfold instrS instrX
 split
 · cases regsS l <;> rfl
 · cases regsS l.dropLast with
   | error e => rfl
   | ok r =>
     show ((valueS a.line (l.getLast?.getD ⟨1, []⟩).text 0 a.p.code.length (limits op).1 (limits op).2) >>= _) = (((valueS a.line (l.getLast?.getD ⟨1, []⟩).text 0 a.p.code.length (limits op).1 (limits op).2) >>= _) >>= _)
     cases valueS a.line (l.getLast?.getD ⟨1, []⟩).text 0 a.p.code.length (limits op).1 (limits op).2 <;> rfl
end Go.As
namespace Go.Proofs.D
open Go Go.Den Go.As
set_option maxRecDepth 100000
attribute [local irreducible] IntKind.wrap Tri
section
variable {hb h : PHeap} {p mS : Nat} {a : As.St} {K : AK} {a3 : OA} {k3 : Nat} {os : List Tk}
theorem ASK.putOther {q t : Nat} {l : Array Value} {z : Nat × Nat} (hA : ASK hb h p mS a K) (hq : h q = some (.cells l t z)) (hbq : hb q = none) (n1 : t ≠ 58) (n2 : t ≠ 5) (n3 : t ≠ 78) (n4 : t ≠ 74) (o' : Obj) : ASK hb (h.put q o') p mS a K := by
 have hqp : p ≠ q := fun e => by
  subst e; rw [hA.obj] at hq; injection hq with hq; injection hq with _ hq _; exact n4 hq.symm
 have hqm : K.mb ≠ q := fun e => by rw [← e, hA.labs] at hq; cases hq
 refine ⟨fun r o hr => ?_, hA.new, by rw [put_ne hqp]; exact hA.obj, hA.code.put hq (notE_cells n1 _ _), hA.data.put hq (notE_cells n2 _ _), hA.uses.put hq (notE_cells n3 _ _), hA.useAt, hA.mnew, by rw [put_ne hqm]; exact hA.labs⟩
 rw [put_ne fun e => by subst e; rw [hbq] at hr; cases hr]; exact hA.ext _ _ hr
def loop86 (a2 : OA) (NI : Int) (b2 : Nat) (h_3 : PHeap) (Q : Value → PHeap → Prop) (C : PHeap → Prop) : Prop :=
 ∃ (I_1 : Nat → Int → PHeap → Prop), (∃ (m2 : Nat), I_1 m2 (0 : Int) h_3) ∧
 ∀ (m1 : Nat) (i4 : Int) (h_4 : PHeap), I_1 m1 i4 h_4 →
 br (decide (i4 < NI))
 (∃ (b3 o2 : Nat), a2 = some ⟨b3, o2, none⟩ ∧ (0 ≤ i4 ∧ i4 < NI) ∧
 ∃ (i5 : Int) (l1 : Bs), h_4.row b3 (o2 + (i4).toNat * 2) [vI i5, vS l1] ∧
 Tri Tryz.prog 50 [vS l1] h_4 fun v_2 h_5 =>
 ∃ (i6 : Int) (c1 : Bool), v_2 = vT [vI i6, vB c1] ∧
 br (!c1)
 (Q (vI 30) h_5)
 ((0 ≤ i4 ∧ i4 < 3) ∧
 ∃ (l2 : List Value) (t1 : TypeId) (z1 : Nat × Nat), h_5 b2 = some (.cells ⟨l2⟩ t1 z1) ∧ ((0 + (i4).toNat * 1) + 1 ≤ l2.length ∧ z1.2 ≤ (0 + (i4).toNat * 1)) ∧
 ∀ (h_6 : PHeap), h_6 = h_5.put b2 (.cells ⟨splice l2 (0 + (i4).toNat * 1) [vI i6]⟩ t1 z1) →
 ∃ (m3 : Nat), m3 < m1 ∧ I_1 m3 (IntKind.i64.wrap (i4 + 1)) h_6 ∧
 True))
 (C h_4)
def regC (r : List Int) : List Value := [vI (r.getD 0 0), vI (r.getD 1 0), vI (r.getD 2 0)]
theorem regC_set {r : List Int} {x : Int} (h : r.length < 3) : splice (regC r) (0 + r.length * 1) [vI x] = regC (r ++ [x]) := by
 match r, h with
 | [], _ => rfl
 | [_], _ => rfl
 | [_, _], _ => rfl
 | _ :: _ :: _ :: _, h => simp at h; omega
theorem loop_86 {a2 : OA} {N b2 : Nat} {NI : Int} {h3 : PHeap} {Q : Value → PHeap → Prop} {C : PHeap → Prop} (hNI : NI = (N : Int)) (hN : N ≤ os.length) (hN3 : N ≤ 3) (hT : TkAt hb a2 os) (hA : AS hb h3 p mS a) (hb2 : h3 b2 = some (.cells ⟨[vI 0, vI 0, vI 0]⟩ 163 (0, 0))) (hn2 : hb b2 = none)
 (herr : ∀ h', regsS (os.take N) = .error 30 → AS hb h' p mS a → Q (vI 30) h') (hok : ∀ h' r, regsS (os.take N) = .ok r → AS hb h' p mS a → h' b2 = some (.cells ⟨regC r⟩ 163 (0, 0)) → C h') : loop86 a2 NI b2 h3 Q C := by
 subst hNI
 unfold loop86
 refine ⟨fun m i h' => ∃ (j : Nat) (r : List Int), i = (j : Int) ∧ j + m = N ∧ AS hb h' p mS a ∧ h' b2 = some (.cells ⟨regC r⟩ 163 (0, 0)) ∧ r.length = j ∧ regsS (os.take N) = (regsS ((os.take N).drop j)).map fun x => r ++ x,
  ⟨N, 0, [], rfl, by omega, hA, hb2, rfl, by cases h : regsS (os.take N) <;> simp [h, Except.map]⟩, ?_⟩
 rintro m _ h4 ⟨j, r, rfl, hjm, hA4, hb4, hrl, hrg⟩
 have hlen : (os.take N).length = N := by rw [List.length_take]; omega
 refine br_split (fun e => ?_) fun e => ?_
 · have hlt : j < N := by have := of_decide_eq_true e; omega
   have hlt2 : j < (os.take N).length := by omega
   have hdr := List.drop_eq_getElem_cons hlt2
   have hg : os[j]? = some (os.take N)[j] := by
    rw [List.getElem_take]; simp
   rw [hdr] at hrg
   generalize (os.take N)[j] = t at *
   obtain ⟨b, o, ha, hr⟩ := (hT.ext hA4.ext).get hg
   refine ⟨b, o, ha, ⟨by omega, by omega⟩, _, _, (by rw [Int.toNat_natCast]; exact hr), ?_⟩
   refine Tri.mono (register_t h4 t.text) ?_
   rintro _ h4 ⟨rfl, rfl⟩
   rw [regsS] at hrg
   unfold regV
   cases hreg : regB t.text with
   | none =>
     rw [hreg] at hrg
     exact ⟨_, _, rfl, br_pos rfl (herr h4 hrg hA4)⟩
   | some x =>
     rw [hreg] at hrg
     refine ⟨_, _, rfl, br_neg rfl ⟨⟨by omega, by omega⟩, _, _, _, hb4, ⟨by simp [regC]; omega, Nat.zero_le _⟩, ?_⟩⟩
     rintro _ rfl
     rw [Int.toNat_natCast, ← hrl, regC_set (by omega)]
     obtain ⟨K, hK⟩ := hA4
     refine ⟨m - 1, by omega, ⟨r.length + 1, r ++ [(x : Int)], ?_, by omega, ⟨K, hK.putOther hb4 hn2 (by decide) (by decide) (by decide) (by decide) _⟩, put_same _ _ _, by simp, ?_⟩, trivial⟩
     · rw [wrap64 (by omega) (by omega)]; omega
     · rw [hrg, hrl]
       cases regsS ((os.take N).drop (j + 1)) <;> simp [Except.map]
 · have hj : j = N := by have := of_decide_eq_false e; omega
   subst hj
   rw [List.drop_of_length_le (by omega)] at hrg
   simp only [regsS, Except.map, List.append_nil] at hrg
   exact hok h4 r hrg hA4 hb4
def app86 (b1 b2 : Nat) (i1 : Int) (h_4 : PHeap) (C : Nat → PHeap → Prop) : Prop :=
 ∃ (p2 o3 : Nat), h_4.cell b1 0 = some (vP p2 o3) ∧
 ∃ (a3 : OA) (n2 k2 : Nat), h_4.cell p2 (o3 + 1) = some (vL a3 n2 k2) ∧
 ∀ (b4 : Nat), h_4 b4 = none → ∀ (h_7 : PHeap), h_7 = h_4.put b4 (.cells ⟨[vI 0]⟩ 3) →
 ∃ (l3 : List Value) (t2 : TypeId) (z2 : Nat × Nat), h_7 b4 = some (.cells ⟨l3⟩ t2 z2) ∧ (0 + 1 ≤ l3.length ∧ z2.2 ≤ 0) ∧
 ∀ (h_8 : PHeap), h_8 = h_7.put b4 (.cells ⟨splice l3 0 [vI ((n2 : Nat) : Int)]⟩ t2 z2) →
 ∃ (p3 o4 : Nat), h_8.cell b1 0 = some (vP p3 o4) ∧
 ∃ (p4 o5 : Nat), h_8.cell b1 0 = some (vP p4 o5) ∧
 ∃ (a4 : OA) (n3 k3 : Nat), h_8.cell p4 (o5 + 1) = some (vL a4 n3 k3) ∧
 (0 ≤ (0 : Int) ∧ (0 : Int) < 3) ∧
 ∃ (i7 : Int), h_8.cell b2 0 = some (vI i7) ∧
 (0 ≤ (1 : Int) ∧ (1 : Int) < 3) ∧
 ∃ (i8 : Int), h_8.cell b2 1 = some (vI i8) ∧
 (0 ≤ (2 : Int) ∧ (2 : Int) < 3) ∧
 ∃ (i9 : Int), h_8.cell b2 2 = some (vI i9) ∧
 ∀ (b5 : Nat), h_8 b5 = none → ∀ (h_9 : PHeap), h_9 = h_8.put b5 (.cells ⟨[vI i1, vI i7, vI i8, vI i9]⟩ 58) →
 (h_9.cell b2 2 = some (vI i9)) ∧
 (h_9.cell b2 1 = some (vI i8)) ∧
 (h_9.cell b2 0 = some (vI i7)) ∧
 (h_9.cell p4 (o5 + 1) = some (vL a4 n3 k3)) ∧
 (h_9.cell b1 0 = some (vP p4 o5)) ∧
 (h_9.cell b1 0 = some (vP p3 o4)) ∧
 Raw Tryz.prog (execOp (rho [(75, vL a4 n3 k3), (84, vL (ad b5 0) 1 1)]) (mkO o86_11 22)) h_9 fun v_3 h_10 =>
 ∃ (a5 : OA) (n4 k4 : Nat), v_3 = vL a5 n4 k4 ∧
 (h_10.cell b2 2 = some (vI i9)) ∧
 (h_10.cell b2 1 = some (vI i8)) ∧
 (h_10.cell b2 0 = some (vI i7)) ∧
 (h_10.cell b1 0 = some (vP p4 o5)) ∧
 (h_10.cell b1 0 = some (vP p3 o4)) ∧
 ∃ (l4 : List Value) (t3 : TypeId) (z3 : Nat × Nat), h_10 p3 = some (.cells ⟨l4⟩ t3 z3) ∧ ((o4 + 1) + 1 ≤ l4.length ∧ z3.2 ≤ (o4 + 1)) ∧
 ∀ (h_11 : PHeap), h_11 = h_10.put p3 (.cells ⟨splice l4 (o4 + 1) [vL a5 n4 k4]⟩ t3 z3) →
 C b4 h_11
theorem app_86 {b1 b2 : Nat} {i1 : Int} {r : List Int} {h4 : PHeap} {C : Nat → PHeap → Prop} (hA : AS hb h4 p mS a) (hC : a.p.code.length ≤ 1000000) (hd1 : hb.cell b1 0 = some (vP p 0)) (hb2 : h4 b2 = some (.cells ⟨regC r⟩ 163 (0, 0)))
 (hk : ∀ b4 hb' h', Ext hb hb' → AS hb' h' p mS { a with p := { a.p with code := a.p.code ++ [⟨i1, r.getD 0 0, r.getD 1 0, r.getD 2 0⟩] } } → hb'.cell b4 0 = some (vI (a.p.code.length : Int)) → C b4 h') : app86 b1 b2 i1 h4 C := by
 have hA0 := hA
 obtain ⟨K, hK⟩ := hA
 unfold app86
 refine ⟨_, _, cell_ext (fun ob => hK.ext b1 ob) hd1, _, _, _, (by rw [PA_cell hK.obj]; rfl), ?_⟩
 intro b4 hb4 h7 hh7
 refine ⟨_, _, _, Put.at hh7, ⟨by simp, Nat.zero_le _⟩, ?_⟩
 intro h8 hh8
 have hh8' : h8 = h4.put b4 (.cells ⟨[vI (a.p.code.length : Int)]⟩ 3 (0, 0)) := by rw [hh8, hh7, put_put]; rfl
 clear hh8 hh7 h7 hK K
 have x8 := Put.ext hh8' hb4
 obtain ⟨hb', hbx, hA8, hin⟩ := hA0.rebase x8
 have d4 : hb'.cell b4 0 = some (vI (a.p.code.length : Int)) := cell_of (hin b4 _ hb4 (Put.at hh8')) 0
 have d1 := cell_ext (fun ob => hbx b1 ob) hd1
 obtain ⟨K, hK⟩ := hA8
 have hb28 := x8 _ _ hb2
 refine ⟨_, _, cell_ext (fun ob => hK.ext b1 ob) d1, _, _, cell_ext (fun ob => hK.ext b1 ob) d1, _, _, _, (by rw [PA_cell hK.obj]; rfl), ⟨by decide, by decide⟩, _, cell_of hb28 0, ⟨by decide, by decide⟩, _, cell_of hb28 1, ⟨by decide, by decide⟩, _, cell_of hb28 2, ?_⟩
 intro b5 hb5 h9 hh9
 have x9 := Put.ext hh9 hb5
 have hK9 := hK.grow x9
 have hb29 := x9 _ _ hb28
 refine ⟨cell_of hb29 2, cell_of hb29 1, cell_of hb29 0, (by rw [PA_cell hK9.obj]; rfl), cell_ext (fun ob => hK9.ext b1 ob) d1, cell_ext (fun ob => hK9.ext b1 ob) d1, ?_⟩
 refine Raw.mono (LM.push und22 elem58 rfl rfl rfl rfl rfl hK.ext hK.code hb5 hh9 rfl rfl (by omega)) ?_
 rintro _ h10 ⟨b6, cap, rfl, hx10, hM10, hg⟩
 have hb210 : h10 b2 = some (.cells ⟨regC r⟩ 163 (0, 0)) := by rw [hg.ne hK9.code hb29 (notE_cells (by decide) _ _)]; exact hb29
 obtain ⟨hp10, hK10⟩ := hK9.appCode (x := ⟨i1, r.getD 0 0, r.getD 1 0, r.getD 2 0⟩) hx10 hM10 hg rfl
 refine ⟨_, _, _, rfl, cell_of hb210 2, cell_of hb210 1, cell_of hb210 0, cell_ext (fun ob => hx10 b1 ob) d1, cell_ext (fun ob => hx10 b1 ob) d1, _, _, _, (by rw [hp10]; exact hK9.obj), ⟨by simp, Nat.zero_le _⟩, ?_⟩
 rintro _ rfl
 exact hk b4 hb' _ hbx ⟨_, hK10⟩ d4
def num86 (b1 b4 : Nat) (i1 : Int) (a1 : OA) (n1 : Nat) (h_11 : PHeap) (Q : Value → PHeap → Prop) : Prop :=
 Tri Tryz.prog 114 [vI i1] h_11 fun v_4 h_12 =>
 ∃ (i10 i11 i12 : Int), v_4 = vT [vI i10, vI i11, vI i12] ∧
 ∃ (p5 o6 : Nat), h_12.cell b1 0 = some (vP p5 o6) ∧
 ∃ (b6 o7 : Nat), a1 = some ⟨b6, o7, none⟩ ∧ (0 ≤ (IntKind.i64.wrap (((n1 : Nat) : Int) - 1)) ∧ (IntKind.i64.wrap (((n1 : Nat) : Int) - 1)) < n1) ∧
 ∃ (l5 : Bs), h_12.cell b6 ((o7 + (IntKind.i64.wrap (((n1 : Nat) : Int) - 1)).toNat * 2) + 1) = some (vS l5) ∧
 Tri Tryz.prog 110 [vP p5 o6, vS l5, vI i10, vI i11, vF 115 [] [vP b1 0, vP b4 0]] h_12 fun v_5 h_13 =>
 ∃ (i13 i14 : Int), v_5 = vT [vI i13, vI i14] ∧
 Tri Tryz.prog 115 [vI i13, vP b1 0, vP b4 0] h_13 fun v_6 h_14 =>
 v_6 = vT [] ∧
 Q (vI i14) h_14
theorem setC_snoc (l : List Ins) (x : Ins) (n : Int) : setC (l ++ [x]) l.length n = l ++ [{ x with c := n }] := by
 unfold setC
 induction l with
 | nil => rfl
 | cons y l ih => rw [List.cons_append, List.length_cons, List.modify_succ_cons, ih]; rfl
theorem num_86 {b1 b4 op : Nat} {x : Ins} {code : List Ins} {t : Tk} {h11 : PHeap} (hA : AS hb h11 p mS { a with p := { a.p with code := code ++ [x] } }) (hO : OpTab hb) (hop : op < 27) (hf : 4 ≤ form op) (hd1 : hb.cell b1 0 = some (vP p 0)) (hd4 : hb.cell b4 0 = some (vI (code.length : Int)))
 (hT : TkAt hb a3 os) (ht : os.getLast? = some t) (hl : t.text.length ≤ 1000000) (hlen : os.length ≤ 1000000) (hU : a.uses.length ≤ 1000000) :
 num86 b1 b4 (op : Int) a3 os.length h11 fun v h' => Res hb p mS a.line ((valueS a.line t.text 0 code.length (limits op).1 (limits op).2) >>= fun y => .ok { a with p := { a.p with code := code ++ [{ x with c := y.1 }] }, uses := a.uses ++ y.2 }) v h' := by
 unfold num86
 have hne : os ≠ [] := fun e => by rw [e] at ht; cases ht
 have hpos : 0 < os.length := List.length_pos_iff.2 hne
 refine Tri.mono (limits_t h11 (hO.ext hA.ext) hop hf) ?_
 rintro _ h12 ⟨rfl, rfl⟩
 have hg : os[os.length - 1]? = some t := by rw [← List.getLast?_eq_getElem?]; exact ht
 obtain ⟨b, o, ha, _, hc⟩ := tk_cell (n := 1) hA hT hg
 have hw : IntKind.i64.wrap ((os.length : Int) - 1) = ((os.length - 1 : Nat) : Int) := by rw [wrap64 (by omega) (by omega)]; omega
 rw [hw]
 refine ⟨_, _, _, rfl, _, _, cell_ext (fun ob => hA.ext b1 ob) hd1, b, o, ha, ⟨by omega, by omega⟩, _, (by rw [Int.toNat_natCast]; exact hc), ?_⟩
 refine Tri.mono (value_t (kind := 0) (idx := code.length) hA hl (by simp only; omega) (.inr (.inr ⟨rfl, rfl, b1, b4, rfl, hd1, hd4⟩)) (limits op).1 (limits op).2 rfl rfl (fun h => by omega)) ?_
 intro v h13 hV
 simp only at hV
 cases hv : valueS a.line t.text 0 code.length (limits op).1 (limits op).2 with
 | error e =>
   rw [hv] at hV
   obtain ⟨rfl, he, hb2, hbx, hA2⟩ := hV
   refine ⟨_, _, rfl, ?_⟩
   refine Tri.mono (put115_t hA2 (cell_ext (fun ob => hbx b1 ob) hd1) (cell_ext (fun ob => hbx b4 ob) hd4) (by simp)) ?_
   rintro _ h14 ⟨rfl, hA14⟩
   refine ⟨rfl, rfl, he, hbx.trans hA14.ext, hA14.line⟩
 | ok y =>
   obtain ⟨n, us⟩ := y
   rw [hv] at hV
   obtain ⟨rfl, hb2, hbx, hA2⟩ := hV
   refine ⟨_, _, rfl, ?_⟩
   refine Tri.mono (put115_t hA2 (cell_ext (fun ob => hbx b1 ob) hd1) (cell_ext (fun ob => hbx b4 ob) hd4) (by simp)) ?_
   rintro _ h14 ⟨rfl, hA14⟩
   simp only [setC_snoc] at hA14
   exact ⟨rfl, rfl, hb2, hbx, hA14⟩
theorem form4 (k : Nat) (hk : k < 27) (op : 4 ≤ form k) : ∀ (n : Nat), operandsN k = n → 1 ≤ n ∧ n ≤ 3 := by
 intro n hn
 have := form_le k
 unfold operandsN at hn
 have hf7 : form k = 4 ∨ form k = 5 ∨ form k = 6 := by omega
 rcases hf7 with e | e | e <;> rw [e] at hn <;> simp at hn <;> omega
theorem isf {f n : Nat} {b : Bool} (e : (((f : Nat) : Int) == (n : Int)) = b) : decide (f = n) = b := by
 subst e; rw [Bool.eq_iff_iff]; simp; omega
theorem instr86_t (hA : AS hb h p mS a) (hO : OpTab hb) {op : Nat} (hop : op < 27) (hT : TkAt hb a3 os) (hk3 : os.length ≤ k3) (hok3 : okA a3 os.length k3) (hn : os.length = operandsN op) (hl : ∀ t ∈ os, t.text.length ≤ 1000000) (hC : a.p.code.length ≤ 1000000) (hU : a.uses.length ≤ 1000000) :
 Tri Tryz.prog 86 [vP p 0, vI (op : Int), vL a3 os.length k3] h fun v h' => Res hb p mS a.line (instrX a op os) v h' := by
 have h3 : os.length ≤ 3 := by rw [hn]; unfold operandsN; split <;> omega
 refine T86 ?_
 unfold R86
 intro b1 hb1 h1 hh1
 have x1 := Put.ext hh1 hb1
 obtain ⟨hB, hbx, hA2, hin⟩ := hA.rebase x1
 have d1 : hB.cell b1 0 = some (vP p 0) := cell_of (hin b1 _ hb1 (Put.at hh1)) 0
 have hO2 := hO.ext hbx
 have hT2 := hT.ext hbx
 refine Tri.mono (form_t h1 (hO2.ext hA2.ext) hop) ?_
 rintro _ h2 ⟨rfl, rfl⟩
 refine ⟨_, _, rfl, ?_⟩
 have h6 := form_le op
 have err : ∀ {h' l}, regsS l = .error 30 → (4 ≤ form op ∧ l = os.dropLast ∨ form op ≤ 3 ∧ l = os) → AS hB h' p mS a → Res hb p mS a.line (instrX a op os) (vI 30) h' := fun {h' l} hr hc hA' => by
  have : instrX a op os = .error 30 := by
   unfold instrX
   rcases hc with ⟨hf, rfl⟩ | ⟨hf, rfl⟩
   · rw [if_neg (by omega), hr]; rfl
   · rw [if_pos hf, hr]; rfl
  exact res_err this (by decide) hbx hA'
 have num : 4 ≤ form op → ∀ C : Nat → PHeap → Prop, (∀ b4 h11, num86 b1 b4 (op : Int) a3 os.length h11 (fun v h' => Res hb p mS a.line (instrX a op os) v h') → C b4 h11) → ((okA a3 os.length k3 ∧ 0 ≤ (0 : Int) ∧ (0 : Int) ≤ (IntKind.i64.wrap (((os.length : Nat) : Int) - 1)) ∧ (IntKind.i64.wrap (((os.length : Nat) : Int) - 1)) ≤ k3) ∧ ∀ (a2 : OA), SlA a3 a2 0 k3 2 →
  ∀ (b2 : Nat), h2 b2 = none → ∀ (h_3 : PHeap), h_3 = h2.put b2 (.cells ⟨[vI 0, vI 0, vI 0]⟩ 163) →
  loop86 a2 ((((IntKind.i64.wrap (((os.length : Nat) : Int) - 1)).toNat - 0) : Nat) : Int) b2 h_3 (fun v h' => Res hb p mS a.line (instrX a op os) v h') fun h_4 => app86 b1 b2 (op : Int) h_4 C) := by
  intro hf C hC2
  obtain ⟨l1, l2⟩ := form4 op hop hf _ hn.symm
  have hw : IntKind.i64.wrap ((os.length : Int) - 1) = ((os.length - 1 : Nat) : Int) := by rw [wrap64 (by omega) (by omega)]; omega
  rw [hw]
  refine ⟨⟨hok3, by omega, by omega, by omega⟩, ?_⟩
  intro a2 hs2 b2 hb2 h3' hh3
  have x3 := Put.ext hh3 hb2
  have hTa : TkAt hB a2 os := by have := hT2.drop hk3 hs2; rwa [List.drop_zero] at this
  have hn2 : hB b2 = none := hA2.ext.dom _ hb2
  have htk : os.take (os.length - 1) = os.dropLast := List.dropLast_eq_take.symm
  obtain ⟨t, ht⟩ : ∃ t, os.getLast? = some t := by
   cases hg : os.getLast? with
   | some t => exact ⟨t, rfl⟩
   | none => rw [List.getLast?_eq_none_iff] at hg; rw [hg] at l1; simp at l1
  have htl := hl t (List.mem_of_getLast? ht)
  refine loop_86 (N := os.length - 1) (by rw [Int.toNat_natCast, Nat.sub_zero]) (by omega) (by omega) hTa (hA2.grow x3) (Put.at hh3) hn2 (fun h' hr hA' => ?_) fun h' r hr hA' hb' => ?_
  · rw [htk] at hr
    exact err hr (.inl ⟨hf, rfl⟩) hA'
  · rw [htk] at hr
    refine app_86 hA' hC d1 hb' fun b4 hB' h'' hbx' hA'' d4 => ?_
    have := num_86 (code := a.p.code) hA'' ((hO2.ext hbx')) hop hf (cell_ext (fun ob => hbx' b1 ob) d1) d4 (hT2.ext hbx') ht htl (by omega) hU
    refine hC2 _ _ (Tri.mono this ?_)
    rintro v1 h12 ⟨i10, i11, i12, rfl, p5, o6, hc5, b6, o7, ha6, hn6, l5, hl5, hT5⟩
    refine ⟨i10, i11, i12, rfl, p5, o6, hc5, b6, o7, ha6, hn6, l5, hl5, Tri.mono hT5 ?_⟩
    rintro v2 h13 ⟨i13, i14, rfl, hT6⟩
    refine ⟨i13, i14, rfl, Tri.mono hT6 ?_⟩
    rintro v3 h14 ⟨rfl, hR⟩
    refine ⟨rfl, ?_⟩
    have hX : instrX a op os = (valueS a.line t.text 0 a.p.code.length (limits op).1 (limits op).2) >>= fun y => .ok { a with p := { a.p with code := a.p.code ++ [fieldsI op r y.1] }, uses := a.uses ++ y.2 } := by
     unfold instrX
     rw [if_neg (by omega), hr, ht]; rfl
    rw [hX]
    have hfd : ∀ c, fieldsI op r c = ⟨op, r.getD 0 0, r.getD 1 0, c⟩ := fun c => by unfold fieldsI; rw [if_neg (by omega)]
    simp only [hfd]
    cases hv : valueS a.line t.text 0 a.p.code.length (limits op).1 (limits op).2 with
    | error e =>
      rw [hv] at hR
      obtain ⟨g1, g2, g3, g4⟩ := hR
      exact ⟨g1, g2, (hbx.trans hbx').trans g3, g4⟩
    | ok y =>
      rw [hv] at hR
      obtain ⟨g1, hB2, g2, g3⟩ := hR
      exact ⟨g1, hB2, (hbx.trans hbx').trans g2, g3⟩
 refine br_split (fun e => num (by have := of_decide_eq_true (isf (n := 6) e); omega) _ fun b4 h11 hh => hh) fun e6 => br_split (fun e => num (by have := of_decide_eq_true (isf (n := 4) e); omega) _ fun b4 h11 hh => hh) fun e4 =>
  br_split (fun e => num (by have := of_decide_eq_true (isf (n := 5) e); omega) _ fun b4 h11 hh => br_neg (by rw [e]; rfl) hh) fun e5 => ?_
 have hf : form op ≤ 3 := by
  have := of_decide_eq_false (isf (n := 6) e6); have := of_decide_eq_false (isf (n := 4) e4); have := of_decide_eq_false (isf (n := 5) e5)
  omega
 intro b2 hb2 h3' hh3
 have x3 := Put.ext hh3 hb2
 have hn2 : hB b2 = none := hA2.ext.dom _ hb2
 refine loop_86 (N := os.length) rfl (Nat.le_refl _) h3 hT2 (hA2.grow x3) (Put.at hh3) hn2 (fun h' hr hA' => ?_) fun h' r hr hA' hb' => ?_
 · rw [List.take_length] at hr
   exact err hr (.inr ⟨hf, rfl⟩) hA'
 · rw [List.take_length] at hr
   refine app_86 hA' hC d1 hb' fun b4 hB' h'' hbx' hA'' d4 => ?_
   refine br_pos (by rw [e5]; rfl) ?_
   have hX : instrX a op os = .ok { a with p := { a.p with code := a.p.code ++ [fieldsI op r 0] } } := by
    unfold instrX
    rw [if_pos hf, hr]; rfl
   rw [hX]
   have hfd : fieldsI op r 0 = ⟨op, r.getD 0 0, r.getD 1 0, r.getD 2 0⟩ := by unfold fieldsI; rw [if_pos hf]
   rw [hfd]
   exact ⟨rfl, hB', hbx.trans hbx', hA''⟩
theorem stmt85_t (hA : AS hb h p mS a) (hO : OpTab hb) {op c : Nat} (hc : hb.cell c 0 = some (vI (op : Int))) (hop : op < 27) (hT : TkAt hb a3 os) (hk3 : os.length ≤ k3) (hok3 : okA a3 os.length k3) (hn : os.length = operandsN op) (hl : ∀ t ∈ os, t.text.length ≤ 1000000) (hC : a.p.code.length ≤ 1000000) (hU : a.uses.length ≤ 1000000) :
 Tri Tryz.prog 85 [vP p 0, vL a3 os.length k3, vP c 0] h fun v h' => Res hb p mS a.line (instrX a op os) v h' := by
 refine T85 ?_
 unfold R85
 refine ⟨_, cell_ext (fun ob => hA.ext c ob) hc, ?_⟩
 refine Tri.mono (instr86_t hA hO hop hT hk3 hok3 hn hl hC hU) ?_
 intro v h1 hR
 cases hX : instrX a op os with
 | error e => rw [hX] at hR; obtain ⟨rfl, g⟩ := hR; exact ⟨_, rfl, rfl, g⟩
 | ok a' => rw [hX] at hR; obtain ⟨rfl, g⟩ := hR; exact ⟨_, rfl, rfl, g⟩
end
end Go.Proofs.D
namespace Go.As
theorem tok_facts : ∀ (f : Nat) (s : Bytes) (ts : List Tk), tokensS f s = some ts → ∀ t ∈ ts, t.text.length ≤ s.length + 1 ∧ (t.kind = 1 → t.text ≠ [])
 | 0, _, _, h, _, _ => by simp [tokensS] at h
 | f + 1, [], ts, h, t, ht => by simp [tokensS] at h; subst h; cases ht
 | f + 1, c :: r, ts, h, t, ht => by
   rw [tokensS] at h
   have rec1 : ∀ l, tokensS f r = some l → t ∈ l → t.text.length ≤ (c :: r).length + 1 ∧ (t.kind = 1 → t.text ≠ []) := fun l h1 h2 => by
    have := tok_facts f r l h1 t h2
    exact ⟨by simp; omega, this.2⟩
   split at h
   · simp at h; subst h; cases ht
   split at h
   · exact rec1 ts h ht
   split at h
   · simp only [Option.map_eq_some_iff] at h
     obtain ⟨l, h1, rfl⟩ := h
     rcases List.mem_cons.1 ht with rfl | ht
     · exact ⟨by simp, fun h => by cases h⟩
     · exact rec1 l h1 ht
   split at h
   · simp only [Option.map_eq_some_iff] at h
     obtain ⟨l, h1, rfl⟩ := h
     rcases List.mem_cons.1 ht with rfl | ht
     · exact ⟨by simp, fun h => by cases h⟩
     · exact rec1 l h1 ht
   split at h
   · split at h
     · cases h
     · rename_i x r' hu
       have hl := unq_len hu
       have hx : ∀ (f : Nat) (r x r' : Bytes), unq f r = some (x, r') → x.length ≤ r.length := by
        intro f
        induction f with
        | zero => intro r x r' h; simp [unq] at h
        | succ f ih =>
          intro r x r' h
          match r, h with
          | [], h => simp [unq] at h
          | c :: r, h =>
            rw [unq] at h
            split at h
            · simp only [Option.some.injEq, Prod.mk.injEq] at h; obtain ⟨rfl, _⟩ := h; simp
            split at h
            · split at h
              · cases h
              · rename_i b r2 he
                have h1 := escB_len he
                simp only [Option.map_eq_some_iff] at h
                obtain ⟨⟨y, r3⟩, h2, h3⟩ := h
                have := ih _ _ _ h2
                simp only [Prod.mk.injEq] at h3
                obtain ⟨rfl, _⟩ := h3
                simp; omega
            split at h
            · cases h
            · simp only [Option.map_eq_some_iff] at h
              obtain ⟨⟨y, r3⟩, h2, h3⟩ := h
              have := ih _ _ _ h2
              simp only [Prod.mk.injEq] at h3
              obtain ⟨rfl, _⟩ := h3
              simp; omega
       have hxl := hx _ _ _ _ hu
       simp only [Option.map_eq_some_iff] at h
       obtain ⟨l, h1, rfl⟩ := h
       rcases List.mem_cons.1 ht with rfl | ht
       · exact ⟨by simp; omega, fun h => by cases h⟩
       · have := tok_facts f r' l h1 t ht
         exact ⟨by simp; omega, this.2⟩
   split at h
   · rename_i hw
     simp only [Option.map_eq_some_iff] at h
     obtain ⟨l, h1, rfl⟩ := h
     have htd := take_drop_len (c :: r)
     rcases List.mem_cons.1 ht with rfl | ht
     · refine ⟨by simp only [List.length_cons] at *; omega, fun _ => ?_⟩
       simp only
       rw [List.takeWhile_cons, if_pos hw]; simp
     · have := tok_facts f _ l h1 t ht
       exact ⟨by simp only [List.length_cons] at *; omega, this.2⟩
   · cases h
theorem operands_sub : ∀ (l os : List Tk), operandsS l = some os → os.length ≤ l.length ∧ ∀ t ∈ os, t ∈ l
 | [], os, h => by simp [operandsS] at h; subst h; exact ⟨by simp, fun t ht => by cases ht⟩
 | [t], os, h => by
   simp only [operandsS] at h
   split at h
   · injection h with h; subst h; exact ⟨by simp, fun t ht => ht⟩
   · cases h
 | [_, _], os, h => by simp [operandsS] at h
 | t :: u :: v :: l, os, h => by
   simp only [operandsS] at h
   split at h
   · simp only [Option.map_eq_some_iff] at h
     obtain ⟨x, h1, rfl⟩ := h
     obtain ⟨h2, h3⟩ := operands_sub (v :: l) x h1
     refine ⟨by simp at h2 ⊢; omega, fun w hw => ?_⟩
     rcases List.mem_cons.1 hw with rfl | hw
     · exact List.mem_cons_self ..
     · exact List.mem_cons_of_mem _ (List.mem_cons_of_mem _ (h3 w hw))
   · cases h
theorem split_sub : ∀ (ts : List Tk) (ls : List Bytes) (o : Option (Bytes × List Tk)), splitL ts = some (ls, o) → ls.length ≤ ts.length ∧ ∀ n os, o = some (n, os) → os.length ≤ ts.length ∧ (∀ t ∈ os, t ∈ ts) ∧ ∃ t ∈ ts, t.kind = 1 ∧ t.text = n
 | [], ls, o, h => by simp [splitL] at h; obtain ⟨rfl, rfl⟩ := h; exact ⟨by simp, fun _ _ h => by cases h⟩
 | t :: l, ls, o, h => by
   by_cases hk : t.kind = 1
   · by_cases h4 : ∃ u r, l = u :: r ∧ u.kind = 4
     · obtain ⟨u, r, rfl, h4⟩ := h4
       rw [splitL, if_neg (by simp [hk]), if_pos h4] at h
       simp only [Option.map_eq_some_iff] at h
       obtain ⟨⟨ls', o'⟩, h1, h2⟩ := h
       simp only [Prod.mk.injEq] at h2
       obtain ⟨rfl, rfl⟩ := h2
       obtain ⟨g1, g2⟩ := split_sub r ls' o' h1
       refine ⟨by simp; omega, fun n os ho => ?_⟩
       obtain ⟨g3, g4, t', g5, g6⟩ := g2 n os ho
       exact ⟨by simp; omega, fun t ht => List.mem_cons_of_mem _ (List.mem_cons_of_mem _ (g4 t ht)), t', List.mem_cons_of_mem _ (List.mem_cons_of_mem _ g5), g6⟩
     · have hs : splitL (t :: l) = (operandsS l).map fun x => ([], some (t.text, x)) := by
        cases l with
        | nil => rw [splitL, if_neg (by simp [hk])]; rfl
        | cons u r => rw [splitL, if_neg (by simp [hk]), if_neg (fun h => h4 ⟨u, r, rfl, h⟩)]
       rw [hs] at h
       simp only [Option.map_eq_some_iff] at h
       obtain ⟨x, h1, h2⟩ := h
       simp only [Prod.mk.injEq] at h2
       obtain ⟨rfl, rfl⟩ := h2
       obtain ⟨g1, g2⟩ := operands_sub l x h1
       refine ⟨by simp, fun n os ho => ?_⟩
       injection ho with ho; injection ho with ho1 ho2
       subst ho1; subst ho2
       exact ⟨by simp; omega, fun t ht => List.mem_cons_of_mem _ (g2 t ht), t, List.mem_cons_self .., hk, rfl⟩
   · cases l <;> rw [splitL, if_pos hk] at h <;> cases h
def doS (a : St) (n : Bytes) (l : List Tk) (c d : Bool) (lo hi : Nat) (t : Bool) (X : R St) : R St :=
 if ((a.inData && !d) || (!a.inData && !c) || (n == dEntry && a.hasEntry) || (n == dZero && a.hasZero)) = true then .error 10
 else if l.length < lo ∨ hi < l.length then .error 30
 else if (l.all fun k => decide (k.kind = 2) == t) = false then .error 30
 else X >>= fun a' => if 1024 < a'.p.code.length ∨ 4096 < a'.p.data.length then .error 9 else .ok a'
structure Lim (a : St) : Prop where
 code : a.p.code.length ≤ 1024
 data : a.p.data.length ≤ 4096
 labels : a.p.labels.length ≤ 1024
 uses : a.uses.length ≤ a.p.code.length + a.p.data.length + a.hasEntry.toNat
theorem all_no (l : List Tk) : (l.all fun k => decide (k.kind = 2) == false) = noStr l := by
 unfold noStr
 congr 1
 funext t
 by_cases h : t.kind = 2 <;> simp [h]
theorem bind_lim {a : St} {X : R St} (h : ∀ a', X = .ok a' → a'.p.code.length ≤ 1024 ∧ a'.p.data.length ≤ 4096) : (X >>= fun a' => if 1024 < a'.p.code.length ∨ 4096 < a'.p.data.length then (.error 9 : R St) else .ok a') = X := by
 cases X with
 | error e => rfl
 | ok a' =>
   have := h a' rfl
   show (if _ then _ else _) = _
   rw [if_neg (by omega)]
theorem full_eq {a : St} {X : R St} (hc : ∀ a', X = .ok a' → a'.p.code.length ≤ 1024) : (X >>= fun a' => full a') = X >>= fun a' => if 1024 < a'.p.code.length ∨ 4096 < a'.p.data.length then (.error 9 : R St) else .ok a' := by
 cases X with
 | error e => rfl
 | ok a' =>
   have := hc a' rfl
   show full a' = (if _ then _ else _)
   unfold full
   by_cases h : 4096 < a'.p.data.length
   · rw [if_pos h, if_pos (.inr h)]
   · rw [if_neg h, if_neg (by omega)]
theorem words_code : ∀ (l : List Tk) (a a' : St), wordsS a l = .ok a' → a'.p.code = a.p.code ∧ a'.p.labels = a.p.labels ∧ a'.hasEntry = a.hasEntry ∧ a'.line = a.line ∧ a'.uses.length + a.p.data.length ≤ a.uses.length + a'.p.data.length
 | [], a, a', h => by simp [wordsS] at h; subst h; exact ⟨rfl, rfl, rfl, rfl, Nat.le_refl _⟩
 | t :: l, a, a', h => by
   rw [wordsS] at h
   obtain ⟨⟨n, u⟩, hv, h⟩ := bind_ok h
   obtain ⟨h1, h2, h3, h4, h5⟩ := words_code l _ a' h
   have hu : u.length ≤ 1 := Go.Proofs.D.val_fst hv
   refine ⟨h1, h2, h3, h4, ?_⟩
   simp [Go.Proofs.D.wordOf_len] at h5
   omega
theorem bytes_code : ∀ (l : List Tk) (a a' : St), bytesS a l = .ok a' → a'.p.code = a.p.code ∧ a'.p.labels = a.p.labels ∧ a'.hasEntry = a.hasEntry ∧ a'.line = a.line ∧ a'.uses = a.uses ∧ a.p.data.length ≤ a'.p.data.length
 | [], a, a', h => by simp [bytesS] at h; subst h; exact ⟨rfl, rfl, rfl, rfl, rfl, Nat.le_refl _⟩
 | t :: l, a, a', h => by
   rw [bytesS] at h
   obtain ⟨n, hv, h⟩ := bind_ok h
   obtain ⟨h1, h2, h3, h4, h5, h6⟩ := bytes_code l _ a' h
   refine ⟨h1, h2, h3, h4, h5, ?_⟩
   simp at h6; omega
theorem instrX_ok {a a' : St} {op : Nat} {l : List Tk} (h : instrX a op l = .ok a') : a'.p.code.length = a.p.code.length + 1 ∧ a'.p.data = a.p.data ∧ a'.p.labels = a.p.labels ∧ a'.hasEntry = a.hasEntry ∧ a'.line = a.line ∧ a'.uses.length ≤ a.uses.length + 1 := by
 unfold instrX at h
 split at h
 · obtain ⟨r, _, h⟩ := bind_ok h
   injection h with h; subst h; exact ⟨by simp, rfl, rfl, rfl, rfl, Nat.le_succ _⟩
 · obtain ⟨r, _, h⟩ := bind_ok h
   obtain ⟨⟨n, u⟩, hv, h⟩ := bind_ok h
   have hu : u.length ≤ 1 := Go.Proofs.D.val_fst hv
   injection h with h; subst h
   refine ⟨by simp, rfl, rfl, rfl, rfl, ?_⟩
   simp; omega
theorem stmt_op {a : St} {n : Bytes} {l : List Tk} {op : Nat} (ha : Lim a) (hf : wordsB.findIdx? (· == n) = some op) : stmtS a n l = doS a n l true false (operandsN op) (operandsN op) false (instrX a op l) := by
 have hn : (n == dEntry) = false ∧ (n == dZero) = false := by
  constructor
  · cases e : n == dEntry with
    | false => rfl
    | true => have e : n = dEntry := by simpa using e
              subst e; rw [show wordsB.findIdx? (· == dEntry) = none by decide] at hf; cases hf
  · cases e : n == dZero with
    | false => rfl
    | true => have e : n = dZero := by simpa using e
              subst e; rw [show wordsB.findIdx? (· == dZero) = none by decide] at hf; cases hf
 unfold stmtS doS
 rw [hf, hn.1, hn.2, all_no]
 simp only [Bool.not_false, Bool.and_true, Bool.not_true, Bool.and_false, Bool.false_and, Bool.or_false]
 by_cases h1 : a.inData = true
 · rw [if_pos h1, if_pos h1]
 rw [if_neg h1, if_neg h1]
 by_cases h2 : l.length ≠ operandsN op ∨ noStr l = false
 · rw [if_pos h2]
   by_cases h3 : l.length < operandsN op ∨ operandsN op < l.length
   · rw [if_pos h3]
   · rw [if_neg h3, if_pos]
     rcases h2 with h2 | h2
     · omega
     · exact h2
 · rw [if_neg h2, if_neg (by omega), if_neg (fun h => h2 (.inr h)), instr_X]
   cases hX : instrX a op l with
   | error e => rfl
   | ok a' =>
     obtain ⟨g1, g2, _⟩ := instrX_ok hX
     show (if _ then _ else _) = (if _ then _ else _)
     have := ha.data
     rw [g2]
     by_cases h4 : 1024 ≤ a.p.code.length
     · rw [if_pos h4, if_pos (by omega)]
     · rw [if_neg h4, if_neg (by omega)]
theorem do_len0 {a : St} {n : Bytes} {l : List Tk} {X : R St} (h : l ≠ []) (h1 : (n == dEntry) = false) (h2 : (n == dZero) = false) : doS a n l true true 0 0 false X = .error 30 := by
 have hl := List.length_pos_iff.2 h
 unfold doS
 rw [h1, h2, if_neg (by simp), if_pos (.inr hl)]
theorem stmt_code {a : St} {l : List Tk} (ha : Lim a) : stmtS a dCode l = doS a dCode l true true 0 0 false (.ok { a with inData := false }) := by
 have hf : wordsB.findIdx? (· == dCode) = none := by decide
 unfold stmtS
 rw [hf]
 simp only
 rw [if_pos (.inl trivial)]
 by_cases hl : l = []
 · subst hl
   unfold doS
   rw [if_neg (fun h => h rfl), if_neg (by simp [dCode, dEntry, dZero]), if_neg (by simp), if_neg (by simp), bind_lim (a := a) (fun a' h => by injection h with h; subst h; exact ⟨ha.code, ha.data⟩)]
   rfl
 · rw [if_pos hl, do_len0 hl rfl rfl]
theorem stmt_data {a : St} {l : List Tk} (ha : Lim a) : stmtS a dData l = doS a dData l true true 0 0 false (.ok { a with inData := true }) := by
 have hf : wordsB.findIdx? (· == dData) = none := by decide
 unfold stmtS
 rw [hf]
 simp only
 rw [if_pos (.inr trivial)]
 by_cases hl : l = []
 · subst hl
   unfold doS
   rw [if_neg (fun h => h rfl), if_neg (by simp [dData, dEntry, dZero]), if_neg (by simp), if_neg (by simp), bind_lim (a := a) (fun a' h => by injection h with h; subst h; exact ⟨ha.code, ha.data⟩)]
   rfl
 · rw [if_pos hl, do_len0 hl rfl rfl]
theorem do_one {a : St} {n : Bytes} {l : List Tk} {X Y : R St} {b : Bool} (h1 : ((n == dEntry && a.hasEntry) || (n == dZero && a.hasZero)) = b) (hX : ∀ a', X = .ok a' → a'.p.code.length ≤ 1024 ∧ a'.p.data.length ≤ 4096) (hY : l.length = 1 → Y = X) :
 (if b = true then (.error 10 : R St) else if l.length ≠ 1 ∨ noStr l = false then .error 30 else Y) = doS a n l true true 1 1 false X := by
 unfold doS
 have h2 : (((a.inData && !true) || (!a.inData && !true) || (n == dEntry && a.hasEntry)) || (n == dZero && a.hasZero)) = b := by rw [← h1]; simp
 rw [h2, all_no, bind_lim (a := a) hX]
 by_cases hb : b = true
 · rw [if_pos hb, if_pos hb]
 · rw [if_neg hb, if_neg hb]
   by_cases h3 : l.length = 1
   · rw [if_neg (by omega : ¬ (l.length < 1 ∨ 1 < l.length)), hY h3]
     by_cases h4 : noStr l = false
     · rw [if_pos (.inr h4), if_pos h4]
     · rw [if_neg (by rintro (h | h); exact h h3; exact h4 h), if_neg h4]
   · rw [if_pos (.inl h3), if_pos (by omega)]
theorem stmt_entry {a : St} {l : List Tk} (ha : Lim a) : stmtS a dEntry l = doS a dEntry l true true 1 1 false (Go.Proofs.D.entryX a (l.getD 0 ⟨1, []⟩).text) := by
 have hf : wordsB.findIdx? (· == dEntry) = none := by decide
 unfold stmtS
 rw [hf]
 simp only
 rw [if_neg (by decide), if_pos trivial]
 have := do_one (a := a) (n := dEntry) (l := l) (X := Go.Proofs.D.entryX a (l.getD 0 ⟨1, []⟩).text) (Y := Go.Proofs.D.entryX a (l.getD 0 ⟨1, []⟩).text) (b := a.hasEntry) (by simp [dEntry, dZero]) (fun a' h => by
  unfold Go.Proofs.D.entryX at h
  obtain ⟨x, _, h⟩ := bind_ok h
  injection h with h; subst h; exact ⟨ha.code, ha.data⟩) (fun _ => rfl)
 rw [← this]
 rfl
theorem stmt_zero {a : St} {l : List Tk} (ha : Lim a) : stmtS a dZero l = doS a dZero l true true 1 1 false (Go.Proofs.D.zeroX a (l.getD 0 ⟨1, []⟩).text) := by
 have hf : wordsB.findIdx? (· == dZero) = none := by decide
 unfold stmtS
 rw [hf]
 simp only
 rw [if_neg (by decide), if_neg (by decide), if_pos trivial]
 have := do_one (a := a) (n := dZero) (l := l) (X := Go.Proofs.D.zeroX a (l.getD 0 ⟨1, []⟩).text) (Y := Go.Proofs.D.zeroX a (l.getD 0 ⟨1, []⟩).text) (b := a.hasZero) (by simp [dEntry, dZero]) (fun a' h => by
  unfold Go.Proofs.D.zeroX at h
  obtain ⟨x, _, h⟩ := bind_ok h
  injection h with h; subst h; exact ⟨ha.code, ha.data⟩) (fun _ => rfl)
 rw [← this]
 rfl
theorem do_data {a : St} {n : Bytes} {l : List Tk} {X Y : R St} {hi : Nat} {t : Bool} (h1 : (n == dEntry) = false) (h2 : (n == dZero) = false) (hX : (X >>= fun a' => if 1024 < a'.p.code.length ∨ 4096 < a'.p.data.length then (.error 9 : R St) else .ok a') = Y) (c : Prop) [Decidable c] (hc : c ↔ (l.length < 1 ∨ hi < l.length)) :
 (if a.inData = false then (.error 10 : R St) else if c then .error 30 else if (l.all fun k => decide (k.kind = 2) == t) = false then .error 30 else Y) = doS a n l false true 1 hi t X := by
 unfold doS
 rw [h1, h2, hX]
 simp only [Bool.not_true, Bool.and_false, Bool.not_false, Bool.and_true, Bool.false_and, Bool.or_false, Bool.false_or]
 by_cases hd : a.inData = false
 · have hb : (!a.inData) = true := by simp [hd]
   rw [if_pos hd, if_pos hb]
 · have hb : ¬ ((!a.inData) = true) := by simpa using hd
   rw [if_neg hd, if_neg hb]
   by_cases h3 : c
   · rw [if_pos h3, if_pos (hc.1 h3)]
   · rw [if_neg h3, if_neg (fun h => h3 (hc.2 h))]
theorem stmt_bytes {a : St} {l : List Tk} (ha : Lim a) (hl : l.length ≤ 65536) : stmtS a dByte l = doS a dByte l false true 1 65536 false (bytesS a l) := by
 have hf : wordsB.findIdx? (· == dByte) = none := by decide
 have hfull := full_eq (a := a) (X := bytesS a l) (fun a' h => by rw [(bytes_code l a a' h).1]; exact ha.code)
 have := do_data (a := a) (n := dByte) (l := l) (hi := 65536) (t := false) (X := bytesS a l) rfl rfl hfull.symm (l = [] ∨ ((dByte = dText ∨ dByte = dSpace) ∧ l.length ≠ 1)) (by
  cases l with
  | nil => simp
  | cons x l => simp [dByte, dText, dSpace] at hl ⊢; omega)
 rw [← this]
 unfold stmtS
 rw [hf]
 simp only
 rw [if_neg (by decide), if_neg (by decide), if_neg (by decide), if_pos (.inr (.inl trivial))]
 have e : decide (dByte = dText) = false := by decide
 simp only [e]
 rfl
theorem stmt_words {a : St} {l : List Tk} (ha : Lim a) (hl : l.length ≤ 65536) : stmtS a dWord l = doS a dWord l false true 1 65536 false (wordsS a l) := by
 have hf : wordsB.findIdx? (· == dWord) = none := by decide
 have hfull := full_eq (a := a) (X := wordsS a l) (fun a' h => by rw [(words_code l a a' h).1]; exact ha.code)
 have := do_data (a := a) (n := dWord) (l := l) (hi := 65536) (t := false) (X := wordsS a l) rfl rfl hfull.symm (l = [] ∨ ((dWord = dText ∨ dWord = dSpace) ∧ l.length ≠ 1)) (by
  cases l with
  | nil => simp
  | cons x l => simp [dWord, dText, dSpace] at hl ⊢; omega)
 rw [← this]
 unfold stmtS
 rw [hf]
 simp only
 rw [if_neg (by decide), if_neg (by decide), if_neg (by decide), if_pos (.inl trivial)]
 have e : decide (dWord = dText) = false := by decide
 simp only [e]
 rfl
theorem stmt_text {a : St} {l : List Tk} (ha : Lim a) : stmtS a dText l = doS a dText l false true 1 1 true (.ok { a with p := { a.p with data := a.p.data ++ (l.getD 0 ⟨1, []⟩).text } }) := by
 have hf : wordsB.findIdx? (· == dText) = none := by decide
 have hfull := full_eq (a := a) (X := .ok { a with p := { a.p with data := a.p.data ++ (l.getD 0 ⟨1, []⟩).text } }) (fun a' h => by injection h with h; subst h; exact ha.code)
 have := do_data (a := a) (n := dText) (l := l) (hi := 1) (t := true) (X := .ok { a with p := { a.p with data := a.p.data ++ (l.getD 0 ⟨1, []⟩).text } }) rfl rfl hfull.symm (l = [] ∨ ((dText = dText ∨ dText = dSpace) ∧ l.length ≠ 1)) (by
  cases l with
  | nil => simp
  | cons x l => simp [List.length_pos_iff])
 rw [← this]
 unfold stmtS
 rw [hf]
 simp only
 rw [if_neg (by decide), if_neg (by decide), if_neg (by decide), if_pos (.inr (.inr (.inl trivial)))]
 rfl
theorem stmt_space {a : St} {l : List Tk} (ha : Lim a) : stmtS a dSpace l = doS a dSpace l false true 1 1 false (Go.Proofs.D.spaceX a (l.getD 0 ⟨1, []⟩).text) := by
 have hf : wordsB.findIdx? (· == dSpace) = none := by decide
 have hfull := full_eq (a := a) (X := Go.Proofs.D.spaceX a (l.getD 0 ⟨1, []⟩).text) (fun a' h => by
  unfold Go.Proofs.D.spaceX at h
  obtain ⟨x, _, h⟩ := bind_ok h
  injection h with h; subst h; exact ha.code)
 have := do_data (a := a) (n := dSpace) (l := l) (hi := 1) (t := false) (X := Go.Proofs.D.spaceX a (l.getD 0 ⟨1, []⟩).text) rfl rfl hfull.symm (l = [] ∨ ((dSpace = dText ∨ dSpace = dSpace) ∧ l.length ≠ 1)) (by
  cases l with
  | nil => simp
  | cons x l => simp [List.length_pos_iff])
 rw [← this]
 unfold stmtS
 rw [hf]
 simp only
 rw [if_neg (by decide), if_neg (by decide), if_neg (by decide), if_pos (.inr (.inr (.inr trivial)))]
 have e : decide (dSpace = dText) = false := by decide
 simp only [e]
 have hs : (Go.Proofs.D.spaceX a (l.getD 0 ⟨1, []⟩).text >>= fun a' => full a') = (literalS (l.getD 0 ⟨1, []⟩).text 0 4096 >>= fun n => full { a with p := { a.p with data := a.p.data ++ List.replicate n.toNat 0 } }) := by
  unfold Go.Proofs.D.spaceX
  cases literalS (l.getD 0 ⟨1, []⟩).text 0 4096 <;> rfl
 rw [hs]
 rfl
end Go.As
namespace Go.Proofs.D
open Go Go.Den
set_option maxRecDepth 100000
set_option maxHeartbeats 4000000
abbrev ehk1 : List CK := [.bool, .bool, qi, qi, .bool, .func]
abbrev o90_2 : Op := .lookup 71 (.tmp 23) (.tmp 24) true
abbrev o90_5 : Op := .call { callee := (.builtin .len), args := #[(.tmp 32)], argTypes := #[71] }
abbrev o90_8 : Op := .mapUpdate 71 (.tmp 61) (.tmp 62) (.tmp 63)
noncomputable def d90 : DCode := up ⟨[(15, .l [.str]), (17, .c (.one false [.bool])), (23, .l [.map]), (25, .c (.tup [(true, [.str, .bool, qi]), (false, [.bool])])), (32, .l [.map]), (33, .c (.one false [qi])), (39, .l [.bool]), (44, .l [.slice]), (51, .l [.bool]), (55, .l [.slice]), (61, .l [.map]), (63, .l [.str, .bool, qi])], [], [(13, 58, [(12, qi)], [])]⟩ (low Tryz.prog (fun _ => false) (Tryz.f90.body.getD .skip))
theorem low90 : low Tryz.prog (fun _ => false) (Tryz.f90.body.getD .skip) = some (eC d90) := by kernel_rfl
def R90 (p1 : Nat) (o1 : Nat) (a1 : OA) (n1 : Nat) (ehk1 : Nat) (h : PHeap) (Q : Value → PHeap → Prop) : Prop :=
 ∃ (I_1 : Nat → Int → PHeap → Prop), (∃ (m2 : Nat), I_1 m2 (0 : Int) h) ∧
 ∀ (m1 : Nat) (i1 : Int) (h_1 : PHeap), I_1 m1 i1 h_1 →
 br (decide (i1 < ((n1 : Nat) : Int)))
 (∃ (b1 o2 : Nat), a1 = some ⟨b1, o2, none⟩ ∧ (0 ≤ i1 ∧ i1 < n1) ∧
 ∃ (l1 : Bs), h_1.cell b1 (o2 + (i1).toNat * 1) = some (vS l1) ∧
 Tri Tryz.prog 27 [vS l1] h_1 fun v_1 h_2 =>
 ∃ (c1 : Bool), v_1 = vB c1 ∧
 br (!c1)
 (Q (vI 12) h_2)
 (∃ (m3 : Nat), h_2.cell p1 (o1 + 10) = some (vM m3) ∧
 Raw Tryz.prog (execOp (rho [(23, vM m3), (24, vS l1)]) (mkO o90_2 168)) h_2 fun v_2 h_3 =>
 ∃ (l2 : Bs) (c2 : Bool) (i2 : Int) (c3 : Bool), v_2 = vT [vA [vS l2, vB c2, vI i2], vB c3] ∧
 br c3
 (Q (vI 7) h_3)
 (∃ (m4 : Nat), h_3.cell p1 (o1 + 10) = some (vM m4) ∧
 Raw Tryz.prog (execOp (rho [(32, vM m4)]) (mkO o90_5 3)) h_3 fun v_3 h_4 =>
 ∃ (i3 : Int), v_3 = vI i3 ∧
 br (decide (i3 ≥ 1024))
 (Q (vI 9) h_4)
 (∃ (c4 : Bool), h_4.cell p1 (o1 + 7) = some (vB c4) ∧
 ∃ (a2 : OA) (n2 k2 : Nat), h_4.cell p1 (o1 + 1) = some (vL a2 n2 k2) ∧
 (h_4.cell p1 (o1 + 1) = some (vL a2 n2 k2)) ∧
 (h_4.cell p1 (o1 + 7) = some (vB c4)) ∧
 ∃ (c5 : Bool), h_4.cell p1 (o1 + 7) = some (vB c5) ∧
 br c5
 (∃ (a3 : OA) (n3 k3 : Nat), h_4.cell p1 (o1 + 6) = some (vL a3 n3 k3) ∧
 ∃ (m5 : Nat), h_4.cell p1 (o1 + 10) = some (vM m5) ∧
 Raw Tryz.prog (execOp (rho [(61, vM m5), (62, vS l1), (63, vA [vS l1, vB c4, vI ((n3 : Nat) : Int)])]) (mkO o90_8 0)) h_4 fun v_4 h_5 =>
 v_4 = vT [] ∧
 ∃ (m6 : Nat), m6 < m1 ∧ I_1 m6 (IntKind.i64.wrap (i1 + 1)) h_5 ∧
 True)
 (∃ (m7 : Nat), h_4.cell p1 (o1 + 10) = some (vM m7) ∧
 Raw Tryz.prog (execOp (rho [(61, vM m7), (62, vS l1), (63, vA [vS l1, vB c4, vI (IntKind.i64.wrap (((n2 : Nat) : Int) * 4))])]) (mkO o90_8 0)) h_4 fun v_5 h_6 =>
 v_5 = vT [] ∧
 ∃ (m8 : Nat), m8 < m1 ∧ I_1 m8 (IntKind.i64.wrap (i1 + 1)) h_6 ∧
 True)))))
 (Q (vI 0) h_1)
theorem T90 {p1 : Nat} {o1 : Nat} {a1 : OA} {n1 : Nat} {ehk1 : Nat} {h : PHeap} {Q : Value → PHeap → Prop} (hR : R90 p1 o1 a1 n1 ehk1 h Q) : Tri Tryz.prog 90 [vP p1 o1, vL a1 n1 ehk1] h Q :=
 tri_of_dn mixed Tryz.func90 rfl (by kernel_rfl) low90 (rs := [.tmp 4]) (by kernel_rfl) rfl (Eq.mpr (by kernel_rfl : dnF Tryz.prog Tryz.f90.ntmps d90 [.tmp 4] [vP p1 o1, vL a1 n1 ehk1] h Q = R90 p1 o1 a1 n1 ehk1 h Q) hR)
abbrev o37_0 : Op := .makeMap 69 none
abbrev o37_1 : Op := .insert 69 (.tmp 4) (.const (vS [46, 99, 111, 100, 101])) (.tmp 5)
abbrev o37_2 : Op := .insert 69 (.tmp 4) (.const (vS [46, 100, 97, 116, 97])) (.tmp 6)
abbrev o37_3 : Op := .insert 69 (.tmp 4) (.const (vS [46, 101, 110, 116, 114, 121])) (.tmp 7)
abbrev o37_4 : Op := .insert 69 (.tmp 4) (.const (vS [46, 122, 101, 114, 111])) (.tmp 8)
abbrev o37_5 : Op := .insert 69 (.tmp 4) (.const (vS [46, 119, 111, 114, 100])) (.tmp 9)
abbrev o37_6 : Op := .insert 69 (.tmp 4) (.const (vS [46, 98, 121, 116, 101])) (.tmp 10)
abbrev o37_7 : Op := .insert 69 (.tmp 4) (.const (vS [46, 116, 101, 120, 116])) (.tmp 11)
abbrev o37_8 : Op := .insert 69 (.tmp 4) (.const (vS [46, 115, 112, 97, 99, 101])) (.tmp 12)
abbrev o37_10 : Op := .mapUpdate 69 (.tmp 19) (.tmp 21) (.tmp 25)
noncomputable def d37 : DCode := up ⟨[(4, .c (.one false [.map])), (17, .l [qi]), (18, .c (.one false [qi])), (20, .l [qi]), (21, .c (.one false [.str]))], [2], [(15, 15, [(14, qi)], [])]⟩ (low Tryz.prog (fun d => Nat.beq d 2) (Tryz.f37.body.getD .skip))
theorem low37 : low Tryz.prog (fun d => Nat.beq d 2) (Tryz.f37.body.getD .skip) = some (eC d37) := by kernel_rfl
def R37 (h : PHeap) (Q : Value → PHeap → Prop) : Prop :=
 Raw Tryz.prog (execOp (rho []) (mkO o37_0 69)) h fun v_1 h_1 =>
 ∃ (m1 : Nat), v_1 = vM m1 ∧
 Raw Tryz.prog (execOp (rho [(4, vM m1), (5, vA [vB true, vB true, vI 0, vI 0, vB false, vF 76 [] []])]) (mkO o37_1 0)) h_1 fun v_2 h_2 =>
 v_2 = vT [] ∧
 Raw Tryz.prog (execOp (rho [(4, vM m1), (6, vA [vB true, vB true, vI 0, vI 0, vB false, vF 77 [] []])]) (mkO o37_2 0)) h_2 fun v_3 h_3 =>
 v_3 = vT [] ∧
 Raw Tryz.prog (execOp (rho [(4, vM m1), (7, vA [vB true, vB true, vI 1, vI 1, vB false, vF 78 [] []])]) (mkO o37_3 0)) h_3 fun v_4 h_4 =>
 v_4 = vT [] ∧
 Raw Tryz.prog (execOp (rho [(4, vM m1), (8, vA [vB true, vB true, vI 1, vI 1, vB false, vF 79 [] []])]) (mkO o37_4 0)) h_4 fun v_5 h_5 =>
 v_5 = vT [] ∧
 Raw Tryz.prog (execOp (rho [(4, vM m1), (9, vA [vB false, vB true, vI 1, vI 65536, vB false, vF 80 [] []])]) (mkO o37_5 0)) h_5 fun v_6 h_6 =>
 v_6 = vT [] ∧
 Raw Tryz.prog (execOp (rho [(4, vM m1), (10, vA [vB false, vB true, vI 1, vI 65536, vB false, vF 81 [] []])]) (mkO o37_6 0)) h_6 fun v_7 h_7 =>
 v_7 = vT [] ∧
 Raw Tryz.prog (execOp (rho [(4, vM m1), (11, vA [vB false, vB true, vI 1, vI 1, vB true, vF 82 [] []])]) (mkO o37_7 0)) h_7 fun v_8 h_8 =>
 v_8 = vT [] ∧
 Raw Tryz.prog (execOp (rho [(4, vM m1), (12, vA [vB false, vB true, vI 1, vI 1, vB false, vF 83 [] []])]) (mkO o37_8 0)) h_8 fun v_9 h_9 =>
 v_9 = vT [] ∧
 ∃ (I_1 : Nat → Int → PHeap → Prop), (∃ (m3 : Nat), I_1 m3 (0 : Int) h_9) ∧
 ∀ (m2 : Nat) (i1 : Int) (h_10 : PHeap), I_1 m2 i1 h_10 →
 br (decide (i1 < 27))
 (∀ (b1 : Nat), h_10 b1 = none → ∀ (h_11 : PHeap), h_11 = h_10.put b1 (.cells ⟨[vI 0]⟩ 3) →
 ∃ (l1 : List Value) (t1 : TypeId) (z1 : Nat × Nat), h_11 b1 = some (.cells ⟨l1⟩ t1 z1) ∧ (0 + 1 ≤ l1.length ∧ z1.2 ≤ 0) ∧
 ∀ (h_12 : PHeap), h_12 = h_11.put b1 (.cells ⟨splice l1 0 [vI i1]⟩ t1 z1) →
 ∃ (i2 : Int), h_12.cell b1 0 = some (vI i2) ∧
 Tri Tryz.prog 84 [vI i2] h_12 fun v_10 h_13 =>
 ∃ (i3 : Int), v_10 = vI i3 ∧
 ∃ (i4 : Int), h_13.cell b1 0 = some (vI i4) ∧
 Tri Tryz.prog 61 [vI i4] h_13 fun v_11 h_14 =>
 ∃ (l2 : Bs), v_11 = vS l2 ∧
 Raw Tryz.prog (execOp (rho [(19, vM m1), (21, vS l2), (25, vA [vB true, vB false, vI i3, vI i3, vB false, vF 85 [] [vP b1 0]])]) (mkO o37_10 0)) h_14 fun v_12 h_15 =>
 v_12 = vT [] ∧
 ∃ (m4 : Nat), m4 < m2 ∧ I_1 m4 (IntKind.i64.wrap (i1 + 1)) h_15 ∧
 True)
 (Q (vM m1) h_10)
theorem T37 {h : PHeap} {Q : Value → PHeap → Prop} (hR : R37  h Q) : Tri Tryz.prog 37 [] h Q :=
 tri_of_dn mixed Tryz.func37 rfl (by kernel_rfl) low37 (rs := [.tmp 0]) (by kernel_rfl) rfl (Eq.mpr (by kernel_rfl : dnF Tryz.prog Tryz.f37.ntmps d37 [.tmp 0] [] h Q = R37  h Q) hR)
abbrev o39_9 : Op := .lookup 69 (.tmp 48) (.tmp 49) true
noncomputable def d39 : DCode := up ⟨[(18, .c (.tup [(false, [.slice]), (false, [qi])])), (26, .c (.tup [(false, [.slice]), (false, [.str]), (false, [.slice]), (false, [qi])])), (36, .c (.one false [qi])), (48, .l [.map]), (50, .c (.lkp true [vB false, vB false, vI 0, vI 0, vB false, .nilFunc] ehk1)), (58, .l [.bool]), (61, .l [.bool]), (68, .l [.bool]), (72, .l [.bool]), (83, .l [.bool]), (93, .l [.bool]), (99, .l [qi]), (105, .l [qi]), (113, .l [qi, .str]), (115, .l [qi]), (118, .l [.bool]), (122, .l [.func]), (125, .c (.one false [qi])), (133, .l [.slice]), (140, .l [.slice])], [], [(111, 13, [(110, qi)], [])]⟩ (low Tryz.prog (fun _ => false) (Tryz.f39.body.getD .skip))
theorem low39 : low Tryz.prog (fun _ => false) (Tryz.f39.body.getD .skip) = some (eC d39) := by kernel_rfl
def R39 (p1 : Nat) (o1 : Nat) (l1 : Bs) (h : PHeap) (Q : Value → PHeap → Prop) : Prop :=
 Tri Tryz.prog 88 [vS l1] h fun v_1 h_1 =>
 ∃ (a1 : OA) (n1 ehk1 : Nat) (i1 : Int), v_1 = vT [vL a1 n1 ehk1, vI i1] ∧
 br (i1 != 0)
 (Q (vI i1) h_1)
 (Tri Tryz.prog 89 [vL a1 n1 ehk1] h_1 fun v_2 h_2 =>
 ∃ (a2 : OA) (n2 k2 : Nat) (l2 : Bs) (a3 : OA) (n3 k3 : Nat) (i2 : Int), v_2 = vT [vL a2 n2 k2, vS l2, vL a3 n3 k3, vI i2] ∧
 br (i2 != 0)
 (Q (vI i2) h_2)
 (Tri Tryz.prog 90 [vP p1 o1, vL a2 n2 k2] h_2 fun v_3 h_3 =>
 ∃ (i3 : Int), v_3 = vI i3 ∧
 br (i3 != 0)
 (Q (vI i3) h_3)
 (br (l2 == [])
 (Q (vI i3) h_3)
 (∃ (m1 : Nat), h_3.cell p1 o1 = some (vM m1) ∧
 Raw Tryz.prog (execOp (rho [(48, vM m1), (49, vS l2)]) (mkO o39_9 132)) h_3 fun v_4 h_4 =>
 ((v_4 = vT [vA [vB false, vB false, vI 0, vI 0, vB false, .nilFunc], vB false] ∧
 Q (vI 11) h_4) ∨
 (∃ (c1 c2 : Bool) (i4 i5 : Int) (c3 : Bool) (f1 : Nat) (x1 y1 : List Value), v_4 = vT [vA [vB c1, vB c2, vI i4, vI i5, vB c3, vF f1 x1 y1], vB true] ∧
 ∃ (c4 : Bool), h_4.cell p1 (o1 + 7) = some (vB c4) ∧
 br c4
 (br (!c2)
 (Q (vI 10) h_4)
 (∃ (c5 : Bool), h_4.cell p1 (o1 + 7) = some (vB c5) ∧
 br (!c5)
 (br (!c1)
 (Q (vI 10) h_4)
 (br (l2 == [46, 101, 110, 116, 114, 121])
 (∃ (c6 : Bool), h_4.cell p1 (o1 + 8) = some (vB c6) ∧
 br c6
 (Q (vI 10) h_4)
 (br (l2 == [46, 122, 101, 114, 111])
 (∃ (c7 : Bool), h_4.cell p1 (o1 + 9) = some (vB c7) ∧
 br c7
 (Q (vI 10) h_4)
 (br (decide (((n3 : Nat) : Int) < i4))
 (Q (vI 30) h_4)
 (br (decide (((n3 : Nat) : Int) > i5))
 (Q (vI 30) h_4)
 (∃ (I_1 : Nat → Int → PHeap → Prop), (∃ (m3 : Nat), I_1 m3 (0 : Int) h_4) ∧
 ∀ (m2 : Nat) (i6 : Int) (h_5 : PHeap), I_1 m2 i6 h_5 →
 br (decide (i6 < ((n3 : Nat) : Int)))
 (∃ (b1 o2 : Nat), a3 = some ⟨b1, o2, none⟩ ∧ (0 ≤ i6 ∧ i6 < n3) ∧
 ∃ (i7 : Int) (l3 : Bs), h_5.row b1 (o2 + (i6).toNat * 2) [vI i7, vS l3] ∧
 br (!((i7 == 2) == c3))
 (Q (vI 30) h_5)
 (∃ (m4 : Nat), m4 < m2 ∧ I_1 m4 (IntKind.i64.wrap (i6 + 1)) h_5 ∧
 tv [vB c1, vB c2, vI i4, vI i5, vB c3, vF f1 x1 y1] ∧ True))
 (Tri Tryz.prog f1 (x1 ++ [vP p1 o1, vL a3 n3 k3] ++ y1) h_5 fun v_5 h_6 =>
 ∃ (i8 : Int), v_5 = vI i8 ∧
 br (i8 != 0)
 (Q (vI i8) h_6)
 (∃ (a4 : OA) (n4 k4 : Nat), h_6.cell p1 (o1 + 1) = some (vL a4 n4 k4) ∧
 br (decide (((n4 : Nat) : Int) > 1024))
 (Q (vI 9) h_6)
 (∃ (a5 : OA) (n5 k5 : Nat), h_6.cell p1 (o1 + 6) = some (vL a5 n5 k5) ∧
 br (decide (((n5 : Nat) : Int) > 4096))
 (Q (vI 9) h_6)
 (Q (vI 0) h_6))))))))
 (br (decide (((n3 : Nat) : Int) < i4))
 (Q (vI 30) h_4)
 (br (decide (((n3 : Nat) : Int) > i5))
 (Q (vI 30) h_4)
 (∃ (I_2 : Nat → Int → PHeap → Prop), (∃ (m6 : Nat), I_2 m6 (0 : Int) h_4) ∧
 ∀ (m5 : Nat) (i9 : Int) (h_7 : PHeap), I_2 m5 i9 h_7 →
 br (decide (i9 < ((n3 : Nat) : Int)))
 (∃ (b2 o3 : Nat), a3 = some ⟨b2, o3, none⟩ ∧ (0 ≤ i9 ∧ i9 < n3) ∧
 ∃ (i10 : Int) (l4 : Bs), h_7.row b2 (o3 + (i9).toNat * 2) [vI i10, vS l4] ∧
 br (!((i10 == 2) == c3))
 (Q (vI 30) h_7)
 (∃ (m7 : Nat), m7 < m5 ∧ I_2 m7 (IntKind.i64.wrap (i9 + 1)) h_7 ∧
 tv [vB c1, vB c2, vI i4, vI i5, vB c3, vF f1 x1 y1] ∧ True))
 (Tri Tryz.prog f1 (x1 ++ [vP p1 o1, vL a3 n3 k3] ++ y1) h_7 fun v_6 h_8 =>
 ∃ (i11 : Int), v_6 = vI i11 ∧
 br (i11 != 0)
 (Q (vI i11) h_8)
 (∃ (a6 : OA) (n6 k6 : Nat), h_8.cell p1 (o1 + 1) = some (vL a6 n6 k6) ∧
 br (decide (((n6 : Nat) : Int) > 1024))
 (Q (vI 9) h_8)
 (∃ (a7 : OA) (n7 k7 : Nat), h_8.cell p1 (o1 + 6) = some (vL a7 n7 k7) ∧
 br (decide (((n7 : Nat) : Int) > 4096))
 (Q (vI 9) h_8)
 (Q (vI 0) h_8)))))))))
 (br (l2 == [46, 122, 101, 114, 111])
 (∃ (c8 : Bool), h_4.cell p1 (o1 + 9) = some (vB c8) ∧
 br c8
 (Q (vI 10) h_4)
 (br (decide (((n3 : Nat) : Int) < i4))
 (Q (vI 30) h_4)
 (br (decide (((n3 : Nat) : Int) > i5))
 (Q (vI 30) h_4)
 (∃ (I_3 : Nat → Int → PHeap → Prop), (∃ (m9 : Nat), I_3 m9 (0 : Int) h_4) ∧
 ∀ (m8 : Nat) (i12 : Int) (h_9 : PHeap), I_3 m8 i12 h_9 →
 br (decide (i12 < ((n3 : Nat) : Int)))
 (∃ (b3 o4 : Nat), a3 = some ⟨b3, o4, none⟩ ∧ (0 ≤ i12 ∧ i12 < n3) ∧
 ∃ (i13 : Int) (l5 : Bs), h_9.row b3 (o4 + (i12).toNat * 2) [vI i13, vS l5] ∧
 br (!((i13 == 2) == c3))
 (Q (vI 30) h_9)
 (∃ (m10 : Nat), m10 < m8 ∧ I_3 m10 (IntKind.i64.wrap (i12 + 1)) h_9 ∧
 tv [vB c1, vB c2, vI i4, vI i5, vB c3, vF f1 x1 y1] ∧ True))
 (Tri Tryz.prog f1 (x1 ++ [vP p1 o1, vL a3 n3 k3] ++ y1) h_9 fun v_7 h_10 =>
 ∃ (i14 : Int), v_7 = vI i14 ∧
 br (i14 != 0)
 (Q (vI i14) h_10)
 (∃ (a8 : OA) (n8 k8 : Nat), h_10.cell p1 (o1 + 1) = some (vL a8 n8 k8) ∧
 br (decide (((n8 : Nat) : Int) > 1024))
 (Q (vI 9) h_10)
 (∃ (a9 : OA) (n9 k9 : Nat), h_10.cell p1 (o1 + 6) = some (vL a9 n9 k9) ∧
 br (decide (((n9 : Nat) : Int) > 4096))
 (Q (vI 9) h_10)
 (Q (vI 0) h_10))))))))
 (br (decide (((n3 : Nat) : Int) < i4))
 (Q (vI 30) h_4)
 (br (decide (((n3 : Nat) : Int) > i5))
 (Q (vI 30) h_4)
 (∃ (I_4 : Nat → Int → PHeap → Prop), (∃ (m12 : Nat), I_4 m12 (0 : Int) h_4) ∧
 ∀ (m11 : Nat) (i15 : Int) (h_11 : PHeap), I_4 m11 i15 h_11 →
 br (decide (i15 < ((n3 : Nat) : Int)))
 (∃ (b4 o5 : Nat), a3 = some ⟨b4, o5, none⟩ ∧ (0 ≤ i15 ∧ i15 < n3) ∧
 ∃ (i16 : Int) (l6 : Bs), h_11.row b4 (o5 + (i15).toNat * 2) [vI i16, vS l6] ∧
 br (!((i16 == 2) == c3))
 (Q (vI 30) h_11)
 (∃ (m13 : Nat), m13 < m11 ∧ I_4 m13 (IntKind.i64.wrap (i15 + 1)) h_11 ∧
 tv [vB c1, vB c2, vI i4, vI i5, vB c3, vF f1 x1 y1] ∧ True))
 (Tri Tryz.prog f1 (x1 ++ [vP p1 o1, vL a3 n3 k3] ++ y1) h_11 fun v_8 h_12 =>
 ∃ (i17 : Int), v_8 = vI i17 ∧
 br (i17 != 0)
 (Q (vI i17) h_12)
 (∃ (a10 : OA) (n10 k10 : Nat), h_12.cell p1 (o1 + 1) = some (vL a10 n10 k10) ∧
 br (decide (((n10 : Nat) : Int) > 1024))
 (Q (vI 9) h_12)
 (∃ (a11 : OA) (n11 k11 : Nat), h_12.cell p1 (o1 + 6) = some (vL a11 n11 k11) ∧
 br (decide (((n11 : Nat) : Int) > 4096))
 (Q (vI 9) h_12)
 (Q (vI 0) h_12))))))))))
 (br (l2 == [46, 101, 110, 116, 114, 121])
 (∃ (c9 : Bool), h_4.cell p1 (o1 + 8) = some (vB c9) ∧
 br c9
 (Q (vI 10) h_4)
 (br (l2 == [46, 122, 101, 114, 111])
 (∃ (c10 : Bool), h_4.cell p1 (o1 + 9) = some (vB c10) ∧
 br c10
 (Q (vI 10) h_4)
 (br (decide (((n3 : Nat) : Int) < i4))
 (Q (vI 30) h_4)
 (br (decide (((n3 : Nat) : Int) > i5))
 (Q (vI 30) h_4)
 (∃ (I_5 : Nat → Int → PHeap → Prop), (∃ (m15 : Nat), I_5 m15 (0 : Int) h_4) ∧
 ∀ (m14 : Nat) (i18 : Int) (h_13 : PHeap), I_5 m14 i18 h_13 →
 br (decide (i18 < ((n3 : Nat) : Int)))
 (∃ (b5 o6 : Nat), a3 = some ⟨b5, o6, none⟩ ∧ (0 ≤ i18 ∧ i18 < n3) ∧
 ∃ (i19 : Int) (l7 : Bs), h_13.row b5 (o6 + (i18).toNat * 2) [vI i19, vS l7] ∧
 br (!((i19 == 2) == c3))
 (Q (vI 30) h_13)
 (∃ (m16 : Nat), m16 < m14 ∧ I_5 m16 (IntKind.i64.wrap (i18 + 1)) h_13 ∧
 tv [vB c1, vB c2, vI i4, vI i5, vB c3, vF f1 x1 y1] ∧ True))
 (Tri Tryz.prog f1 (x1 ++ [vP p1 o1, vL a3 n3 k3] ++ y1) h_13 fun v_9 h_14 =>
 ∃ (i20 : Int), v_9 = vI i20 ∧
 br (i20 != 0)
 (Q (vI i20) h_14)
 (∃ (a12 : OA) (n12 k12 : Nat), h_14.cell p1 (o1 + 1) = some (vL a12 n12 k12) ∧
 br (decide (((n12 : Nat) : Int) > 1024))
 (Q (vI 9) h_14)
 (∃ (a13 : OA) (n13 k13 : Nat), h_14.cell p1 (o1 + 6) = some (vL a13 n13 k13) ∧
 br (decide (((n13 : Nat) : Int) > 4096))
 (Q (vI 9) h_14)
 (Q (vI 0) h_14))))))))
 (br (decide (((n3 : Nat) : Int) < i4))
 (Q (vI 30) h_4)
 (br (decide (((n3 : Nat) : Int) > i5))
 (Q (vI 30) h_4)
 (∃ (I_6 : Nat → Int → PHeap → Prop), (∃ (m18 : Nat), I_6 m18 (0 : Int) h_4) ∧
 ∀ (m17 : Nat) (i21 : Int) (h_15 : PHeap), I_6 m17 i21 h_15 →
 br (decide (i21 < ((n3 : Nat) : Int)))
 (∃ (b6 o7 : Nat), a3 = some ⟨b6, o7, none⟩ ∧ (0 ≤ i21 ∧ i21 < n3) ∧
 ∃ (i22 : Int) (l8 : Bs), h_15.row b6 (o7 + (i21).toNat * 2) [vI i22, vS l8] ∧
 br (!((i22 == 2) == c3))
 (Q (vI 30) h_15)
 (∃ (m19 : Nat), m19 < m17 ∧ I_6 m19 (IntKind.i64.wrap (i21 + 1)) h_15 ∧
 tv [vB c1, vB c2, vI i4, vI i5, vB c3, vF f1 x1 y1] ∧ True))
 (Tri Tryz.prog f1 (x1 ++ [vP p1 o1, vL a3 n3 k3] ++ y1) h_15 fun v_10 h_16 =>
 ∃ (i23 : Int), v_10 = vI i23 ∧
 br (i23 != 0)
 (Q (vI i23) h_16)
 (∃ (a14 : OA) (n14 k14 : Nat), h_16.cell p1 (o1 + 1) = some (vL a14 n14 k14) ∧
 br (decide (((n14 : Nat) : Int) > 1024))
 (Q (vI 9) h_16)
 (∃ (a15 : OA) (n15 k15 : Nat), h_16.cell p1 (o1 + 6) = some (vL a15 n15 k15) ∧
 br (decide (((n15 : Nat) : Int) > 4096))
 (Q (vI 9) h_16)
 (Q (vI 0) h_16)))))))))
 (br (l2 == [46, 122, 101, 114, 111])
 (∃ (c11 : Bool), h_4.cell p1 (o1 + 9) = some (vB c11) ∧
 br c11
 (Q (vI 10) h_4)
 (br (decide (((n3 : Nat) : Int) < i4))
 (Q (vI 30) h_4)
 (br (decide (((n3 : Nat) : Int) > i5))
 (Q (vI 30) h_4)
 (∃ (I_7 : Nat → Int → PHeap → Prop), (∃ (m21 : Nat), I_7 m21 (0 : Int) h_4) ∧
 ∀ (m20 : Nat) (i24 : Int) (h_17 : PHeap), I_7 m20 i24 h_17 →
 br (decide (i24 < ((n3 : Nat) : Int)))
 (∃ (b7 o8 : Nat), a3 = some ⟨b7, o8, none⟩ ∧ (0 ≤ i24 ∧ i24 < n3) ∧
 ∃ (i25 : Int) (l9 : Bs), h_17.row b7 (o8 + (i24).toNat * 2) [vI i25, vS l9] ∧
 br (!((i25 == 2) == c3))
 (Q (vI 30) h_17)
 (∃ (m22 : Nat), m22 < m20 ∧ I_7 m22 (IntKind.i64.wrap (i24 + 1)) h_17 ∧
 tv [vB c1, vB c2, vI i4, vI i5, vB c3, vF f1 x1 y1] ∧ True))
 (Tri Tryz.prog f1 (x1 ++ [vP p1 o1, vL a3 n3 k3] ++ y1) h_17 fun v_11 h_18 =>
 ∃ (i26 : Int), v_11 = vI i26 ∧
 br (i26 != 0)
 (Q (vI i26) h_18)
 (∃ (a16 : OA) (n16 k16 : Nat), h_18.cell p1 (o1 + 1) = some (vL a16 n16 k16) ∧
 br (decide (((n16 : Nat) : Int) > 1024))
 (Q (vI 9) h_18)
 (∃ (a17 : OA) (n17 k17 : Nat), h_18.cell p1 (o1 + 6) = some (vL a17 n17 k17) ∧
 br (decide (((n17 : Nat) : Int) > 4096))
 (Q (vI 9) h_18)
 (Q (vI 0) h_18))))))))
 (br (decide (((n3 : Nat) : Int) < i4))
 (Q (vI 30) h_4)
 (br (decide (((n3 : Nat) : Int) > i5))
 (Q (vI 30) h_4)
 (∃ (I_8 : Nat → Int → PHeap → Prop), (∃ (m24 : Nat), I_8 m24 (0 : Int) h_4) ∧
 ∀ (m23 : Nat) (i27 : Int) (h_19 : PHeap), I_8 m23 i27 h_19 →
 br (decide (i27 < ((n3 : Nat) : Int)))
 (∃ (b8 o9 : Nat), a3 = some ⟨b8, o9, none⟩ ∧ (0 ≤ i27 ∧ i27 < n3) ∧
 ∃ (i28 : Int) (l10 : Bs), h_19.row b8 (o9 + (i27).toNat * 2) [vI i28, vS l10] ∧
 br (!((i28 == 2) == c3))
 (Q (vI 30) h_19)
 (∃ (m25 : Nat), m25 < m23 ∧ I_8 m25 (IntKind.i64.wrap (i27 + 1)) h_19 ∧
 tv [vB c1, vB c2, vI i4, vI i5, vB c3, vF f1 x1 y1] ∧ True))
 (Tri Tryz.prog f1 (x1 ++ [vP p1 o1, vL a3 n3 k3] ++ y1) h_19 fun v_12 h_20 =>
 ∃ (i29 : Int), v_12 = vI i29 ∧
 br (i29 != 0)
 (Q (vI i29) h_20)
 (∃ (a18 : OA) (n18 k18 : Nat), h_20.cell p1 (o1 + 1) = some (vL a18 n18 k18) ∧
 br (decide (((n18 : Nat) : Int) > 1024))
 (Q (vI 9) h_20)
 (∃ (a19 : OA) (n19 k19 : Nat), h_20.cell p1 (o1 + 6) = some (vL a19 n19 k19) ∧
 br (decide (((n19 : Nat) : Int) > 4096))
 (Q (vI 9) h_20)
 (Q (vI 0) h_20)))))))))))
 (∃ (c12 : Bool), h_4.cell p1 (o1 + 7) = some (vB c12) ∧
 br (!c12)
 (br (!c1)
 (Q (vI 10) h_4)
 (br (l2 == [46, 101, 110, 116, 114, 121])
 (∃ (c13 : Bool), h_4.cell p1 (o1 + 8) = some (vB c13) ∧
 br c13
 (Q (vI 10) h_4)
 (br (l2 == [46, 122, 101, 114, 111])
 (∃ (c14 : Bool), h_4.cell p1 (o1 + 9) = some (vB c14) ∧
 br c14
 (Q (vI 10) h_4)
 (br (decide (((n3 : Nat) : Int) < i4))
 (Q (vI 30) h_4)
 (br (decide (((n3 : Nat) : Int) > i5))
 (Q (vI 30) h_4)
 (∃ (I_9 : Nat → Int → PHeap → Prop), (∃ (m27 : Nat), I_9 m27 (0 : Int) h_4) ∧
 ∀ (m26 : Nat) (i30 : Int) (h_21 : PHeap), I_9 m26 i30 h_21 →
 br (decide (i30 < ((n3 : Nat) : Int)))
 (∃ (b9 o10 : Nat), a3 = some ⟨b9, o10, none⟩ ∧ (0 ≤ i30 ∧ i30 < n3) ∧
 ∃ (i31 : Int) (l11 : Bs), h_21.row b9 (o10 + (i30).toNat * 2) [vI i31, vS l11] ∧
 br (!((i31 == 2) == c3))
 (Q (vI 30) h_21)
 (∃ (m28 : Nat), m28 < m26 ∧ I_9 m28 (IntKind.i64.wrap (i30 + 1)) h_21 ∧
 tv [vB c1, vB c2, vI i4, vI i5, vB c3, vF f1 x1 y1] ∧ True))
 (Tri Tryz.prog f1 (x1 ++ [vP p1 o1, vL a3 n3 k3] ++ y1) h_21 fun v_13 h_22 =>
 ∃ (i32 : Int), v_13 = vI i32 ∧
 br (i32 != 0)
 (Q (vI i32) h_22)
 (∃ (a20 : OA) (n20 k20 : Nat), h_22.cell p1 (o1 + 1) = some (vL a20 n20 k20) ∧
 br (decide (((n20 : Nat) : Int) > 1024))
 (Q (vI 9) h_22)
 (∃ (a21 : OA) (n21 k21 : Nat), h_22.cell p1 (o1 + 6) = some (vL a21 n21 k21) ∧
 br (decide (((n21 : Nat) : Int) > 4096))
 (Q (vI 9) h_22)
 (Q (vI 0) h_22))))))))
 (br (decide (((n3 : Nat) : Int) < i4))
 (Q (vI 30) h_4)
 (br (decide (((n3 : Nat) : Int) > i5))
 (Q (vI 30) h_4)
 (∃ (I_10 : Nat → Int → PHeap → Prop), (∃ (m30 : Nat), I_10 m30 (0 : Int) h_4) ∧
 ∀ (m29 : Nat) (i33 : Int) (h_23 : PHeap), I_10 m29 i33 h_23 →
 br (decide (i33 < ((n3 : Nat) : Int)))
 (∃ (b10 o11 : Nat), a3 = some ⟨b10, o11, none⟩ ∧ (0 ≤ i33 ∧ i33 < n3) ∧
 ∃ (i34 : Int) (l12 : Bs), h_23.row b10 (o11 + (i33).toNat * 2) [vI i34, vS l12] ∧
 br (!((i34 == 2) == c3))
 (Q (vI 30) h_23)
 (∃ (m31 : Nat), m31 < m29 ∧ I_10 m31 (IntKind.i64.wrap (i33 + 1)) h_23 ∧
 tv [vB c1, vB c2, vI i4, vI i5, vB c3, vF f1 x1 y1] ∧ True))
 (Tri Tryz.prog f1 (x1 ++ [vP p1 o1, vL a3 n3 k3] ++ y1) h_23 fun v_14 h_24 =>
 ∃ (i35 : Int), v_14 = vI i35 ∧
 br (i35 != 0)
 (Q (vI i35) h_24)
 (∃ (a22 : OA) (n22 k22 : Nat), h_24.cell p1 (o1 + 1) = some (vL a22 n22 k22) ∧
 br (decide (((n22 : Nat) : Int) > 1024))
 (Q (vI 9) h_24)
 (∃ (a23 : OA) (n23 k23 : Nat), h_24.cell p1 (o1 + 6) = some (vL a23 n23 k23) ∧
 br (decide (((n23 : Nat) : Int) > 4096))
 (Q (vI 9) h_24)
 (Q (vI 0) h_24)))))))))
 (br (l2 == [46, 122, 101, 114, 111])
 (∃ (c15 : Bool), h_4.cell p1 (o1 + 9) = some (vB c15) ∧
 br c15
 (Q (vI 10) h_4)
 (br (decide (((n3 : Nat) : Int) < i4))
 (Q (vI 30) h_4)
 (br (decide (((n3 : Nat) : Int) > i5))
 (Q (vI 30) h_4)
 (∃ (I_11 : Nat → Int → PHeap → Prop), (∃ (m33 : Nat), I_11 m33 (0 : Int) h_4) ∧
 ∀ (m32 : Nat) (i36 : Int) (h_25 : PHeap), I_11 m32 i36 h_25 →
 br (decide (i36 < ((n3 : Nat) : Int)))
 (∃ (b11 o12 : Nat), a3 = some ⟨b11, o12, none⟩ ∧ (0 ≤ i36 ∧ i36 < n3) ∧
 ∃ (i37 : Int) (l13 : Bs), h_25.row b11 (o12 + (i36).toNat * 2) [vI i37, vS l13] ∧
 br (!((i37 == 2) == c3))
 (Q (vI 30) h_25)
 (∃ (m34 : Nat), m34 < m32 ∧ I_11 m34 (IntKind.i64.wrap (i36 + 1)) h_25 ∧
 tv [vB c1, vB c2, vI i4, vI i5, vB c3, vF f1 x1 y1] ∧ True))
 (Tri Tryz.prog f1 (x1 ++ [vP p1 o1, vL a3 n3 k3] ++ y1) h_25 fun v_15 h_26 =>
 ∃ (i38 : Int), v_15 = vI i38 ∧
 br (i38 != 0)
 (Q (vI i38) h_26)
 (∃ (a24 : OA) (n24 k24 : Nat), h_26.cell p1 (o1 + 1) = some (vL a24 n24 k24) ∧
 br (decide (((n24 : Nat) : Int) > 1024))
 (Q (vI 9) h_26)
 (∃ (a25 : OA) (n25 k25 : Nat), h_26.cell p1 (o1 + 6) = some (vL a25 n25 k25) ∧
 br (decide (((n25 : Nat) : Int) > 4096))
 (Q (vI 9) h_26)
 (Q (vI 0) h_26))))))))
 (br (decide (((n3 : Nat) : Int) < i4))
 (Q (vI 30) h_4)
 (br (decide (((n3 : Nat) : Int) > i5))
 (Q (vI 30) h_4)
 (∃ (I_12 : Nat → Int → PHeap → Prop), (∃ (m36 : Nat), I_12 m36 (0 : Int) h_4) ∧
 ∀ (m35 : Nat) (i39 : Int) (h_27 : PHeap), I_12 m35 i39 h_27 →
 br (decide (i39 < ((n3 : Nat) : Int)))
 (∃ (b12 o13 : Nat), a3 = some ⟨b12, o13, none⟩ ∧ (0 ≤ i39 ∧ i39 < n3) ∧
 ∃ (i40 : Int) (l14 : Bs), h_27.row b12 (o13 + (i39).toNat * 2) [vI i40, vS l14] ∧
 br (!((i40 == 2) == c3))
 (Q (vI 30) h_27)
 (∃ (m37 : Nat), m37 < m35 ∧ I_12 m37 (IntKind.i64.wrap (i39 + 1)) h_27 ∧
 tv [vB c1, vB c2, vI i4, vI i5, vB c3, vF f1 x1 y1] ∧ True))
 (Tri Tryz.prog f1 (x1 ++ [vP p1 o1, vL a3 n3 k3] ++ y1) h_27 fun v_16 h_28 =>
 ∃ (i41 : Int), v_16 = vI i41 ∧
 br (i41 != 0)
 (Q (vI i41) h_28)
 (∃ (a26 : OA) (n26 k26 : Nat), h_28.cell p1 (o1 + 1) = some (vL a26 n26 k26) ∧
 br (decide (((n26 : Nat) : Int) > 1024))
 (Q (vI 9) h_28)
 (∃ (a27 : OA) (n27 k27 : Nat), h_28.cell p1 (o1 + 6) = some (vL a27 n27 k27) ∧
 br (decide (((n27 : Nat) : Int) > 4096))
 (Q (vI 9) h_28)
 (Q (vI 0) h_28))))))))))
 (br (l2 == [46, 101, 110, 116, 114, 121])
 (∃ (c16 : Bool), h_4.cell p1 (o1 + 8) = some (vB c16) ∧
 br c16
 (Q (vI 10) h_4)
 (br (l2 == [46, 122, 101, 114, 111])
 (∃ (c17 : Bool), h_4.cell p1 (o1 + 9) = some (vB c17) ∧
 br c17
 (Q (vI 10) h_4)
 (br (decide (((n3 : Nat) : Int) < i4))
 (Q (vI 30) h_4)
 (br (decide (((n3 : Nat) : Int) > i5))
 (Q (vI 30) h_4)
 (∃ (I_13 : Nat → Int → PHeap → Prop), (∃ (m39 : Nat), I_13 m39 (0 : Int) h_4) ∧
 ∀ (m38 : Nat) (i42 : Int) (h_29 : PHeap), I_13 m38 i42 h_29 →
 br (decide (i42 < ((n3 : Nat) : Int)))
 (∃ (b13 o14 : Nat), a3 = some ⟨b13, o14, none⟩ ∧ (0 ≤ i42 ∧ i42 < n3) ∧
 ∃ (i43 : Int) (l15 : Bs), h_29.row b13 (o14 + (i42).toNat * 2) [vI i43, vS l15] ∧
 br (!((i43 == 2) == c3))
 (Q (vI 30) h_29)
 (∃ (m40 : Nat), m40 < m38 ∧ I_13 m40 (IntKind.i64.wrap (i42 + 1)) h_29 ∧
 tv [vB c1, vB c2, vI i4, vI i5, vB c3, vF f1 x1 y1] ∧ True))
 (Tri Tryz.prog f1 (x1 ++ [vP p1 o1, vL a3 n3 k3] ++ y1) h_29 fun v_17 h_30 =>
 ∃ (i44 : Int), v_17 = vI i44 ∧
 br (i44 != 0)
 (Q (vI i44) h_30)
 (∃ (a28 : OA) (n28 k28 : Nat), h_30.cell p1 (o1 + 1) = some (vL a28 n28 k28) ∧
 br (decide (((n28 : Nat) : Int) > 1024))
 (Q (vI 9) h_30)
 (∃ (a29 : OA) (n29 k29 : Nat), h_30.cell p1 (o1 + 6) = some (vL a29 n29 k29) ∧
 br (decide (((n29 : Nat) : Int) > 4096))
 (Q (vI 9) h_30)
 (Q (vI 0) h_30))))))))
 (br (decide (((n3 : Nat) : Int) < i4))
 (Q (vI 30) h_4)
 (br (decide (((n3 : Nat) : Int) > i5))
 (Q (vI 30) h_4)
 (∃ (I_14 : Nat → Int → PHeap → Prop), (∃ (m42 : Nat), I_14 m42 (0 : Int) h_4) ∧
 ∀ (m41 : Nat) (i45 : Int) (h_31 : PHeap), I_14 m41 i45 h_31 →
 br (decide (i45 < ((n3 : Nat) : Int)))
 (∃ (b14 o15 : Nat), a3 = some ⟨b14, o15, none⟩ ∧ (0 ≤ i45 ∧ i45 < n3) ∧
 ∃ (i46 : Int) (l16 : Bs), h_31.row b14 (o15 + (i45).toNat * 2) [vI i46, vS l16] ∧
 br (!((i46 == 2) == c3))
 (Q (vI 30) h_31)
 (∃ (m43 : Nat), m43 < m41 ∧ I_14 m43 (IntKind.i64.wrap (i45 + 1)) h_31 ∧
 tv [vB c1, vB c2, vI i4, vI i5, vB c3, vF f1 x1 y1] ∧ True))
 (Tri Tryz.prog f1 (x1 ++ [vP p1 o1, vL a3 n3 k3] ++ y1) h_31 fun v_18 h_32 =>
 ∃ (i47 : Int), v_18 = vI i47 ∧
 br (i47 != 0)
 (Q (vI i47) h_32)
 (∃ (a30 : OA) (n30 k30 : Nat), h_32.cell p1 (o1 + 1) = some (vL a30 n30 k30) ∧
 br (decide (((n30 : Nat) : Int) > 1024))
 (Q (vI 9) h_32)
 (∃ (a31 : OA) (n31 k31 : Nat), h_32.cell p1 (o1 + 6) = some (vL a31 n31 k31) ∧
 br (decide (((n31 : Nat) : Int) > 4096))
 (Q (vI 9) h_32)
 (Q (vI 0) h_32)))))))))
 (br (l2 == [46, 122, 101, 114, 111])
 (∃ (c18 : Bool), h_4.cell p1 (o1 + 9) = some (vB c18) ∧
 br c18
 (Q (vI 10) h_4)
 (br (decide (((n3 : Nat) : Int) < i4))
 (Q (vI 30) h_4)
 (br (decide (((n3 : Nat) : Int) > i5))
 (Q (vI 30) h_4)
 (∃ (I_15 : Nat → Int → PHeap → Prop), (∃ (m45 : Nat), I_15 m45 (0 : Int) h_4) ∧
 ∀ (m44 : Nat) (i48 : Int) (h_33 : PHeap), I_15 m44 i48 h_33 →
 br (decide (i48 < ((n3 : Nat) : Int)))
 (∃ (b15 o16 : Nat), a3 = some ⟨b15, o16, none⟩ ∧ (0 ≤ i48 ∧ i48 < n3) ∧
 ∃ (i49 : Int) (l17 : Bs), h_33.row b15 (o16 + (i48).toNat * 2) [vI i49, vS l17] ∧
 br (!((i49 == 2) == c3))
 (Q (vI 30) h_33)
 (∃ (m46 : Nat), m46 < m44 ∧ I_15 m46 (IntKind.i64.wrap (i48 + 1)) h_33 ∧
 tv [vB c1, vB c2, vI i4, vI i5, vB c3, vF f1 x1 y1] ∧ True))
 (Tri Tryz.prog f1 (x1 ++ [vP p1 o1, vL a3 n3 k3] ++ y1) h_33 fun v_19 h_34 =>
 ∃ (i50 : Int), v_19 = vI i50 ∧
 br (i50 != 0)
 (Q (vI i50) h_34)
 (∃ (a32 : OA) (n32 k32 : Nat), h_34.cell p1 (o1 + 1) = some (vL a32 n32 k32) ∧
 br (decide (((n32 : Nat) : Int) > 1024))
 (Q (vI 9) h_34)
 (∃ (a33 : OA) (n33 k33 : Nat), h_34.cell p1 (o1 + 6) = some (vL a33 n33 k33) ∧
 br (decide (((n33 : Nat) : Int) > 4096))
 (Q (vI 9) h_34)
 (Q (vI 0) h_34))))))))
 (br (decide (((n3 : Nat) : Int) < i4))
 (Q (vI 30) h_4)
 (br (decide (((n3 : Nat) : Int) > i5))
 (Q (vI 30) h_4)
 (∃ (I_16 : Nat → Int → PHeap → Prop), (∃ (m48 : Nat), I_16 m48 (0 : Int) h_4) ∧
 ∀ (m47 : Nat) (i51 : Int) (h_35 : PHeap), I_16 m47 i51 h_35 →
 br (decide (i51 < ((n3 : Nat) : Int)))
 (∃ (b16 o17 : Nat), a3 = some ⟨b16, o17, none⟩ ∧ (0 ≤ i51 ∧ i51 < n3) ∧
 ∃ (i52 : Int) (l18 : Bs), h_35.row b16 (o17 + (i51).toNat * 2) [vI i52, vS l18] ∧
 br (!((i52 == 2) == c3))
 (Q (vI 30) h_35)
 (∃ (m49 : Nat), m49 < m47 ∧ I_16 m49 (IntKind.i64.wrap (i51 + 1)) h_35 ∧
 tv [vB c1, vB c2, vI i4, vI i5, vB c3, vF f1 x1 y1] ∧ True))
 (Tri Tryz.prog f1 (x1 ++ [vP p1 o1, vL a3 n3 k3] ++ y1) h_35 fun v_20 h_36 =>
 ∃ (i53 : Int), v_20 = vI i53 ∧
 br (i53 != 0)
 (Q (vI i53) h_36)
 (∃ (a34 : OA) (n34 k34 : Nat), h_36.cell p1 (o1 + 1) = some (vL a34 n34 k34) ∧
 br (decide (((n34 : Nat) : Int) > 1024))
 (Q (vI 9) h_36)
 (∃ (a35 : OA) (n35 k35 : Nat), h_36.cell p1 (o1 + 6) = some (vL a35 n35 k35) ∧
 br (decide (((n35 : Nat) : Int) > 4096))
 (Q (vI 9) h_36)
 (Q (vI 0) h_36))))))))))))))))
theorem T39 {p1 : Nat} {o1 : Nat} {l1 : Bs} {h : PHeap} {Q : Value → PHeap → Prop} (hR : R39 p1 o1 l1 h Q) : Tri Tryz.prog 39 [vP p1 o1, vS l1] h Q :=
 tri_of_dn mixed Tryz.func39 rfl (by kernel_rfl) low39 (rs := [.tmp 4]) (by kernel_rfl) rfl (Eq.mpr (by kernel_rfl : dnF Tryz.prog Tryz.f39.ntmps d39 [.tmp 4] [vP p1 o1, vS l1] h Q = R39 p1 o1 l1 h Q) hR)
end Go.Proofs.D
namespace Go.As
open Go Go.Den Go.Proofs.D
theorem get_labE : ∀ (ls : List Lb) (i : Nat) (k : Bytes), mapGet (labE i ls) k = (ls.find? fun l => l.name == k).map lbV
 | [], _, _ => rfl
 | l :: ls, i, k => by
   rw [labE, mapGet_cons, get_labE ls (i + 1) k, List.find?_cons]
   by_cases h : l.name = k
   · subst h; simp
   · have h1 : (k == l.name) = false := by simp; exact fun e => h e.symm
     have h2 : (l.name == k) = false := by simpa using h
     rw [h1, h2]; rfl
theorem set_labE : ∀ (ls : List Lb) (i : Nat) (l : Lb), (ls.any fun x => x.name == l.name) = false → mapSet l.name (lbV l) (i + ls.length) (labE i ls) = labE i (ls ++ [l])
 | [], i, l, _ => rfl
 | x :: ls, i, l, h => by
   simp only [List.any_cons, Bool.or_eq_false_iff] at h
   have h1 : (l.name == x.name) = false := by
    have := h.1
    simp at this ⊢; exact fun e => this e.symm
   have ih := set_labE ls (i + 1) l h.2
   rw [labE, mapSet, h1]
   simp only [Bool.false_eq_true, if_false, List.length_cons, List.cons_append, labE]
   rw [← ih, show i + (ls.length + 1) = i + 1 + ls.length by omega]
theorem labE_len : ∀ (ls : List Lb) (i : Nat), (labE i ls).length = ls.length
 | [], _ => rfl
 | l :: ls, i => by rw [labE, List.length_cons, List.length_cons, labE_len ls]
end Go.As
namespace Go.Proofs.D
open Go Go.Den Go.As
set_option maxRecDepth 100000
attribute [local irreducible] IntKind.wrap Tri
def StrAt (h : PHeap) (a : OA) (L : List Bytes) : Prop := L = [] ∨ ∃ b o, a = ad b o ∧ ∀ j l, L[j]? = some l → h.cell b (o + j) = some (vS l)
theorem StrAt.ext {h h' : PHeap} {a : OA} {L : List Bytes} (x : Ext h h') (hs : StrAt h a L) : StrAt h' a L := by
 rcases hs with hs | ⟨b, o, ha, hs⟩
 · exact .inl hs
 · exact .inr ⟨b, o, ha, fun j l hj => cell_ext (fun ob => x b ob) (hs j l hj)⟩
theorem LM.strs {h0 h : PHeap} {a : OA} {n k : Nat} {L : List Bytes} (hM : LM 9 1 h0 h a n k (sL L)) : StrAt h a L := by
 have hl := hM.len
 simp only [sL, List.length_map] at hl
 rcases hM.row.2 with ⟨h1, h2⟩ | ⟨b, cap, rest, h1, h2, _, _⟩
 · exact .inl (List.eq_nil_of_length_eq_zero (by omega))
 · injection h1 with h1 _ _
   refine .inr ⟨b, 0, h1, fun j t hj => ?_⟩
   have hcs : (sL L)[j]? = some [vS t] := by simp [sL, hj]
   have := flatten_row (k := 1) (css := sL L) (j := j) (cs := [vS t]) (fun i c hc => hM.each i c hc) hcs 0 (vS t) rfl
   rw [cell_of h2, Nat.zero_add, List.getElem?_append_left (by have := (List.getElem?_eq_some_iff.1 this).1; omega)]
   simpa using this
section
variable {hb h : PHeap} {p mS : Nat} {a : As.St} {K : AK}
theorem raw_lenMap {t ty : TypeId} {key elem : TypeId} {m : Nat} {es : Array MapEntry} {c : Nat} {ρ : Operand → Value} {cl : Call} {x : Operand} (hcl : cl.callee = .builtin .len) (hca : cl.args = #[x]) (hts : cl.argTypes = #[t]) (hu : Tryz.prog.underlying t = some (.map key elem))
 (hx : ρ x = vM m) (hm : h m = some (.map es c)) : Raw Tryz.prog (execOp ρ (mkO (.call cl) ty)) h fun v h' => v = vI (es.size : Int) ∧ h' = h := by
 intro w hs
 have hw := hs _ _ hm
 have hgo : (getObj m).run Tryz.prog w = .ok (.map es c) w := by simp [getObj, Sem.run, hw]
 refine ⟨_, _, w, h, ?_, .inl rfl, ⟨rfl, rfl⟩, hs, Keep.refl w h⟩
 simp [execOp, mkO, resolve, hcl, hca, hts, hx, invoke, builtin, Builtin.len_, run_underlying hu, hgo, goInt]
theorem ASK.putMap (hA : ASK hb h p mS a K) {ls : List Lb} {o : Obj} (ho : o = .map ⟨ents (labE 0 ls)⟩ ls.length) : ASK hb (h.put K.mb o) p mS { a with p := { a.p with labels := ls } } K := by
 subst ho
 refine ⟨fun q o hq => ?_, hA.new, by rw [put_ne (Ne.symm hA.mbp)]; exact hA.obj, hA.code.put hA.labs (notE_map _ _), hA.data.put hA.labs (notE_map _ _), hA.uses.put hA.labs (notE_map _ _), hA.useAt, hA.mnew, put_same _ _ _⟩
 rw [put_ne fun e => by subst e; rw [hA.mnew] at hq; cases hq]; exact hA.ext _ _ hq
theorem und71 : Tryz.prog.underlying 71 = some (.map 9 80) := rfl
theorem find_any {ls : List Lb} {k : Bytes} : ((ls.find? fun l => l.name == k).map lbV).isSome = ls.any fun l => l.name == k := by
 rw [Option.isSome_map, Bool.eq_iff_iff, List.find?_isSome, List.any_eq_true]
theorem lbV_is (o : Option Lb) : ∃ s b i, getD2 (vA [vS [], vB false, vI 0]) (o.map lbV) = vA [vS s, vB b, vI i] := by
 cases o with
 | none => exact ⟨_, _, _, rfl⟩
 | some l => exact ⟨_, _, _, rfl⟩
theorem define_t {a2 : OA} {k2 : Nat} {ls : List Bytes} (hA : AS hb h p mS a) (hS : StrAt hb a2 ls) (hl : ls.length ≤ 1000000) (hC : a.p.code.length ≤ 1000000) : Tri Tryz.prog 90 [vP p 0, vL a2 ls.length k2] h fun v h' => Res hb p mS a.line (defineS a ls) v h' := by
 refine T90 ?_
 unfold R90
 refine ⟨fun m i h' => ∃ (j : Nat) (a' : As.St), i = (j : Int) ∧ j + m = ls.length ∧ AS hb h' p mS a' ∧ a'.line = a.line ∧ a'.p.code = a.p.code ∧ defineS a ls = defineS a' (ls.drop j), ⟨ls.length, 0, a, rfl, by omega, hA, rfl, rfl, rfl⟩, ?_⟩
 rintro m _ h1 ⟨j, a', rfl, hjm, hA1, hline, hcode, hdf⟩
 refine br_split (fun e => ?_) fun e => ?_
 · have hlt : j < ls.length := by have := of_decide_eq_true e; omega
   have hdr := List.drop_eq_getElem_cons hlt
   have hg : ls[j]? = some ls[j] := by simp [hlt]
   rw [hdr] at hdf
   generalize ls[j] = s at *
   obtain ⟨b, o, ha, hr⟩ : ∃ b o, a2 = some ⟨b, o, none⟩ ∧ h1.cell b (o + j) = some (vS s) := by
    rcases hS.ext hA1.ext with rfl | ⟨b, o, ha, hs⟩
    · simp at hlt
    · exact ⟨b, o, ha, hs j s hg⟩
   refine ⟨b, o, ha, ⟨by omega, by omega⟩, _, (by rw [Int.toNat_natCast, Nat.mul_one]; exact hr), ?_⟩
   refine Tri.mono (label_t h1 s) ?_
   rintro _ h1 ⟨rfl, rfl⟩
   rw [defineS] at hdf
   refine ⟨_, rfl, br_split (fun e1 => ?_) fun e1 => ?_⟩
   · rw [if_pos (not_f e1)] at hdf
     have := res_err hdf (by decide) (Ext.refl _) hA1
     rw [hline] at this; exact this
   rw [if_neg (by rw [not_t e1]; decide)] at hdf
   have hA10 := hA1
   obtain ⟨K, hK⟩ := hA1
   refine ⟨_, (by rw [PA_cell hK.obj]; rfl), ?_⟩
   refine Raw.mono (raw_lookupS und71 rfl (z := vA [vS [], vB false, vI 0]) rfl rfl rfl hK.labs) ?_
   rintro _ h1 ⟨rfl, rfl⟩
   rw [get_labE]
   obtain ⟨s1, b1, i1, hv⟩ := lbV_is (a'.p.labels.find? fun l => l.name == s)
   simp only [if_true, find_any, hv]
   refine ⟨_, _, _, _, rfl, br_split (fun e2 => ?_) fun e2 => ?_⟩
   · rw [if_pos e2] at hdf
     have := res_err hdf (by decide) (Ext.refl _) hA10
     rw [hline] at this; exact this
   rw [if_neg (by rw [e2]; decide)] at hdf
   refine ⟨_, (by rw [PA_cell hK.obj]; rfl), ?_⟩
   refine Raw.mono (raw_lenMap rfl rfl rfl und71 rfl hK.labs) ?_
   rintro _ h1 ⟨rfl, rfl⟩
   have hsz : ((⟨ents (labE 0 a'.p.labels)⟩ : Array MapEntry).size : Int) = (a'.p.labels.length : Int) := by simp [ents, labE_len]
   rw [hsz]
   refine ⟨_, rfl, br_split (fun e3 => ?_) fun e3 => ?_⟩
   · have e3 := of_decide_eq_true e3
     rw [if_pos (by omega)] at hdf
     have := res_err hdf (by decide) (Ext.refl _) hA10
     rw [hline] at this; exact this
   have e3 := of_decide_eq_false e3
   rw [if_neg (by omega)] at hdf
   have hn1 : IntKind.i64.wrap ((j : Int) + 1) = ((j + 1 : Nat) : Int) := by rw [wrap64 (by omega) (by omega)]; omega
   have ins : ∀ (off : Int) (cl : PHeap → Value → Prop), off = (if a'.inData then (a'.p.data.length : Int) else (4 * a'.p.code.length : Nat)) →
    Raw Tryz.prog (execOp (rho [(61, vM K.mb), (62, vS s), (63, vA [vS s, vB a'.inData, vI off])]) (mkO o90_8 0)) h1 fun v_4 h_5 => v_4 = vT [] ∧
     ∃ (m6 : Nat), m6 < m ∧ (∃ (j' : Nat) (a'' : As.St), IntKind.i64.wrap ((j : Int) + 1) = (j' : Int) ∧ j' + m6 = ls.length ∧ AS hb h_5 p mS a'' ∧ a''.line = a.line ∧ a''.p.code = a.p.code ∧ defineS a ls = defineS a'' (ls.drop j')) ∧ True := by
    intro off _ hoff
    refine Raw.mono (raw_updS (x := vA [vS s, vB a'.inData, vI off]) (.inl rfl) und71 rfl rfl rfl rfl hK.labs) ?_
    rintro _ h2 ⟨rfl, ck, rfl, hck⟩
    have hnone : mapGet (labE 0 a'.p.labels) s = none := by
     rw [get_labE]
     have := e2
     rw [← find_any] at this
     simpa using this
    have hset := set_labE a'.p.labels 0 ⟨s, a'.inData, off⟩ e2
    rw [Nat.zero_add] at hset
    have hset2 : mapSet s (vA [vS s, vB a'.inData, vI off]) a'.p.labels.length (labE 0 a'.p.labels) = labE 0 (a'.p.labels ++ [⟨s, a'.inData, off⟩]) := hset
    rw [hset2, hck hnone]
    refine ⟨rfl, m - 1, by omega, ⟨j + 1, _, hn1, by omega, ⟨K, hK.putMap (ls := a'.p.labels ++ [⟨s, a'.inData, off⟩]) (by simp)⟩, hline, hcode, ?_⟩, trivial⟩
    rw [hdf, ← hoff]
   refine ⟨_, (by rw [PA_cell hK.obj]; rfl), _, _, _, (by rw [PA_cell hK.obj]; rfl), (by rw [PA_cell hK.obj]; rfl), (by rw [PA_cell hK.obj]; rfl), _, (by rw [PA_cell hK.obj]; rfl), br_split (fun e4 => ?_) fun e4 => ?_⟩
   · refine ⟨_, _, _, (by rw [PA_cell hK.obj]; rfl), _, (by rw [PA_cell hK.obj]; rfl), ?_⟩
     exact ins _ (fun _ _ => True) (by rw [if_pos e4])
   · refine ⟨_, (by rw [PA_cell hK.obj]; rfl), ?_⟩
     refine ins _ (fun _ _ => True) ?_
     rw [if_neg (by rw [e4]; decide), wrap64 (by rw [hcode]; omega) (by rw [hcode]; omega)]; omega
 · have hj : j = ls.length := by have := of_decide_eq_false e; omega
   subst hj
   rw [List.drop_length] at hdf
   rw [hdf]
   exact ⟨rfl, hb, Ext.refl _, hA1⟩
end
end Go.Proofs.D
namespace Go.Proofs.D
open Go Go.Den Go.As
set_option maxRecDepth 100000
attribute [local irreducible] IntKind.wrap Tri
theorem und69 : Tryz.prog.underlying 69 = some (.map 9 122) := rfl
def stV (c d : Bool) (lo hi : Int) (t : Bool) (f : Nat) (y : List Value) : Value := vA [vB c, vB d, vI lo, vI hi, vB t, vF f [] y]
def dirV (n : Bytes) : Option Value :=
 if n == dSpace then some (stV false true 1 1 false 83 []) else if n == dText then some (stV false true 1 1 true 82 []) else if n == dByte then some (stV false true 1 65536 false 81 [])
 else if n == dWord then some (stV false true 1 65536 false 80 []) else if n == dZero then some (stV true true 1 1 false 79 []) else if n == dEntry then some (stV true true 1 1 false 78 [])
 else if n == dData then some (stV true true 0 0 false 77 []) else if n == dCode then some (stV true true 0 0 false 76 []) else none
def opV (op c : Nat) : Value := stV true false (operandsN op) (operandsN op) false 85 [vP c 0]
def StGet (h : PHeap) (r : Option Value) (n : Bytes) : Prop :=
 match wordsB.findIdx? (· == n) with
 | some op => ∃ c, r = some (opV op c) ∧ h.cell c 0 = some (vI (op : Int))
 | none => r = dirV n
def StOk (h : PHeap) (mS : Nat) : Prop := ∃ L ck, h mS = some (.map ⟨ents L⟩ ck) ∧ ∀ n, StGet h (mapGet L n) n
theorem StOk.ext {h h' : PHeap} {mS : Nat} (x : Ext h h') (hs : StOk h mS) : StOk h' mS := by
 obtain ⟨L, ck, h1, h2⟩ := hs
 refine ⟨L, ck, x _ _ h1, fun n => ?_⟩
 have := h2 n
 unfold StGet at *
 cases hf : wordsB.findIdx? (· == n) with
 | none => rw [hf] at this; exact this
 | some op =>
   rw [hf] at this
   obtain ⟨c, h3, h4⟩ := this
   exact ⟨c, h3, cell_ext (fun ob => x c ob) h4⟩
theorem word_find (k : Nat) (hk : k < 27) : wordsB.findIdx? (· == wordT k) = some k := (word_all ⟨k, hk⟩).2.2.1
theorem find_word {n : Bytes} {op : Nat} (h : wordsB.findIdx? (· == n) = some op) : op < 27 ∧ wordT op = n := by
 rw [List.findIdx?_eq_some_iff_getElem] at h
 obtain ⟨h1, h2, _⟩ := h
 have h1' : op < 27 := h1
 refine ⟨h1', ?_⟩
 have h3 := eq_of_beq h2
 rw [← h3]
 unfold wordT
 rw [List.getD_eq_getElem?_getD, List.getElem?_eq_getElem h1]; rfl
def StP (h : PHeap) (m i : Nat) : Prop := ∃ L ck, h m = some (.map ⟨ents L⟩ ck) ∧ (∀ k, k < i → ∃ c, c ≠ m ∧ mapGet L (wordT k) = some (opV k c) ∧ h.cell c 0 = some (vI (k : Int))) ∧ ∀ n, (∀ k, k < i → wordT k ≠ n) → mapGet L n = dirV n
theorem word_inj {j k : Nat} (hj : j < 27) (hk : k < 27) (h : wordT j = wordT k) : j = k := by
 have h1 := word_find j hj
 rw [h, word_find k hk] at h1
 injection h1 with h1; exact h1.symm
theorem statements_t {h : PHeap} (hO : OpTab h) : Tri Tryz.prog 37 [] h fun v h' => ∃ m, v = vM m ∧ Ext h h' ∧ StOk h' m := by
 refine T37 ?_
 unfold R37
 refine Raw.mono (raw_makeMap (Q := fun v h' => ∃ m, v = vM m ∧ h m = none ∧ h' = h.put m (.map ⟨ents []⟩ 0)) fun b hb => ⟨b, rfl, hb, rfl⟩) ?_
 rintro _ h1 ⟨m, rfl, hm, rfl⟩
 refine ⟨m, rfl, ?_⟩
 have step : ∀ {h1 : PHeap} {L : List (Bytes × Value × Nat)} {ck : Nat} {C : PHeap → Prop} {op : Op} {ρ : Operand → Value} {k : Bytes} {x : Value} {mo ko vo : Operand}, (op = .mapUpdate 69 mo ko vo ∨ op = .insert 69 mo ko vo) → ρ mo = vM m → ρ ko = vS k → ρ vo = x → h1 m = some (.map ⟨ents L⟩ ck) →
  (∀ ck', C (h1.put m (.map ⟨ents (mapSet k x ck L)⟩ ck'))) → Raw Tryz.prog (execOp ρ (mkO op 0)) h1 fun v h2 => v = vT [] ∧ C h2 := by
  intro h1 L ck C op ρ k x mo ko vo hop h1' h2' h3' hh hC
  refine Raw.mono (raw_updS hop und69 rfl h1' h2' h3' hh) ?_
  rintro _ h2 ⟨rfl, ck', rfl, _⟩
  exact ⟨rfl, hC ck'⟩
 refine step (.inr rfl) rfl rfl rfl (put_same _ _ _) fun ck1 => ?_
 refine step (.inr rfl) rfl rfl rfl (put_same _ _ _) fun ck2 => ?_
 refine step (.inr rfl) rfl rfl rfl (put_same _ _ _) fun ck3 => ?_
 refine step (.inr rfl) rfl rfl rfl (put_same _ _ _) fun ck4 => ?_
 refine step (.inr rfl) rfl rfl rfl (put_same _ _ _) fun ck5 => ?_
 refine step (.inr rfl) rfl rfl rfl (put_same _ _ _) fun ck6 => ?_
 refine step (.inr rfl) rfl rfl rfl (put_same _ _ _) fun ck7 => ?_
 refine step (.inr rfl) rfl rfl rfl (put_same _ _ _) fun ck8 => ?_
 simp only [put_put]
 generalize hL : mapSet [46, 115, 112, 97, 99, 101] _ ck7 _ = L
 have hget : ∀ n, mapGet L n = dirV n := by
  intro n
  rw [← hL]
  simp only [mapGet_set]
  rfl
 refine ⟨fun mm i h' => ∃ j : Nat, i = (j : Int) ∧ j + mm = 27 ∧ Ext h h' ∧ StP h' m j, ⟨27, 0, rfl, by omega, Ext.put hm _, L, ck8, put_same _ _ _, fun k hk => absurd hk (Nat.not_lt_zero k), fun n _ => hget n⟩, ?_⟩
 rintro mm _ h1 ⟨j, rfl, hjm, hx, L, ck, hm1, hops, hdir⟩
 refine br_split (fun e => ?_) fun e => ?_
 · have hlt : j < 27 := by have := of_decide_eq_true e; omega
   intro b1 hb1 h2 hh2
   refine ⟨_, _, _, Put.at hh2, ⟨by simp, Nat.zero_le _⟩, ?_⟩
   intro h3 hh3
   have hh3' : h3 = h1.put b1 (.cells ⟨[vI (j : Int)]⟩ 3 (0, 0)) := by rw [hh3, hh2, put_put]; rfl
   clear hh3 hh2 h2
   have x3 := Put.ext hh3' hb1
   have hO3 := hO.ext (hx.trans x3)
   refine ⟨_, cell_of (Put.at hh3') 0, ?_⟩
   refine Tri.mono (nops_t h3 hO3 hlt) ?_
   rintro _ h3 ⟨rfl, rfl⟩
   refine ⟨_, rfl, _, cell_of (Put.at hh3') 0, ?_⟩
   refine Tri.mono (opword_t h3 hO3 hlt) ?_
   rintro _ h3 ⟨rfl, rfl⟩
   refine ⟨_, rfl, ?_⟩
   have hm3 : h3 m = some (.map ⟨ents L⟩ ck) := x3 _ _ hm1
   have hbm : b1 ≠ m := fun e => by subst e; rw [hb1] at hm1; cases hm1
   refine Raw.mono (raw_updS (x := opV j b1) (.inl rfl) und69 rfl rfl rfl rfl hm3) ?_
   rintro _ h4 ⟨rfl, ck', rfl, _⟩
   have hxm : Ext h (h3.put m (.map ⟨ents (mapSet (wordT j) (opV j b1) ck L)⟩ ck')) := fun q o hq => by
    rw [put_ne fun e => by subst e; rw [hm] at hq; cases hq]; exact (hx.trans x3) q o hq
   refine ⟨rfl, mm - 1, by omega, ⟨j + 1, ?_, by omega, hxm, _, ck', put_same _ _ _, fun k hk => ?_, fun n hn => ?_⟩, trivial⟩
   · rw [wrap64 (by omega) (by omega)]; omega
   · by_cases hkj : k = j
     · subst hkj
       refine ⟨b1, hbm, ?_, ?_⟩
       · rw [mapGet_set]; simp
       · rw [cell_eq (put_ne hbm)]; exact cell_of (Put.at hh3') 0
     · obtain ⟨c, c1, c2, c3⟩ := hops k (by omega)
       refine ⟨c, c1, ?_, ?_⟩
       · rw [mapGet_set, if_neg]
         · exact c2
         · intro he
           exact hkj (word_inj (by omega) hlt (by simpa using he))
       · rw [cell_eq (put_ne c1)]; exact cell_ext (fun ob => x3 c ob) c3
   · rw [mapGet_set, if_neg]
     · exact hdir n fun k hk => hn k (by omega)
     · intro he
       exact hn j (by omega) (by have : n = wordT j := by simpa using he
                                 exact this.symm)
 · have hj : j = 27 := by have := of_decide_eq_false e; omega
   subst hj
   refine ⟨m, rfl, hx, L, ck, hm1, fun n => ?_⟩
   unfold StGet
   cases hf : wordsB.findIdx? (· == n) with
   | some op =>
     obtain ⟨h1, h2⟩ := find_word hf
     obtain ⟨c, _, h3, h4⟩ := hops op h1
     rw [h2] at h3
     exact ⟨c, h3, h4⟩
   | none =>
     refine hdir n fun k hk he => ?_
     have := word_find k hk
     rw [he, hf] at this; cases this
end Go.Proofs.D
namespace Go.As
theorem do_ok {a a' : St} {n : Bytes} {l : List Tk} {c d t : Bool} {lo hi : Nat} {X : R St} (h : doS a n l c d lo hi t X = .ok a') : X = .ok a' ∧ a'.p.code.length ≤ 1024 ∧ a'.p.data.length ≤ 4096 ∧ ¬ (n = dEntry ∧ a.hasEntry = true) := by
 unfold doS at h
 split at h
 · cases h
 rename_i h1
 split at h
 · cases h
 split at h
 · cases h
 cases X with
 | error e => cases h
 | ok b =>
   have h : (if 1024 < b.p.code.length ∨ 4096 < b.p.data.length then (.error 9 : R St) else .ok b) = .ok a' := h
   split at h
   · cases h
   · injection h with h
     subst h
     refine ⟨rfl, by omega, by omega, ?_⟩
     rintro ⟨rfl, he⟩
     rw [he] at h1
     simp at h1
inductive StIs (a : St) (l : List Tk) : Bytes → Bool → Bool → Nat → Nat → Bool → R St → Prop where
 | op {n : Bytes} (op : Nat) (h : wordsB.findIdx? (· == n) = some op) : StIs a l n true false (operandsN op) (operandsN op) false (instrX a op l)
 | code : StIs a l dCode true true 0 0 false (.ok { a with inData := false })
 | data : StIs a l dData true true 0 0 false (.ok { a with inData := true })
 | entry : StIs a l dEntry true true 1 1 false (Go.Proofs.D.entryX a (l.getD 0 ⟨1, []⟩).text)
 | zero : StIs a l dZero true true 1 1 false (Go.Proofs.D.zeroX a (l.getD 0 ⟨1, []⟩).text)
 | word : StIs a l dWord false true 1 65536 false (wordsS a l)
 | byte : StIs a l dByte false true 1 65536 false (bytesS a l)
 | text : StIs a l dText false true 1 1 true (.ok { a with p := { a.p with data := a.p.data ++ (l.getD 0 ⟨1, []⟩).text } })
 | space : StIs a l dSpace false true 1 1 false (Go.Proofs.D.spaceX a (l.getD 0 ⟨1, []⟩).text)
theorem stmt_is {a : St} {n : Bytes} {l : List Tk} (ha : Lim a) (hl : l.length ≤ 65536) : (∃ c d lo hi t X, StIs a l n c d lo hi t X ∧ stmtS a n l = doS a n l c d lo hi t X) ∨ (wordsB.findIdx? (· == n) = none ∧ Go.Proofs.D.dirV n = none ∧ stmtS a n l = .error 11) := by
 cases hf : wordsB.findIdx? (· == n) with
 | some op => exact .inl ⟨_, _, _, _, _, _, .op op hf, stmt_op ha hf⟩
 | none =>
   by_cases h1 : n = dCode
   · subst h1; exact .inl ⟨_, _, _, _, _, _, .code, stmt_code ha⟩
   by_cases h2 : n = dData
   · subst h2; exact .inl ⟨_, _, _, _, _, _, .data, stmt_data ha⟩
   by_cases h3 : n = dEntry
   · subst h3; exact .inl ⟨_, _, _, _, _, _, .entry, stmt_entry ha⟩
   by_cases h4 : n = dZero
   · subst h4; exact .inl ⟨_, _, _, _, _, _, .zero, stmt_zero ha⟩
   by_cases h5 : n = dWord
   · subst h5; exact .inl ⟨_, _, _, _, _, _, .word, stmt_words ha hl⟩
   by_cases h6 : n = dByte
   · subst h6; exact .inl ⟨_, _, _, _, _, _, .byte, stmt_bytes ha hl⟩
   by_cases h7 : n = dText
   · subst h7; exact .inl ⟨_, _, _, _, _, _, .text, stmt_text ha⟩
   by_cases h8 : n = dSpace
   · subst h8; exact .inl ⟨_, _, _, _, _, _, .space, stmt_space ha⟩
   refine .inr ⟨rfl, ?_, ?_⟩
   · unfold Go.Proofs.D.dirV
     simp only [beq_iff_eq, if_neg h1, if_neg h2, if_neg h3, if_neg h4, if_neg h5, if_neg h6, if_neg h7, if_neg h8]
   · unfold stmtS
     rw [hf]
     simp only [if_neg (show ¬ (n = dCode ∨ n = dData) by rintro (h | h); exact h1 h; exact h2 h), if_neg h3, if_neg h4, if_neg (show ¬ (n = dWord ∨ n = dByte ∨ n = dText ∨ n = dSpace) by rintro (h | h | h | h); exact h5 h; exact h6 h; exact h7 h; exact h8 h)]
theorem StIs.lim {a a' : St} {n : Bytes} {l : List Tk} {c d t : Bool} {lo hi : Nat} {X : R St} (hS : StIs a l n c d lo hi t X) (ha : Lim a) (hX : X = .ok a') (h1 : a'.p.code.length ≤ 1024) (h2 : a'.p.data.length ≤ 4096) (h3 : ¬ (n = dEntry ∧ a.hasEntry = true)) : Lim a' ∧ a'.line = a.line := by
 have hu := ha.uses
 cases hS with
 | op op hf =>
   obtain ⟨g1, g2, g3, g4, g5, g6⟩ := instrX_ok hX
   exact ⟨⟨h1, h2, by rw [g3]; exact ha.labels, by rw [g1, g2, g4]; omega⟩, g5⟩
 | code => injection hX with hX; subst hX; exact ⟨⟨ha.code, ha.data, ha.labels, ha.uses⟩, rfl⟩
 | data => injection hX with hX; subst hX; exact ⟨⟨ha.code, ha.data, ha.labels, ha.uses⟩, rfl⟩
 | entry =>
   unfold Go.Proofs.D.entryX at hX
   obtain ⟨x, hv, hX⟩ := bind_ok hX
   have := Go.Proofs.D.val_fst hv
   injection hX with hX; subst hX
   have he : a.hasEntry = false := by
    cases e : a.hasEntry with
    | false => rfl
    | true => exact absurd ⟨rfl, e⟩ h3
   rw [he] at hu
   refine ⟨⟨ha.code, ha.data, ha.labels, ?_⟩, rfl⟩
   simp at hu ⊢; omega
 | zero =>
   unfold Go.Proofs.D.zeroX at hX
   obtain ⟨x, hv, hX⟩ := bind_ok hX
   injection hX with hX; subst hX
   exact ⟨⟨ha.code, ha.data, ha.labels, ha.uses⟩, rfl⟩
 | word =>
   obtain ⟨g1, g2, g3, g4, g5⟩ := words_code _ _ _ hX
   refine ⟨⟨h1, h2, by rw [g2]; exact ha.labels, ?_⟩, g4⟩
   rw [g1, g3]; omega
 | byte =>
   obtain ⟨g1, g2, g3, g4, g5, g6⟩ := bytes_code _ _ _ hX
   refine ⟨⟨h1, h2, by rw [g2]; exact ha.labels, ?_⟩, g4⟩
   rw [g1, g3, g5]; omega
 | text =>
   injection hX with hX; subst hX
   refine ⟨⟨h1, h2, ha.labels, ?_⟩, rfl⟩
   simp; omega
 | space =>
   unfold Go.Proofs.D.spaceX at hX
   obtain ⟨x, hv, hX⟩ := bind_ok hX
   injection hX with hX; subst hX
   refine ⟨⟨h1, h2, ha.labels, ?_⟩, rfl⟩
   simp; omega
theorem StIs.line {a a' : St} {n : Bytes} {l : List Tk} {c d t : Bool} {lo hi : Nat} {X : R St} (hS : StIs a l n c d lo hi t X) (hX : X = .ok a') : a'.line = a.line := by
 cases hS with
 | op op hf => exact (instrX_ok hX).2.2.2.2.1
 | code => injection hX with hX; subst hX; rfl
 | data => injection hX with hX; subst hX; rfl
 | entry =>
   unfold Go.Proofs.D.entryX at hX
   obtain ⟨x, hv, hX⟩ := bind_ok hX
   injection hX with hX; subst hX; rfl
 | zero =>
   unfold Go.Proofs.D.zeroX at hX
   obtain ⟨x, hv, hX⟩ := bind_ok hX
   injection hX with hX; subst hX; rfl
 | word => exact (words_code _ _ _ hX).2.2.2.1
 | byte => exact (bytes_code _ _ _ hX).2.2.2.1
 | text => injection hX with hX; subst hX; rfl
 | space =>
   unfold Go.Proofs.D.spaceX at hX
   obtain ⟨x, hv, hX⟩ := bind_ok hX
   injection hX with hX; subst hX; rfl
theorem define_lim : ∀ (ls : List Bytes) (a a' : St), Lim a → defineS a ls = .ok a' → Lim a' ∧ a'.line = a.line
 | [], a, a', ha, h => by simp [defineS] at h; subst h; exact ⟨ha, rfl⟩
 | n :: ls, a, a', ha, h => by
   rw [defineS] at h
   split at h
   · cases h
   split at h
   · cases h
   split at h
   · cases h
   have hd := fun hL => define_lim ls _ a' hL h
   refine hd ⟨ha.code, ha.data, ?_, ha.uses⟩
   simp only [List.length_append, List.length_cons, List.length_nil]; omega
theorem line_lim {a a' : St} {s : Bytes} (ha : Lim a) (hs : s.length ≤ 65536) (h : lineS a s = .ok a') : Lim a' ∧ a'.line = a.line := by
 unfold lineS at h
 split at h
 · cases h
 rename_i ts ht
 split at h
 · cases h
 · rename_i ls hsp
   exact define_lim ls a a' ha h
 · rename_i ls n os hsp
   obtain ⟨b, hb, h⟩ := bind_ok h
   obtain ⟨h1, h2⟩ := define_lim ls a b ha hb
   have hol : os.length ≤ 65536 := by
    have hc : ∀ (f : Nat) (s : Bytes) (ts : List Tk), tokensS f s = some ts → ts.length ≤ s.length := by
     intro f
     induction f with
     | zero => intro s ts h; simp [tokensS] at h
     | succ f ih =>
       intro s ts h
       match s, h with
       | [], h => simp [tokensS] at h; subst h; simp
       | c :: r, h =>
         have r1 : ∀ {s' : Bytes} {k : Tk} {x : Option (List Tk)}, s'.length ≤ r.length → x = tokensS f s' → (x.map fun l => k :: l) = some ts → ts.length ≤ (c :: r).length := fun {s' k x} hl hx he => by
          subst hx
          simp only [Option.map_eq_some_iff] at he
          obtain ⟨l, h1, rfl⟩ := he
          have := ih _ _ h1
          simp; omega
         rw [tokensS] at h
         split at h
         · simp at h; subst h; simp
         split at h
         · have := ih _ _ h; simp; omega
         split at h
         · exact r1 (Nat.le_refl _) rfl h
         split at h
         · exact r1 (Nat.le_refl _) rfl h
         split at h
         · split at h
           · cases h
           · rename_i x r' hu
             have := unq_len hu
             exact r1 (by omega) rfl h
         split at h
         · rename_i hw
           have hd : (c :: r).dropWhile wordB = r.dropWhile wordB := by simp [List.dropWhile, hw]
           rw [hd] at h
           exact r1 (drop_len r) rfl h
         · cases h
    have := (split_sub ts ls _ hsp).2 n os rfl
    have := hc _ _ _ ht
    omega
   rcases stmt_is (n := n) h1 hol with ⟨c, d, lo, hi, t, X, hS, he⟩ | ⟨_, _, he⟩
   · rw [he] at h
     obtain ⟨g1, g2, g3, g4⟩ := do_ok h
     obtain ⟨k1, k2⟩ := hS.lim h1 g1 g2 g3 g4
     exact ⟨k1, k2.trans h2⟩
   · rw [he] at h; cases h
end Go.As
namespace Go.Proofs.D
open Go Go.Den Go.As
set_option maxRecDepth 100000
attribute [local irreducible] IntKind.wrap Tri
section
variable {hb h : PHeap} {p mS : Nat} {a : As.St}
def tail39 (p1 o1 : Nat) (a3 : OA) (n3 k3 : Nat) (c1 c2 : Bool) (i4 i5 : Int) (c3 : Bool) (f1 : Nat) (x1 y1 : List Value) (h_4 : PHeap) (Q : Value → PHeap → Prop) : Prop :=
 (br (decide (((n3 : Nat) : Int) < i4))
 (Q (vI 30) h_4)
 (br (decide (((n3 : Nat) : Int) > i5))
 (Q (vI 30) h_4)
 (∃ (I_1 : Nat → Int → PHeap → Prop), (∃ (m3 : Nat), I_1 m3 (0 : Int) h_4) ∧
 ∀ (m2 : Nat) (i6 : Int) (h_5 : PHeap), I_1 m2 i6 h_5 →
 br (decide (i6 < ((n3 : Nat) : Int)))
 (∃ (b1 o2 : Nat), a3 = some ⟨b1, o2, none⟩ ∧ (0 ≤ i6 ∧ i6 < n3) ∧
 ∃ (i7 : Int) (l3 : Bs), h_5.row b1 (o2 + (i6).toNat * 2) [vI i7, vS l3] ∧
 br (!((i7 == 2) == c3))
 (Q (vI 30) h_5)
 (∃ (m4 : Nat), m4 < m2 ∧ I_1 m4 (IntKind.i64.wrap (i6 + 1)) h_5 ∧
 tv [vB c1, vB c2, vI i4, vI i5, vB c3, vF f1 x1 y1] ∧ True))
 (Tri Tryz.prog f1 (x1 ++ [vP p1 o1, vL a3 n3 k3] ++ y1) h_5 fun v_5 h_6 =>
 ∃ (i8 : Int), v_5 = vI i8 ∧
 br (i8 != 0)
 (Q (vI i8) h_6)
 (∃ (a4 : OA) (n4 k4 : Nat), h_6.cell p1 (o1 + 1) = some (vL a4 n4 k4) ∧
 br (decide (((n4 : Nat) : Int) > 1024))
 (Q (vI 9) h_6)
 (∃ (a5 : OA) (n5 k5 : Nat), h_6.cell p1 (o1 + 6) = some (vL a5 n5 k5) ∧
 br (decide (((n5 : Nat) : Int) > 4096))
 (Q (vI 9) h_6)
 (Q (vI 0) h_6)))))))
def mid39 (l2 : Bs) (p1 o1 : Nat) (a3 : OA) (n3 k3 : Nat) (c1 c2 : Bool) (i4 i5 : Int) (c3 : Bool) (f1 : Nat) (x1 y1 : List Value) (h_4 : PHeap) (Q : Value → PHeap → Prop) : Prop :=
 (br (l2 == [46, 101, 110, 116, 114, 121])
 (∃ (c6 : Bool), h_4.cell p1 (o1 + 8) = some (vB c6) ∧
 br c6
 (Q (vI 10) h_4)
 (br (l2 == [46, 122, 101, 114, 111])
 (∃ (c7 : Bool), h_4.cell p1 (o1 + 9) = some (vB c7) ∧
 br c7
 (Q (vI 10) h_4)
 (tail39 p1 o1 a3 n3 k3 c1 c2 i4 i5 c3 f1 x1 y1 h_4 Q))
 (tail39 p1 o1 a3 n3 k3 c1 c2 i4 i5 c3 f1 x1 y1 h_4 Q)))
 (br (l2 == [46, 122, 101, 114, 111])
 (∃ (c7 : Bool), h_4.cell p1 (o1 + 9) = some (vB c7) ∧
 br c7
 (Q (vI 10) h_4)
 (tail39 p1 o1 a3 n3 k3 c1 c2 i4 i5 c3 f1 x1 y1 h_4 Q))
 (tail39 p1 o1 a3 n3 k3 c1 c2 i4 i5 c3 f1 x1 y1 h_4 Q)))
def top39 (l2 : Bs) (p1 o1 : Nat) (a3 : OA) (n3 k3 : Nat) (c1 c2 : Bool) (i4 i5 : Int) (c3 : Bool) (f1 : Nat) (x1 y1 : List Value) (h_4 : PHeap) (Q : Value → PHeap → Prop) : Prop :=
 ∃ (c4 : Bool), h_4.cell p1 (o1 + 7) = some (vB c4) ∧
 br c4
 (br (!c2)
 (Q (vI 10) h_4)
 (∃ (c5 : Bool), h_4.cell p1 (o1 + 7) = some (vB c5) ∧
 br (!c5)
 (br (!c1)
 (Q (vI 10) h_4)
 (mid39 l2 p1 o1 a3 n3 k3 c1 c2 i4 i5 c3 f1 x1 y1 h_4 Q))
 (mid39 l2 p1 o1 a3 n3 k3 c1 c2 i4 i5 c3 f1 x1 y1 h_4 Q)))
 (∃ (c12 : Bool), h_4.cell p1 (o1 + 7) = some (vB c12) ∧
 br (!c12)
 (br (!c1)
 (Q (vI 10) h_4)
 (mid39 l2 p1 o1 a3 n3 k3 c1 c2 i4 i5 c3 f1 x1 y1 h_4 Q))
 (mid39 l2 p1 o1 a3 n3 k3 c1 c2 i4 i5 c3 f1 x1 y1 h_4 Q))
theorem do_ten {n : Bytes} {l : List Tk} {c d t : Bool} {lo hi : Nat} {X : As.R As.St} (h : ((a.inData && !d) || (!a.inData && !c) || (n == dEntry && a.hasEntry) || (n == dZero && a.hasZero)) = true) : doS a n l c d lo hi t X = .error 10 := by
 unfold doS; rw [if_pos h]
theorem res_base {hb' : PHeap} {line : Nat} {r : As.R As.St} {v : Value} {h' : PHeap} (x : Ext hb hb') (hR : Res hb' p mS line r v h') : Res hb p mS line r v h' := by
 cases r with
 | error e => exact ⟨hR.1, hR.2.1, x.trans hR.2.2.1, hR.2.2.2⟩
 | ok a' =>
   obtain ⟨h1, hb2, h2, h3⟩ := hR
   exact ⟨h1, hb2, x.trans h2, h3⟩
theorem tail_39 {n : Bytes} {os : List Tk} {a3 : OA} {k3 : Nat} {c d t : Bool} {lo hi f : Nat} {y : List Value} {X : As.R As.St} {Q : Value → PHeap → Prop} (hQ : ∀ v h', Res hb p mS a.line (doS a n os c d lo hi t X) v h' → Q v h') (hA : AS hb h p mS a) (hT : TkAt hb a3 os) (hlen : os.length ≤ 1000000) (hline : ∀ a', X = .ok a' → a'.line = a.line)
 (hok : ((a.inData && !d) || (!a.inData && !c) || (n == dEntry && a.hasEntry) || (n == dZero && a.hasZero)) = false)
 (hP : lo ≤ os.length → os.length ≤ hi → (os.all fun k => decide (k.kind = 2) == t) = true → Tri Tryz.prog f ([vP p 0, vL a3 os.length k3] ++ y) h fun v h' => Res hb p mS a.line X v h') :
 tail39 p 0 a3 os.length k3 c d (lo : Int) (hi : Int) t f [] y h Q := by
 unfold tail39
 have h0 : ¬ (((a.inData && !d) || (!a.inData && !c) || (n == dEntry && a.hasEntry) || (n == dZero && a.hasZero)) = true) := by rw [hok]; decide
 have e30 : (os.length < lo ∨ hi < os.length) ∨ (os.all fun k => decide (k.kind = 2) == t) = false → ∀ h1, AS hb h1 p mS a → Res hb p mS a.line (doS a n os c d lo hi t X) (vI 30) h1 := fun hc h1 hA1 => by
  refine res_err (e := 30) ?_ (by decide) (Ext.refl _) hA1
  unfold doS
  rw [if_neg h0]
  by_cases h1 : os.length < lo ∨ hi < os.length
  · rw [if_pos h1]
  · rw [if_neg h1, if_pos (hc.resolve_left h1)]
 refine br_split (fun e => hQ _ _ (e30 (.inl (.inl (by have := of_decide_eq_true e; omega))) h hA)) fun e1 => br_split (fun e => hQ _ _ (e30 (.inl (.inr (by have := of_decide_eq_true e; omega))) h hA)) fun e2 => ?_
 have e1 := of_decide_eq_false e1
 have e2 := of_decide_eq_false e2
 refine ⟨fun m i h' => ∃ j : Nat, i = (j : Int) ∧ j + m = os.length ∧ h' = h ∧ ((os.take j).all fun k => decide (k.kind = 2) == t) = true, ⟨os.length, 0, rfl, by omega, rfl, by simp⟩, ?_⟩
 rintro m _ h1 ⟨j, rfl, hjm, rfl, hall⟩
 refine br_split (fun e => ?_) fun e => ?_
 · have hlt : j < os.length := by have := of_decide_eq_true e; omega
   have hg : os[j]? = some os[j] := by simp [hlt]
   have htk := List.take_append_getElem hlt
   have hmem := List.getElem_mem hlt
   generalize os[j] = u at *
   obtain ⟨b, o, ha, hr⟩ := (hT.ext hA.ext).get hg
   have hk : (((u.kind : Nat) : Int) == 2) = decide (u.kind = 2) := by rw [Bool.eq_iff_iff]; simp; omega
   refine ⟨b, o, ha, ⟨by omega, by omega⟩, _, _, (by rw [Int.toNat_natCast]; exact hr), ?_⟩
   rw [hk]
   refine br_split (fun e3 => hQ _ _ (e30 (.inr ?_) h1 hA)) fun e3 => ⟨m - 1, by omega, ⟨j + 1, ?_, by omega, rfl, ?_⟩, rfl, trivial⟩
   · rw [List.all_eq_false]
     exact ⟨u, hmem, by rw [not_f e3]; decide⟩
   · rw [wrap64 (by omega) (by omega)]; omega
   · rw [← htk, List.all_append, hall]
     simp only [List.all_cons, List.all_nil, Bool.and_true, Bool.true_and]
     exact not_t e3
 · have hj : j = os.length := by have := of_decide_eq_false e; omega
   subst hj
   rw [List.take_length] at hall
   refine Tri.mono (hP (by omega) (by omega) hall) ?_
   intro v h2 hR
   have hdo : doS a n os c d lo hi t X = X >>= fun a' => if 1024 < a'.p.code.length ∨ 4096 < a'.p.data.length then .error 9 else .ok a' := by
    unfold doS
    rw [if_neg h0, if_neg (by omega), if_neg (by rw [hall]; decide)]
   rw [hdo] at hQ
   cases hX : X with
   | error e =>
     rw [hX] at hR
     obtain ⟨rfl, g1, g2, g3⟩ := hR
     exact ⟨_, rfl, br_pos (by simp; omega) (hQ _ _ (by rw [hX]; exact ⟨rfl, g1, g2, g3⟩))⟩
   | ok a' =>
     rw [hX] at hR hQ
     obtain ⟨rfl, hb', hbx, hA'⟩ := hR
     have hl := hline a' hX
     show ∃ i8 : Int, _
     by_cases h9 : 1024 < a'.p.code.length ∨ 4096 < a'.p.data.length
     · have nine : Res hb p mS a.line ((.ok a' : As.R As.St) >>= fun a' => if 1024 < a'.p.code.length ∨ 4096 < a'.p.data.length then .error 9 else .ok a') (vI 9) h2 := by
        refine res_base hbx ?_
        rw [← hl]
        refine res_err (e := 9) ?_ (by decide) (Ext.refl _) hA'
        show (if 1024 < a'.p.code.length ∨ 4096 < a'.p.data.length then (.error 9 : As.R As.St) else .ok a') = .error 9
        rw [if_pos h9]
       obtain ⟨K, hK⟩ := hA'
       refine ⟨_, rfl, br_neg rfl ⟨_, _, _, (by rw [PA_cell hK.obj]; rfl), br_split (fun _ => hQ _ _ nine) fun e1 => ⟨_, _, _, (by rw [PA_cell hK.obj]; rfl), br_split (fun _ => hQ _ _ nine) fun e2 => ?_⟩⟩⟩
       have := of_decide_eq_false e1
       have := of_decide_eq_false e2
       omega
     · obtain ⟨K, hK⟩ := hA'
       refine ⟨_, rfl, br_neg rfl ⟨_, _, _, (by rw [PA_cell hK.obj]; rfl), br_neg (by simp; omega) ⟨_, _, _, (by rw [PA_cell hK.obj]; rfl), br_neg (by simp; omega) ?_⟩⟩⟩
       refine hQ _ _ ?_
       show Res hb p mS a.line (if 1024 < a'.p.code.length ∨ 4096 < a'.p.data.length then (.error 9 : As.R As.St) else .ok a') (vI 0) h2
       rw [if_neg h9]
       exact ⟨rfl, hb', hbx, K, hK⟩
theorem mid_39 {n : Bytes} {os : List Tk} {a3 : OA} {k3 : Nat} {c d t : Bool} {lo hi f : Nat} {y : List Value} {X : As.R As.St} {Q : Value → PHeap → Prop} (hQ : ∀ v h', Res hb p mS a.line (doS a n os c d lo hi t X) v h' → Q v h') (hA : AS hb h p mS a) (hT : TkAt hb a3 os) (hlen : os.length ≤ 1000000) (hline : ∀ a', X = .ok a' → a'.line = a.line)
 (hok : ((a.inData && !d) || (!a.inData && !c)) = false)
 (hP : lo ≤ os.length → os.length ≤ hi → (os.all fun k => decide (k.kind = 2) == t) = true → Tri Tryz.prog f ([vP p 0, vL a3 os.length k3] ++ y) h fun v h' => Res hb p mS a.line X v h') :
 mid39 n p 0 a3 os.length k3 c d (lo : Int) (hi : Int) t f [] y h Q := by
 unfold mid39
 have hA0 := hA
 obtain ⟨K, hK⟩ := hA
 have ten : ((n == dEntry && a.hasEntry) || (n == dZero && a.hasZero)) = true → Res hb p mS a.line (doS a n os c d lo hi t X) (vI 10) h := fun e =>
  res_err (e := 10) (do_ten (by rw [Bool.or_assoc, hok, Bool.false_or]; exact e)) (by decide) (Ext.refl _) hA0
 have tl : (n == dEntry && a.hasEntry) = false → (n == dZero && a.hasZero) = false → tail39 p 0 a3 os.length k3 c d (lo : Int) (hi : Int) t f [] y h Q := fun e1 e2 =>
  tail_39 hQ hA0 hT hlen hline (by rw [hok, e1, e2]; rfl) hP
 have z : (n == dEntry && a.hasEntry) = false → (br (n == [46, 122, 101, 114, 111])
  (∃ (c7 : Bool), h.cell p (0 + 9) = some (vB c7) ∧
  br c7
  (Q (vI 10) h)
  (tail39 p 0 a3 os.length k3 c d (lo : Int) (hi : Int) t f [] y h Q))
  (tail39 p 0 a3 os.length k3 c d (lo : Int) (hi : Int) t f [] y h Q)) := fun e1 => by
  refine br_split (fun e => ?_) fun e => ?_
  · have e : (n == dZero) = true := e
    refine ⟨a.hasZero, (by rw [PA_cell hK.obj]; rfl), br_split (fun e3 => hQ _ _ (ten (by rw [e, e3]; simp))) fun e3 => tl e1 (by rw [e3]; simp)⟩
  · have e : (n == dZero) = false := e
    exact tl e1 (by rw [e]; rfl)
 refine br_split (fun e => ?_) fun e => ?_
 · have e : (n == dEntry) = true := e
   refine ⟨a.hasEntry, (by rw [PA_cell hK.obj]; rfl), br_split (fun e3 => hQ _ _ (ten (by rw [e, e3]; simp))) fun e3 => z (by rw [e3]; simp)⟩
 · have e : (n == dEntry) = false := e
   exact z (by rw [e]; rfl)
theorem top_39 {n : Bytes} {os : List Tk} {a3 : OA} {k3 : Nat} {c d t : Bool} {lo hi f : Nat} {y : List Value} {X : As.R As.St} {Q : Value → PHeap → Prop} (hQ : ∀ v h', Res hb p mS a.line (doS a n os c d lo hi t X) v h' → Q v h') (hA : AS hb h p mS a) (hT : TkAt hb a3 os) (hlen : os.length ≤ 1000000) (hline : ∀ a', X = .ok a' → a'.line = a.line)
 (hP : lo ≤ os.length → os.length ≤ hi → (os.all fun k => decide (k.kind = 2) == t) = true → Tri Tryz.prog f ([vP p 0, vL a3 os.length k3] ++ y) h fun v h' => Res hb p mS a.line X v h') :
 top39 n p 0 a3 os.length k3 c d (lo : Int) (hi : Int) t f [] y h Q := by
 unfold top39
 have hA0 := hA
 obtain ⟨K, hK⟩ := hA
 have ten : ((a.inData && !d) || (!a.inData && !c)) = true → Res hb p mS a.line (doS a n os c d lo hi t X) (vI 10) h := fun e =>
  res_err (e := 10) (do_ten (by rw [e]; rfl)) (by decide) (Ext.refl _) hA0
 have md : ((a.inData && !d) || (!a.inData && !c)) = false → _ := fun e => mid_39 (n := n) hQ hA0 hT hlen hline e hP
 have c7 : h.cell p (0 + 7) = some (vB a.inData) := by rw [PA_cell hK.obj]; rfl
 refine ⟨a.inData, c7, br_split (fun e => br_split (fun e1 => hQ _ _ (ten (by rw [e, e1]; rfl))) fun e1 => ⟨a.inData, c7, br_neg (by rw [e]; rfl) (md (by rw [e, e1]; rfl))⟩) fun e => ⟨a.inData, c7, br_pos (by rw [e]; rfl) (br_split (fun e1 => hQ _ _ (ten (by rw [e, e1]; rfl))) fun e1 => md (by rw [e, e1]; rfl))⟩⟩
theorem perform_t {n : Bytes} {os : List Tk} {a3 : OA} {k3 : Nat} {c d t : Bool} {lo hi : Nat} {X : As.R As.St} {r : Option Value} (hA : AS hb h p mS a) (hO : OpTab hb) (hSt : StIs a os n c d lo hi t X) (hg : StGet hb r n) (ha : Lim a)
 (hT : TkAt hb a3 os) (hk3 : os.length ≤ k3) (hok3 : okA a3 os.length k3) (hl : ∀ t ∈ os, t.text.length ≤ 1000000) (hn : os.length ≤ 65536) :
 ∃ f y, r = some (stV c d lo hi t f y) ∧ (lo ≤ os.length → os.length ≤ hi → Tri Tryz.prog f ([vP p 0, vL a3 os.length k3] ++ y) h fun v h' => Res hb p mS a.line X v h') := by
 have h1 := ha.code
 have h2 := ha.data
 have h3 : a.uses.length ≤ 1000000 := by have := ha.uses; have : a.hasEntry.toNat ≤ 1 := by cases a.hasEntry <;> decide
                                         omega
 have one : ∀ {P : List Tk → Prop}, (∀ t : Tk, os = [t] → P [t]) → 1 ≤ os.length → os.length ≤ 1 → P os := fun hP g1 g2 => by
  match os, g1, g2, hP with
  | [], g1, _, _ => simp at g1
  | [t], _, _, hP => exact hP t rfl
  | _ :: _ :: _, _, g2, _ => simp at g2
 unfold StGet at hg
 cases hSt with
 | op op hf =>
   rw [hf] at hg
   obtain ⟨c, hr, hc⟩ := hg
   exact ⟨85, [vP c 0], hr, fun g1 g2 => stmt85_t hA hO hc (find_word hf).1 hT hk3 hok3 (by omega) hl (by omega) h3⟩
 | code => exact ⟨76, [], hg, fun _ _ => begin76_t hA _⟩
 | data => exact ⟨77, [], hg, fun _ _ => begin77_t hA _⟩
 | entry => exact ⟨78, [], hg, fun g1 g2 => by
  revert hT hl
  refine one (P := fun os => TkAt hb a3 os → (∀ t ∈ os, t.text.length ≤ 1000000) → Tri Tryz.prog 78 ([vP p 0, vL a3 os.length k3] ++ []) h fun v h' => Res hb p mS a.line (entryX a (os.getD 0 ⟨1, []⟩).text) v h') (fun t _ hT hl => entry78_t hA hT (hl t (List.mem_singleton.2 rfl)) (by omega)) g1 g2⟩
 | zero => exact ⟨79, [], hg, fun g1 g2 => by
  revert hT hl
  refine one (P := fun os => TkAt hb a3 os → (∀ t ∈ os, t.text.length ≤ 1000000) → Tri Tryz.prog 79 ([vP p 0, vL a3 os.length k3] ++ []) h fun v h' => Res hb p mS a.line (zeroX a (os.getD 0 ⟨1, []⟩).text) v h') (fun t _ hT hl => zero79_t hA hT (hl t (List.mem_singleton.2 rfl))) g1 g2⟩
 | word => exact ⟨80, [], hg, fun _ _ => words80_t hA hT hl (by omega) (by omega) h3⟩
 | byte => exact ⟨81, [], hg, fun _ _ => bytes81_t hA hT hl (by omega) (by omega)⟩
 | text => exact ⟨82, [], hg, fun g1 g2 => by
  revert hT hl
  refine one (P := fun os => TkAt hb a3 os → (∀ t ∈ os, t.text.length ≤ 1000000) → Tri Tryz.prog 82 ([vP p 0, vL a3 os.length k3] ++ []) h fun v h' => Res hb p mS a.line (.ok { a with p := { a.p with data := a.p.data ++ (os.getD 0 ⟨1, []⟩).text } }) v h') (fun t _ hT hl => text82_t hA hT (hl t (List.mem_singleton.2 rfl)) (by omega)) g1 g2⟩
 | space => exact ⟨83, [], hg, fun g1 g2 => by
  revert hT hl
  refine one (P := fun os => TkAt hb a3 os → (∀ t ∈ os, t.text.length ≤ 1000000) → Tri Tryz.prog 83 ([vP p 0, vL a3 os.length k3] ++ []) h fun v h' => Res hb p mS a.line (spaceX a (os.getD 0 ⟨1, []⟩).text) v h') (fun t _ hT hl => space83_t hA hT (hl t (List.mem_singleton.2 rfl)) (by omega)) g1 g2⟩
theorem LM.into {e k : Nat} {h1 h2 hb2 : PHeap} {aa : OA} {n c : Nat} {css : List (List Value)} (hM : LM e k h1 h2 aa n c css) (hnew : ∀ q o, h1 q = none → h2 q = some o → hb2 q = some o) : LM e k h1 hb2 aa n c css :=
 LM.keep (fun b hb => by
  obtain ⟨g1, g2⟩ := hM.own b hb
  cases hq : h2 b with
  | none => exact absurd hq g2
  | some o => exact hnew b o g1 hq) hM
theorem LM.okA {e k : Nat} {h1 h2 : PHeap} {aa : OA} {n c : Nat} {css : List (List Value)} (hM : LM e k h1 h2 aa n c css) : n ≤ c ∧ okA aa n c := by
 obtain ⟨g1, g2⟩ := hM.okN
 refine ⟨g1, ?_⟩
 by_cases hn : n = 0
 · obtain ⟨g3, g4⟩ := g2 hn
   exact .inr ⟨g3, hn, g4⟩
 · obtain ⟨b, _, hb, _⟩ := hM.open (by omega)
   exact .inl ⟨b, 0, hb⟩
theorem read_t {s : Bytes} (hA : AS hb h p mS a) (hO : OpTab hb) (hS : StOk hb mS) (hs : s.length ≤ 65536) (ha : Lim a) : Tri Tryz.prog 39 [vP p 0, vS s] h fun v h' => Res hb p mS a.line (lineS a s) v h' := by
 refine T39 ?_
 unfold R39
 refine Tri.mono (tokens_t h s (by omega)) ?_
 rintro v h1 ⟨x1, hv⟩
 cases ht : tokensL s with
 | none =>
   rw [ht] at hv
   have hl : lineS a s = .error 6 := by unfold lineS; rw [ht]
   exact ⟨_, _, _, _, hv, br_pos rfl (res_err hl (by decide) (Ext.refl _) (hA.grow x1))⟩
 | some ts =>
   rw [ht] at hv
   obtain ⟨hn, a1, k1, rfl, hM⟩ := hv
   refine ⟨_, _, _, _, rfl, br_neg rfl ?_⟩
   obtain ⟨hb1, y1, hA1, hnew1⟩ := hA.rebase x1
   refine Tri.mono (parse_t h1 (by omega) hM.tk hM.okA.1 hM.okA.2) ?_
   rintro v h2 ⟨x2, hv⟩
   cases hsp : splitL ts with
   | none =>
     rw [hsp] at hv
     have hl : lineS a s = .error 30 := by unfold lineS; simp only [ht, hsp]
     exact ⟨_, _, _, _, _, _, _, _, hv, br_pos rfl (res_err hl (by decide) (Ext.refl _) (hA.grow (x1.trans x2)))⟩
   | some x =>
     obtain ⟨ls, o⟩ := x
     obtain ⟨hb2, y2, hA2, hnew2⟩ := hA1.rebase x2
     have y02 := y1.trans y2
     obtain ⟨s1, s2⟩ := split_sub ts ls o hsp
     have hdef : ∀ {a2 : OA} {k2 : Nat}, LM 9 1 h1 h2 a2 ls.length k2 (sL ls) → Tri Tryz.prog 90 [vP p 0, vL a2 ls.length k2] h2 fun v h' => Res hb2 p mS a.line (defineS a ls) v h' := fun hM2 =>
      define_t hA2 (hM2.into hnew2).strs (by omega) (by have := ha.code; omega)
     cases o with
     | none =>
       rw [hsp] at hv
       obtain ⟨a2, k2, rfl, hM2⟩ := hv
       have hl : lineS a s = defineS a ls := by unfold lineS; simp only [ht, hsp]
       rw [hl]
       refine ⟨_, _, _, _, _, _, _, _, rfl, br_neg rfl (Tri.mono (hdef hM2) ?_)⟩
       intro v h3 hR
       cases hd : defineS a ls with
       | error e =>
         rw [hd] at hR
         obtain ⟨rfl, g1, g2, g3⟩ := hR
         exact ⟨_, rfl, br_pos (by simp; omega) ⟨rfl, g1, y02.trans g2, g3⟩⟩
       | ok b =>
         rw [hd] at hR
         obtain ⟨rfl, hb3, g1, g2⟩ := hR
         exact ⟨_, rfl, br_neg rfl (br_pos rfl ⟨rfl, hb3, y02.trans g1, g2⟩)⟩
     | some no =>
       obtain ⟨n, os⟩ := no
       rw [hsp] at hv
       obtain ⟨a2, k2, a3, k3, rfl, hM2, hM3⟩ := hv
       obtain ⟨s3, s4, tn, s5, s6, s7⟩ := s2 n os rfl
       have hl : lineS a s = (defineS a ls >>= fun a => stmtS a n os) := by unfold lineS; simp only [ht, hsp]
       refine ⟨_, _, _, _, _, _, _, _, rfl, br_neg rfl (Tri.mono (hdef hM2) ?_)⟩
       intro v h3 hR
       rw [hl]
       cases hd : defineS a ls with
       | error e =>
         rw [hd] at hR
         obtain ⟨rfl, g1, g2, g3⟩ := hR
         exact ⟨_, rfl, br_pos (by simp; omega) ⟨rfl, g1, y02.trans g2, g3⟩⟩
       | ok b =>
         rw [hd] at hR
         obtain ⟨rfl, hb3, g1, hA3⟩ := hR
         obtain ⟨hlim, hline⟩ := define_lim ls a b ha hd
         have y03 := y02.trans g1
         have hname : (n == []) = false := by
          have := (tok_facts _ _ _ ht tn s5).2 s6
          rw [s7] at this
          simpa using this
         refine ⟨_, rfl, br_neg rfl (br_neg hname ?_)⟩
         show ∃ m1 : Nat, _
         obtain ⟨L, ck, hm, hget⟩ := hS.ext y03
         have hA30 := hA3
         obtain ⟨K, hK⟩ := hA3
         refine ⟨mS, (by rw [PA_cell hK.obj]; rfl), ?_⟩
         refine Raw.mono (raw_lookupS und69 rfl (z := vA [vB false, vB false, vI 0, vI 0, vB false, .nilFunc]) rfl rfl rfl (hK.ext _ _ hm)) ?_
         rintro _ h3 ⟨rfl, rfl⟩
         have hos : os.length ≤ 65536 := by omega
         have hgn := hget n
         show _ ∨ _
         rcases stmt_is (n := n) hlim hos with ⟨c, d, lo, hi, t, X, hSt, he⟩ | ⟨hf, hdv, he⟩
         · right
           have hT3 : TkAt hb3 a3 os := (hM3.into hnew2).tk.ext g1
           obtain ⟨f, y, hr, hP⟩ := perform_t hA30 (hO.ext y03) hSt hgn hlim hT3 hM3.okA.1 hM3.okA.2 (fun t ht' => by have := (tok_facts _ _ _ ht t (s4 t ht')).1; omega) hos
           refine ⟨c, d, lo, hi, t, f, [], y, (by rw [hr]; rfl), ?_⟩
           exact (top_39 (n := n) (c := c) (d := d) (t := t) (fun v h' hR => res_base y03 (by rw [← hline]; show Res hb3 p mS b.line (stmtS b n os) v h'; rw [he]; exact hR)) hA30 hT3 (by omega) (fun a' hX => hSt.line hX) (fun g1 g2 _ => hP g1 g2))
         · left
           have hno : mapGet L n = none := by unfold StGet at hgn; rw [hf] at hgn; rw [hgn]; exact hdv
           rw [hno]
           refine ⟨rfl, ?_⟩
           refine res_base y03 ?_
           rw [← hline]
           exact res_err (e := 11) he (by decide) (Ext.refl _) hA30
end
end Go.Proofs.D
namespace Go.Proofs.D
open Go Go.Den Go.As
set_option maxRecDepth 100000
attribute [local irreducible] IntKind.wrap Tri
def cmpV (a b : Lb) : Int := if a.data != b.data then (if b.data then -1 else 1) else if a.off < b.off then -1 else if b.off < a.off then 1 else Lib.compareBytes a.name b.name
theorem cmpB_lt : ∀ (a b : Bytes), (Lib.compareBytes a b < 0 ↔ a < b)
 | [], [] => by simp [Lib.compareBytes]
 | [], _ :: _ => by simp [Lib.compareBytes]
 | _ :: _, [] => by simp [Lib.compareBytes]
 | x :: a, y :: b => by
   rw [Lib.compareBytes, List.cons_lt_cons_iff]
   by_cases h1 : x < y
   · rw [if_pos h1]; simp [h1]
   · rw [if_neg h1]
     by_cases h2 : y < x
     · rw [if_pos h2]
       have : x ≠ y := fun e => by subst e; exact h1 h2
       simp [h1, this]
     · rw [if_neg h2, cmpB_lt a b]
       have h3 : x = y := by
        apply UInt8.toNat_inj.1
        rw [UInt8.lt_iff_toNat_lt] at h1 h2; omega
       simp [h3]
theorem cmp_follows (a b : Lb) : decide (cmpV a b < 0) = follows a b := by
 unfold cmpV follows
 split
 · cases b.data <;> rfl
 · by_cases h1 : a.off < b.off
   · rw [if_pos h1, if_pos (by omega)]; simp [h1]
   · rw [if_neg h1]
     by_cases h2 : b.off < a.off
     · rw [if_pos h2, if_pos (by omega)]; simp [h1]
     · rw [if_neg h2, if_neg (by omega)]
       rw [Bool.eq_iff_iff, decide_eq_true_iff, decide_eq_true_iff]; exact cmpB_lt _ _
section
variable {h : PHeap}
theorem compare_t (a b : Lb) : Tri Tryz.prog 41 [lbV a, lbV b] h fun v h' => v = vI (cmpV a b) ∧ h' = h := by
 refine T41 ?_
 unfold R41
 have last : a.data = b.data → a.off = b.off → Tri Tryz.prog 93 [vS a.name, vS b.name] h fun v_1 h_1 => ∃ (i3 : Int), v_1 = vI i3 ∧ (vI i3 = vI (cmpV a b) ∧ h_1 = h) := fun e1 e2 => by
  refine Tri.mono (strcmp_t _ _) ?_
  rintro _ h1 ⟨rfl, rfl⟩
  refine ⟨_, rfl, ?_, rfl⟩
  unfold cmpV
  rw [e1, e2]; simp
 unfold cmpV at *
 by_cases e1 : a.data = b.data
 · have ee : (a.data == b.data) = true := by simp [e1]
   refine br_neg (by rw [ee]; rfl) (br_pos ee (br_split (fun e2 => ?_) fun e2 => br_neg (by rw [ee]; rfl) (br_split (fun e3 => ?_) fun e3 => last e1 ?_)))
   · have e2 := of_decide_eq_true e2
     refine ⟨?_, rfl⟩
     rw [if_neg (by simp [e1]), if_pos e2]
   · have e2 := of_decide_eq_false e2
     have e3 := of_decide_eq_true e3
     refine ⟨?_, rfl⟩
     rw [if_neg (by simp [e1]), if_neg e2, if_pos (by omega)]
   · have e2 := of_decide_eq_false e2
     have e3 := of_decide_eq_false e3
     omega
 · have ee : (a.data == b.data) = false := by simp [e1]
   have en : (a.data != b.data) = true := by simp [e1]
   refine br_pos (by rw [ee]; rfl) (br_split (fun e2 => ?_) fun e2 => br_neg ee (br_pos (by rw [ee]; rfl) ?_))
   · exact ⟨by rw [if_pos en, e2]; rfl, rfl⟩
   · exact ⟨by rw [if_pos en, e2]; rfl, rfl⟩
theorem place_t (n m : Int) (hn : -9223372036854775808 ≤ n ∧ n ≤ 9223372036854775807) : Tri Tryz.prog 47 [vI n, vI m] h fun v h' => v = vB (decide (0 ≤ n ∧ n ≤ m ∧ n % 4 = 0)) ∧ h' = h := by
 refine T47 ?_
 unfold R47
 refine br_split (fun e1 => br_split (fun e2 => ⟨?_, rfl⟩) fun e2 => ⟨?_, rfl⟩) fun e1 => ⟨?_, rfl⟩
 · have e1 := of_decide_eq_true e1
   have e2 := of_decide_eq_true e2
   congr 1
   rw [Bool.eq_iff_iff, beq_iff_eq, decide_eq_true_iff, Int.tmod_eq_emod_of_nonneg (by omega)]
   omega
 · have e2 := of_decide_eq_false e2
   congr 1
   rw [Bool.eq_iff_iff, decide_eq_true_iff]
   simp; omega
 · have e1 := of_decide_eq_false e1
   congr 1
   rw [Bool.eq_iff_iff, decide_eq_true_iff]
   simp; omega
theorem dataAt_wrap {n : Nat} (hn : n ≤ 1000000) : IntKind.i64.wrap ((IntKind.i64.wrap (Int.tdiv (IntKind.i64.wrap ((IntKind.i64.wrap ((IntKind.i64.wrap (((n : Nat) : Int) * 4)) + 64)) - 1)) 64)) * 64) = (((4 * n + 63) / 64 * 64 : Nat) : Int) := by
 rw [wrap64 (n := ((n : Nat) : Int) * 4) (by omega) (by omega), wrap64 (n := ((n : Nat) : Int) * 4 + 64) (by omega) (by omega), wrap64 (n := ((n : Nat) : Int) * 4 + 64 - 1) (by omega) (by omega)]
 rw [Int.tdiv_eq_ediv_of_nonneg (by omega)]
 rw [wrap64 (n := (((n : Nat) : Int) * 4 + 64 - 1) / 64) (by omega) (by omega), wrap64 (by omega) (by omega)]
 omega
theorem dataAt_t {a1 : OA} {k1 : Nat} {d : Bytes} {z e : Int} {a2 : OA} {n2 k2 : Nat} {p : Pg} (hn : p.code.length ≤ 1000000) : Tri Tryz.prog 25 [vA [vL a1 p.code.length k1, vS d, vI z, vI e, vL a2 n2 k2]] h fun v h' => v = vI (dataAt p) ∧ h' = h := by
 refine T25 ?_
 unfold R25
 exact ⟨by rw [dataAt_wrap hn]; rfl, rfl⟩
theorem twice_snoc : ∀ (l : List Bytes) (x : Bytes), twice (l ++ [x]) = (twice l || l.contains x)
 | [], x => rfl
 | y :: l, x => by
   have ih := twice_snoc l x
   have hc : (l ++ [x]).contains y = (l.contains y || (x == y)) := by
    rw [Bool.eq_iff_iff, Bool.or_eq_true, List.contains_iff_mem, List.contains_iff_mem, List.mem_append, List.mem_singleton, beq_iff_eq]
    constructor
    · rintro (h | h)
      · exact .inl h
      · exact .inr h.symm
    · rintro (h | h)
      · exact .inl h
      · exact .inr h.symm
   rw [List.cons_append, twice, twice, hc, ih, List.contains_cons]
   generalize l.contains y = a
   generalize (x == y) = b
   generalize twice l = c
   generalize l.contains x = d
   cases a <;> cases b <;> cases c <;> cases d <;> rfl
theorem labels_cons (p : Pg) (prev : Option Lb) (l : Lb) (ls : List Lb) : labelsErr p prev (l :: ls) = if isLabel l.name = false then 12
 else if l.off < 0 ∨ (l.data = false ∧ (l.off % 4 ≠ 0 ∨ 4 * (p.code.length : Int) < l.off)) ∨ (l.data = true ∧ (p.data.length : Int) + p.zero < l.off) then 2
 else if (match prev with | none => false | some q => !follows q l) then 32
 else labelsErr p (some l) ls := rfl
theorem twice_pre (l r : List Bytes) (h : twice l = true) : twice (l ++ r) = true := by
 cases hc : twice (l ++ r) with
 | true => rfl
 | false => rw [twice_app l r hc] at h; cases h
def prevL (ls : List Lb) (j : Nat) : Option Lb := if j = 0 then none else ls[j - 1]?
theorem und149 : Tryz.prog.underlying 149 = some (.map 9 4) := rfl
theorem checkLabels_t {a1 : OA} {k1 : Nat} {a2 : OA} {k2 : Nat} {p : Pg} (hL : LbAt h a2 p.labels) (hn : p.code.length ≤ 1000000) (hd : p.data.length ≤ 1000000) (hls : p.labels.length ≤ 1000000) (hz : 0 ≤ p.zero ∧ p.zero ≤ 4096) (ho : ∀ l ∈ p.labels, -9223372036854775808 ≤ l.off ∧ l.off ≤ 9223372036854775807) :
 Tri Tryz.prog 48 [vA [vL a1 p.code.length k1, vS p.data, vI p.zero, vI p.entry, vL a2 p.labels.length k2]] h fun v h' => v = vI ((if labelsErr p none p.labels ≠ 0 then labelsErr p none p.labels else if twice (p.labels.map (·.name)) then 7 else 0 : Nat) : Int) ∧ Ext h h' := by
 refine T48 ?_
 unfold R48
 refine ⟨fun m i h' => ∃ j : Nat, i = (j : Int) ∧ j + m = p.labels.length ∧ h' = h ∧ labelsErr p none p.labels = labelsErr p (prevL p.labels j) (p.labels.drop j), ⟨p.labels.length, 0, rfl, by omega, rfl, rfl⟩, ?_⟩
 rintro m _ h1 ⟨j, rfl, hjm, rfl, hu⟩
 refine br_split (fun e => ?_) fun e => ?_
 · have hlt : j < p.labels.length := by have := of_decide_eq_true e; omega
   have hg : p.labels[j]? = some p.labels[j] := by simp [hlt]
   have hdr := List.drop_eq_getElem_cons hlt
   have hmem := List.getElem_mem hlt
   rw [hdr, labels_cons] at hu
   generalize p.labels[j] = l at *
   obtain ⟨b, o, ha, hr⟩ := hL.get hg
   have ho1 := ho l hmem
   have bad : ∀ e : Nat, labelsErr p none p.labels = e → e ≠ 0 → vI (e : Int) = vI ((if labelsErr p none p.labels ≠ 0 then labelsErr p none p.labels else if twice (p.labels.map (·.name)) then 7 else 0 : Nat) : Int) ∧ Ext h1 h1 := fun e h1 h2 => by
    rw [h1, if_pos h2]; exact ⟨rfl, Ext.refl _⟩
   refine ⟨b, o, ha, ⟨by omega, by omega⟩, _, _, _, (by rw [Int.toNat_natCast]; exact hr), ?_⟩
   refine Tri.mono (label_t h1 l.name) ?_
   rintro _ h1 ⟨rfl, rfl⟩
   refine ⟨_, rfl, br_split (fun e1 => bad 12 (by rw [hu, if_pos (not_f e1)]) (by decide)) fun e1 => ?_⟩
   rw [if_neg (by rw [not_t e1]; decide)] at hu
   have hw4 : IntKind.i64.wrap (((p.code.length : Nat) : Int) * 4) = 4 * (p.code.length : Int) := by rw [wrap64 (by omega) (by omega)]; omega
   have hwd : IntKind.i64.wrap ((p.data.length : Int) + p.zero) = (p.data.length : Int) + p.zero := wrap64 (by omega) (by omega)
   have hw1 : IntKind.i64.wrap ((j : Int) + 1) = ((j + 1 : Nat) : Int) := by rw [wrap64 (by omega) (by omega)]; omega
   have tail : ¬ (l.off < 0 ∨ (l.data = false ∧ (l.off % 4 ≠ 0 ∨ 4 * (p.code.length : Int) < l.off)) ∨ (l.data = true ∧ (p.data.length : Int) + p.zero < l.off)) →
    br (decide ((j : Int) > 0))
     (∃ (b2 o2 : Nat), a2 = some ⟨b2, o2, none⟩ ∧ (0 ≤ (IntKind.i64.wrap ((j : Int) - 1)) ∧ (IntKind.i64.wrap ((j : Int) - 1)) < p.labels.length) ∧
     ∃ (l3 : Bs) (c4 : Bool) (i5 : Int), h1.row b2 (o2 + (IntKind.i64.wrap ((j : Int) - 1)).toNat * 3) [vS l3, vB c4, vI i5] ∧
     Tri Tryz.prog 41 [vA [vS l3, vB c4, vI i5], lbV l] h1 fun v_3 h_4 =>
     ∃ (i6 : Int), v_3 = vI i6 ∧
     (tv [vL a2 p.labels.length k2]) ∧
     br (decide (i6 ≥ 0))
     (vI 32 = vI ((if labelsErr p none p.labels ≠ 0 then labelsErr p none p.labels else if twice (p.labels.map (·.name)) then 7 else 0 : Nat) : Int) ∧ Ext h1 h_4)
     (∃ (m3 : Nat), m3 < m ∧ (∃ j' : Nat, IntKind.i64.wrap ((j : Int) + 1) = (j' : Int) ∧ j' + m3 = p.labels.length ∧ h_4 = h1 ∧ labelsErr p none p.labels = labelsErr p (prevL p.labels j') (p.labels.drop j')) ∧
     tv [vL a1 p.code.length k1, vS p.data, vI p.zero, vI p.entry, vL a2 p.labels.length k2] ∧ True))
     (∃ (m4 : Nat), m4 < m ∧ (∃ j' : Nat, IntKind.i64.wrap ((j : Int) + 1) = (j' : Int) ∧ j' + m4 = p.labels.length ∧ h1 = h1 ∧ labelsErr p none p.labels = labelsErr p (prevL p.labels j') (p.labels.drop j')) ∧
     tv [vL a1 p.code.length k1, vS p.data, vI p.zero, vI p.entry, vL a2 p.labels.length k2] ∧ True) := fun hno => by
    rw [if_neg hno] at hu
    have hpj : prevL p.labels (j + 1) = some l := by unfold prevL; rw [if_neg (by omega), Nat.add_sub_cancel, hg]
    refine br_split (fun e2 => ?_) fun e2 => ?_
    · have hj0 : 0 < j := by have := of_decide_eq_true e2; omega
      have hwj : IntKind.i64.wrap ((j : Int) - 1) = ((j - 1 : Nat) : Int) := by rw [wrap64 (by omega) (by omega)]; omega
      have hlt' : j - 1 < p.labels.length := by omega
      have hg' : p.labels[j - 1]? = some p.labels[j - 1] := by simp [hlt']
      have hpv : prevL p.labels j = some p.labels[j - 1] := by unfold prevL; rw [if_neg (by omega), hg']
      rw [hpv] at hu
      generalize p.labels[j - 1] = q at *
      obtain ⟨b', o', ha', hr'⟩ := hL.get hg'
      rw [hwj]
      refine ⟨b', o', ha', ⟨by omega, by omega⟩, _, _, _, (by rw [Int.toNat_natCast]; exact hr'), ?_⟩
      refine Tri.mono (compare_t q l) ?_
      rintro _ h1 ⟨rfl, rfl⟩
      have hf := cmp_follows q l
      refine ⟨_, rfl, rfl, br_split (fun e3 => ?_) fun e3 => ?_⟩
      · have e3 := of_decide_eq_true e3
        rw [decide_eq_false (by omega)] at hf
        simp only [← hf, Bool.not_false, if_true] at hu
        exact bad 32 hu (by decide)
      · have e3 := of_decide_eq_false e3
        rw [decide_eq_true (by omega)] at hf
        simp only [← hf, Bool.not_true] at hu
        exact ⟨m - 1, by omega, ⟨j + 1, hw1, by omega, rfl, by rw [hpj]; exact hu⟩, rfl, trivial⟩
    · have hj0 : j = 0 := by have := of_decide_eq_false e2; omega
      have hpv : prevL p.labels j = none := by unfold prevL; rw [if_pos hj0]
      rw [hpv] at hu
      exact ⟨m - 1, by omega, ⟨j + 1, hw1, by omega, rfl, by rw [hpj]; exact hu⟩, rfl, trivial⟩
   have two : (l.off < 0 ∨ (l.data = false ∧ (l.off % 4 ≠ 0 ∨ 4 * (p.code.length : Int) < l.off)) ∨ (l.data = true ∧ (p.data.length : Int) + p.zero < l.off)) → _ := fun hh => bad 2 (by rw [hu, if_pos hh]) (by decide)
   refine br_split (fun e2 => ?_) fun e2 => ?_
   · have e2 : l.data = false := not_f e2
     rw [hw4]
     refine Tri.mono (place_t _ _ ho1) ?_
     rintro _ h1 ⟨rfl, rfl⟩
     refine ⟨_, rfl, br_split (fun e3 => ?_) fun e3 => ?_⟩
     · have e3 := of_decide_eq_false (not_f e3)
       exact two (by rw [e2]; simp; omega)
     · have e3 := of_decide_eq_true (not_t e3)
       refine br_neg e2 (tail ?_)
       rw [e2]; simp; omega
   · have e2 : l.data = true := not_t e2
     refine br_pos e2 (br_split (fun e3 => two (.inl (of_decide_eq_true e3))) fun e3 => ?_)
     rw [hwd]
     refine br_split (fun e4 => two (.inr (.inr ⟨e2, of_decide_eq_true e4⟩))) fun e4 => tail ?_
     have e3 := of_decide_eq_false e3
     have e4 := of_decide_eq_false e4
     rw [e2]; simp; omega
 · have hj : j = p.labels.length := by have := of_decide_eq_false e; omega
   subst hj
   rw [List.drop_length] at hu
   have hu : labelsErr p none p.labels = 0 := by rw [hu]; unfold labelsErr; rfl
   rw [hu]
   simp only [ne_eq, not_true, if_false]
   refine Raw.mono (raw_makeMap (Q := fun v h' => ∃ m, v = vM m ∧ h1 m = none ∧ h' = h1.put m (.map ⟨ents []⟩ 0)) fun b hb => ⟨b, rfl, hb, rfl⟩) ?_
   rintro _ h2 ⟨mm, rfl, hm, rfl⟩
   refine ⟨mm, rfl, ?_⟩
   refine ⟨fun m i h' => ∃ (j : Nat) (L : List (Bytes × Value × Nat)) (ck : Nat), i = (j : Int) ∧ j + m = p.labels.length ∧ h' = h1.put mm (.map ⟨ents L⟩ ck) ∧ twice ((p.labels.take j).map (·.name)) = false ∧ (∀ k, mapGet L k = if ((p.labels.take j).map (·.name)).contains k then some (vB true) else none),
    ⟨p.labels.length, 0, [], 0, rfl, by omega, rfl, rfl, fun k => rfl⟩, ?_⟩
   rintro m _ h2 ⟨j, L, ck, rfl, hjm, rfl, htw, hmap⟩
   have hx : ∀ o, Ext h1 (h1.put mm o) := fun o => Ext.put hm o
   refine br_split (fun e => ?_) fun e => ?_
   · have hlt : j < p.labels.length := by have := of_decide_eq_true e; omega
     have hg : p.labels[j]? = some p.labels[j] := by simp [hlt]
     have htk := List.take_append_getElem hlt
     have hdj : p.labels.drop (j + 1) = p.labels.drop (j + 1) := rfl
     generalize p.labels[j] = l at *
     have hsn : (p.labels.take (j + 1)).map (·.name) = (p.labels.take j).map (·.name) ++ [l.name] := by rw [← htk]; simp
     obtain ⟨b, o, ha, hr⟩ := (hL.ext (hx (.map ⟨ents L⟩ ck))).get hg
     refine ⟨b, o, ha, ⟨by omega, by omega⟩, _, _, _, (by rw [Int.toNat_natCast]; exact hr), ?_⟩
     refine Raw.mono (raw_lookupS und149 rfl (z := vB false) rfl rfl rfl (put_same _ _ _)) ?_
     rintro _ h2 ⟨rfl, rfl⟩
     refine ⟨((p.labels.take j).map (·.name)).contains l.name, ?_, br_split (fun e1 => ?_) fun e1 => ?_⟩
     · rw [hmap]
       cases ((p.labels.take j).map (·.name)).contains l.name <;> rfl
     · have : twice (p.labels.map (·.name)) = true := by
        have h1 : twice ((p.labels.take (j + 1)).map (·.name)) = true := by rw [hsn, twice_snoc, e1]; simp
        have := twice_pre _ ((p.labels.drop (j + 1)).map (·.name)) h1
        rwa [← List.map_append, List.take_append_drop] at this
       rw [this]
       exact ⟨rfl, hx _⟩
     · refine Raw.mono (raw_updS (x := vB true) (.inl rfl) und149 rfl rfl rfl rfl (put_same _ _ _)) ?_
       rintro _ h3 ⟨rfl, ck', rfl, _⟩
       refine ⟨rfl, m - 1, by omega, ⟨j + 1, _, ck', ?_, by omega, put_put _ _ _ _, ?_, fun k => ?_⟩, trivial, trivial⟩
       · rw [wrap64 (by omega) (by omega)]; omega
       · rw [hsn, twice_snoc, htw, e1]; rfl
       · rw [mapGet_set, hsn, hmap]
         by_cases hk : k = l.name
         · subst hk; simp
         · have : (k == l.name) = false := by simp [hk]
           have hc : ((p.labels.take j).map (·.name) ++ [l.name]).contains k = ((p.labels.take j).map (·.name)).contains k := by
            rw [Bool.eq_iff_iff]; simp [hk]
           rw [hc, this]
           rfl
   · have hj : j = p.labels.length := by have := of_decide_eq_false e; omega
     subst hj
     rw [List.take_length] at htw
     rw [htw]
     exact ⟨rfl, hx _⟩
end
end Go.Proofs.D
namespace Go.Proofs
open Go Go.Shelf Go.RowKit Go.Lib Go.Sort
set_option maxRecDepth 100000
set_option maxHeartbeats 2000000 in
theorem cmp41_calls (n1 n2 : List UInt8) (d1 d2 : Bool) (i1 i2 : Int) (W : World) :
 Calls Tryz.prog 41 #[.agg #[.string ⟨⟨n1⟩⟩, .bool d1, .int .i64 i1], .agg #[.string ⟨⟨n2⟩⟩, .bool d2, .int .i64 i2]] W fun e w' => e = .returned (.int .i64 (D.cmpV ⟨n1, d1, i1⟩ ⟨n2, d2, i2⟩)) ∧ ∃ q os', w' = grow (W.drewN q) os' := by
 have hcon := fun W' => Any.strings_Compare D.layC ⟨⟨n1⟩⟩ ⟨⟨n2⟩⟩ W'
 change ∀ W', Calls Tryz.prog 93 _ _ _ at hcon
 unfold D.cmpV
 simp only
 generalize Lib.compareBytes n1 n2 = r at hcon ⊢
 cases d1 <;> cases d2
 · by_cases h1 : i1 < i2
   · rw [if_neg (by decide), if_pos h1]
     go_enter Tryz.func41, Tryz.ntmps41
     go_wp2
     go_ret
     exact ⟨rfl, 0, _, by rw [alloc_eq_grow, alloc_eq_grow, grow_grow]; rfl⟩
   · by_cases h2 : i2 < i1
     · rw [if_neg (by decide), if_neg h1, if_pos h2]
       go_enter Tryz.func41, Tryz.ntmps41
       go_wp2
       go_ret
       exact ⟨rfl, 0, _, by rw [alloc_eq_grow, alloc_eq_grow, grow_grow]; rfl⟩
     · rw [if_neg (by decide), if_neg h1, if_neg h2]
       go_enter Tryz.func41, Tryz.ntmps41
       go_wp2_with (go_at_call 93; refine (hcon _).mono ?_; rintro e w' ⟨rfl, rfl⟩)
       go_ret
       exact ⟨rfl, 0, _, by rw [alloc_eq_grow, alloc_eq_grow, grow_grow]; rfl⟩
 · rw [if_pos (by decide), if_pos (by decide)]
   go_enter Tryz.func41, Tryz.ntmps41
   go_wp2
   go_ret
   exact ⟨rfl, 0, _, by rw [alloc_eq_grow, alloc_eq_grow, grow_grow]; rfl⟩
 · rw [if_pos (by decide), if_neg (by decide)]
   go_enter Tryz.func41, Tryz.ntmps41
   go_wp2
   go_ret
   exact ⟨rfl, 0, _, by rw [alloc_eq_grow, alloc_eq_grow, grow_grow]; rfl⟩
 · by_cases h1 : i1 < i2
   · rw [if_neg (by decide), if_pos h1]
     go_enter Tryz.func41, Tryz.ntmps41
     go_wp2
     go_ret
     exact ⟨rfl, 0, _, by rw [alloc_eq_grow, alloc_eq_grow, grow_grow]; rfl⟩
   · by_cases h2 : i2 < i1
     · rw [if_neg (by decide), if_neg h1, if_pos h2]
       go_enter Tryz.func41, Tryz.ntmps41
       go_wp2
       go_ret
       exact ⟨rfl, 0, _, by rw [alloc_eq_grow, alloc_eq_grow, grow_grow]; rfl⟩
     · rw [if_neg (by decide), if_neg h1, if_neg h2]
       go_enter Tryz.func41, Tryz.ntmps41
       go_wp2_with (go_at_call 93; refine (hcon _).mono ?_; rintro e w' ⟨rfl, rfl⟩)
       go_ret
       exact ⟨rfl, 0, _, by rw [alloc_eq_grow, alloc_eq_grow, grow_grow]; rfl⟩
end Go.Proofs
