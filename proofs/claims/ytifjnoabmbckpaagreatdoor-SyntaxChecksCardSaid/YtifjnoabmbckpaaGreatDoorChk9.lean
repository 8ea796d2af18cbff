import Derived.Test.YtifjnoabmbckpaaGreatDoorChk8
import Derived.WalkKit
import Derived.ProofKit
import Derived.OpenShut
import Derived.Deep.DeepHandedRow
namespace Go.Proofs.D
open Go Go.Den
set_option maxRecDepth 100000
set_option maxHeartbeats 4000000
abbrev dak1 : List CK := [.str, qi, qi, qi]
abbrev dak2 : List CK := [.slice, .slice, .slice, qi, .bool, qi, qi]
abbrev dak3 : List CK := [.str, .slice, .slice, qi]
abbrev dak4 : List CK := [qi, .str, .slice, .slice, .slice, qi]
abbrev dak5 : List CK := [qi, .str, .str, qi, .str, .slice, qi]
noncomputable def d4 : DCode := up ⟨[(16, .l [.str]), (17, .c (.one false [.str])), (19, .l [.str]), (20, .c (.tup [(true, [.slice, .slice]), (false, [qi]), (false, [qi])])), (24, .c (.one false [.bool])), (30, .c (.one false [.bool])), (32, .l [.str]), (33, .c (.tup [(true, [.slice, .slice]), (false, [qi]), (false, [qi]), (false, [qi])])), (39, .l [.slice, .slice]), (40, .c (.tup [(false, [qi]), (false, [qi]), (false, [qi])])), (45, .l [.slice, .slice]), (46, .c (.tup [(false, [qi]), (false, [qi]), (false, [.bool])])), (75, .c (.one false [.bool]))], [1], []⟩ (low Tryz.prog (fun d => Nat.beq d 1) (Tryz.f4.body.getD .skip))
theorem low4 : low Tryz.prog (fun d => Nat.beq d 1) (Tryz.f4.body.getD .skip) = some (eC d4) := by kernel_rfl
def R4 (l1 : Bs) (h : PHeap) (Q : Value → PHeap → Prop) : Prop :=
 ∀ (b1 : Nat), h b1 = none → ∀ (h_1 : PHeap), h_1 = h.put b1 (.cells ⟨[vS l1]⟩ 9) →
 ∃ (l2 : Bs), h_1.cell b1 0 = some (vS l2) ∧
 Tri Tryz.prog 13 [vS l2] h_1 fun v_1 h_2 =>
 ∃ (l3 : Bs), v_1 = vS l3 ∧
 ∃ (l4 : List Value) (t1 : TypeId) (z1 : Nat × Nat), h_2 b1 = some (.cells ⟨l4⟩ t1 z1) ∧ (0 + 1 ≤ l4.length ∧ z1.2 ≤ 0) ∧
 ∀ (h_3 : PHeap), h_3 = h_2.put b1 (.cells ⟨splice l4 0 [vS l3]⟩ t1 z1) →
 ∃ (l5 : Bs), h_3.cell b1 0 = some (vS l5) ∧
 Tri Tryz.prog 15 [vS l5] h_3 fun v_2 h_4 =>
 ∃ (a1 : OA) (n1 dak1 : Nat) (a2 : OA) (n2 dak2 : Nat) (i1 i2 : Int), v_2 = vT [vA [vL a1 n1 dak1, vL a2 n2 dak2], vI i1, vI i2] ∧
 Tri Tryz.prog 16 [] h_4 fun v_3 h_5 =>
 ∃ (c1 : Bool), v_3 = vB c1 ∧
 br (!c1)
 (Tri Tryz.prog 16 [] h_5 fun v_4 h_6 =>
 ∃ (c2 : Bool), v_4 = vB c2 ∧
 Q (vB c2) h_6)
 (br (i2 != 0)
 (Tri Tryz.prog 16 [] h_5 fun v_5 h_7 =>
 ∃ (c3 : Bool), v_5 = vB c3 ∧
 Q (vB c3) h_7)
 (∃ (l6 : Bs), h_5.cell b1 0 = some (vS l6) ∧
 Tri Tryz.prog 14 [vS l6] h_5 fun v_6 h_8 =>
 ∃ (a3 : OA) (n3 dak3 : Nat) (a4 : OA) (n4 dak4 : Nat) (i3 i4 i5 : Int), v_6 = vT [vA [vL a3 n3 dak3, vL a4 n4 dak4], vI i3, vI i4, vI i5] ∧
 Tri Tryz.prog 19 [vA [vL a3 n3 dak3, vL a4 n4 dak4]] h_8 fun v_7 h_9 =>
 ∃ (i6 i7 i8 : Int), v_7 = vT [vI i6, vI i7, vI i8] ∧
 Tri Tryz.prog 20 [vA [vL a1 n1 dak1, vL a2 n2 dak2]] h_9 fun v_8 h_10 =>
 ∃ (i9 i10 : Int) (c4 : Bool), v_8 = vT [vI i9, vI i10, vB c4] ∧
 br (i5 != 0)
 (Q (vB false) h_10)
 (br (i8 != i10)
 (Q (vB false) h_10)
 (br c4
 (br (i6 == 1)
 (Q (vB (i7 == 1)) h_10)
 (Q (vB false) h_10))
 (br (i10 == 0)
 (br (i6 == 0)
 (Q (vB (i7 == 0)) h_10)
 (Q (vB false) h_10))
 (Tri Tryz.prog 17 [vP b1 0, vI i6, vI i7, vI i9] h_10 fun v_9 h_11 =>
 ∃ (c5 : Bool), v_9 = vB c5 ∧
 Q (vB c5) h_11))))))
theorem T4 {l1 : Bs} {h : PHeap} {Q : Value → PHeap → Prop} (hR : R4 l1 h Q) : Tri Tryz.prog 4 [vS l1] h Q :=
 tri_of_dn mixed Tryz.func4 rfl (by kernel_rfl) low4 (rs := [.tmp 2]) (by kernel_rfl) rfl (Eq.mpr (by kernel_rfl : dnF Tryz.prog Tryz.f4.ntmps d4 [.tmp 2] [vS l1] h Q = R4 l1 h Q) hR)
abbrev o20_6 : Op := .call { callee := (.builtin .append), args := #[(.tmp 65), (.tmp 68)], argTypes := #[51, 51] }
abbrev o20_16 : Op := .call { callee := (.builtin .append), args := #[(.tmp 135), (.tmp 138)], argTypes := #[51, 51] }
noncomputable def d20 : DCode := up ⟨[(20, .l [.slice, .slice]), (24, .l [.slice]), (30, .l [.slice]), (33, .l dak1), (36, .l [.str]), (37, .c (.tup [(false, [qi]), (false, [qi]), (false, [.bool])])), (43, .l dak2), (45, .l [qi]), (46, .c (.one true dak2)), (51, .l [.str]), (52, .c (.one false [.bool])), (54, .l dak2), (56, .l [qi]), (57, .c (.one true dak2)), (59, .l [qi]), (61, .l dak2), (63, .l [qi]), (64, .c (.one true dak2)), (67, .l [.str]), (69, .c (.one false [.slice])), (72, .l [.slice]), (78, .l [.slice]), (81, .l dak3), (84, .l [.str]), (85, .c (.tup [(false, [qi]), (false, [qi]), (false, [.bool])])), (91, .l dak2), (93, .l [qi]), (94, .c (.one true dak2)), (99, .l [.str]), (100, .c (.one false [.bool])), (102, .l dak2), (104, .l [qi]), (105, .c (.one true dak2)), (107, .l [.slice]), (110, .l dak2), (112, .l [qi]), (113, .c (.one true dak2)), (116, .l [.slice]), (122, .l [.slice]), (126, .l [.slice]), (129, .l [.str]), (130, .c (.one false [.bool])), (131, .l dak2), (133, .l [qi]), (134, .c (.one true dak2)), (137, .l [.str]), (139, .c (.one false [.slice])), (143, .l [.str]), (147, .l [.slice]), (153, .l [qi]), (161, .l [.slice]), (167, .l [.slice]), (171, .l [.slice]), (173, .l [.slice]), (177, .l [.slice]), (182, .l dak2), (184, .l [.slice]), (188, .l [.slice]), (189, .c (.one true dak2)), (191, .l [qi]), (194, .l [qi]), (196, .l [qi])], [], [(22, 54, [(6, .slice), (7, qi)], [(5, dak2)]), (70, 90, [(6, .slice), (12, .bool), (13, qi)], [(5, dak2)]), (114, 22, [(18, qi)], [(5, dak2)]), (159, 32, [(19, qi)], [(5, dak2)])]⟩ (low Tryz.prog (fun _ => false) (Tryz.f20.body.getD .skip))
theorem low20 : low Tryz.prog (fun _ => false) (Tryz.f20.body.getD .skip) = some (eC d20) := by kernel_rfl
def K20_3 (I_3 : Nat → Int → OA → Nat → Nat → OA → Nat → Nat → OA → Nat → Nat → Int → Bool → Int → Int → PHeap → Prop) (n56 : Nat) (a56 : OA) (k56 : Nat) (i47 : Int) (l2 : Bs) (a57 : OA) (n57 : Nat) (k57 : Nat) (a1 : OA) (n1 : Nat) (dak1 : Nat) (a2 : OA) (n2 : Nat) (dak2 : Nat) (a52 : OA) (n52 : Nat) (k52 : Nat) (c16 : Bool) (m15 : Nat) (I_2 : Nat → OA → Nat → Nat → Bool → Int → OA → Nat → Nat → OA → Nat → Nat → OA → Nat → Nat → Int → Bool → Int → Int → PHeap → Prop) (i43 : Int) : Prop :=
 ∀ (m17 : Nat) (i59 : Int) (a67 : OA) (n67 : Nat) (k67 : Nat) (a68 : OA) (n68 : Nat) (k68 : Nat) (a69 : OA) (n69 : Nat) (k69 : Nat) (i60 : Int) (c22 : Bool) (i61 : Int) (i62 : Int) (h_45 : PHeap), I_3 m17 i59 a67 n67 k67 a68 n68 k68 a69 n69 k69 i60 c22 i61 i62 h_45 →
 br (decide (i59 < ((n56 : Nat) : Int)))
 ((okA a56 n56 k56 ∧ 0 ≤ (0 : Int) ∧ (0 : Int) ≤ i59 ∧ i59 ≤ k56) ∧ ∀ (a70 : OA), SlA a56 a70 0 k56 1 →
 ∃ (b15 o3 : Nat), a56 = some ⟨b15, o3, none⟩ ∧ (0 ≤ i59 ∧ i59 < n56) ∧
 ∃ (l3 : Bs), h_45.cell b15 (o3 + (i59).toNat * 1) = some (vS l3) ∧
 Tri Tryz.prog 63 [vL a70 ((i59).toNat - 0) (k56 - 0), vS l3] h_45 fun v_31 h_46 =>
 ∃ (c23 : Bool), v_31 = vB c23 ∧
 (tv [vL a56 n56 k56]) ∧
 (tv [vL a56 n56 k56]) ∧
 br c23
 (Tri Tryz.prog 62 [vA [vL a67 n67 k67, vL a68 n68 k68, vL a69 n69 k69, vI i60, vB c22, vI i61, vI i62], vI 7, vI i47] h_46 fun v_32 h_47 =>
 ∃ (a71 : OA) (n70 k70 : Nat) (a72 : OA) (n71 k71 : Nat) (a73 : OA) (n72 k72 : Nat) (i63 : Int) (c24 : Bool) (i64 i65 : Int), v_32 = vA [vL a71 n70 k70, vL a72 n71 k71, vL a73 n72 k72, vI i63, vB c24, vI i64, vI i65] ∧
 ∃ (m19 : Nat), m19 < m17 ∧ I_3 m19 (IntKind.i64.wrap (i59 + 1)) a71 n70 k70 a72 n71 k71 a73 n72 k72 i63 c24 i64 i65 h_47 ∧
 tv [vS l2, vL a56 n56 k56, vL a57 n57 k57, vI i47] ∧ tv [vL a1 n1 dak1, vL a2 n2 dak2] ∧ True)
 (∃ (m20 : Nat), m20 < m17 ∧ I_3 m20 (IntKind.i64.wrap (i59 + 1)) a67 n67 k67 a68 n68 k68 a69 n69 k69 i60 c22 i61 i62 h_46 ∧
 tv [vS l2, vL a56 n56 k56, vL a57 n57 k57, vI i47] ∧ tv [vL a1 n1 dak1, vL a2 n2 dak2] ∧ True))
 (∀ (b16 : Nat), h_45 b16 = none → ∀ (h_48 : PHeap), h_48 = h_45.put b16 (.cells ⟨[vS l2]⟩ 9) →
 Raw Tryz.prog (execOp (rho [(135, vL a52 n52 k52), (138, vL (ad b16 0) 1 1)]) (mkO o20_16 51)) h_48 fun v_33 h_49 =>
 ∃ (a74 : OA) (n73 k73 : Nat), v_33 = vL a74 n73 k73 ∧
 br c16
 (∃ (m21 : Nat), m21 < m15 ∧ I_2 m21 a74 n73 k73 true (IntKind.i64.wrap (i43 + 1)) a67 n67 k67 a68 n68 k68 a69 n69 k69 i60 c22 i61 i62 h_49 ∧
 tv [vL a1 n1 dak1, vL a2 n2 dak2] ∧ True)
 (br (l2 == [109, 97, 105, 110])
 (∃ (m22 : Nat), m22 < m15 ∧ I_2 m22 a74 n73 k73 (((n56 : Nat) : Int) == 0) (IntKind.i64.wrap (i43 + 1)) a67 n67 k67 a68 n68 k68 a69 n69 k69 i60 c22 i61 i62 h_49 ∧
 tv [vL a1 n1 dak1, vL a2 n2 dak2] ∧ True)
 (∃ (m23 : Nat), m23 < m15 ∧ I_2 m23 a74 n73 k73 false (IntKind.i64.wrap (i43 + 1)) a67 n67 k67 a68 n68 k68 a69 n69 k69 i60 c22 i61 i62 h_49 ∧
 tv [vL a1 n1 dak1, vL a2 n2 dak2] ∧ True)))
def K20_1 (n56 : Nat) (a61 : OA) (n61 : Nat) (k61 : Nat) (a62 : OA) (n62 : Nat) (k62 : Nat) (a63 : OA) (n63 : Nat) (k63 : Nat) (i53 : Int) (c20 : Bool) (i54 : Int) (i55 : Int) (i47 : Int) (h_43 : PHeap) (a56 : OA) (k56 : Nat) (l2 : Bs) (a57 : OA) (n57 : Nat) (k57 : Nat) (a1 : OA) (n1 : Nat) (dak1 : Nat) (a2 : OA) (n2 : Nat) (dak2 : Nat) (a52 : OA) (n52 : Nat) (k52 : Nat) (c16 : Bool) (m15 : Nat) (I_2 : Nat → OA → Nat → Nat → Bool → Int → OA → Nat → Nat → OA → Nat → Nat → OA → Nat → Nat → Int → Bool → Int → Int → PHeap → Prop) (i43 : Int) : Prop :=
 br (decide (((n56 : Nat) : Int) > 6))
 (Tri Tryz.prog 62 [vA [vL a61 n61 k61, vL a62 n62 k62, vL a63 n63 k63, vI i53, vB c20, vI i54, vI i55], vI 9, vI i47] h_43 fun v_30 h_44 =>
 ∃ (a64 : OA) (n64 k64 : Nat) (a65 : OA) (n65 k65 : Nat) (a66 : OA) (n66 k66 : Nat) (i56 : Int) (c21 : Bool) (i57 i58 : Int), v_30 = vA [vL a64 n64 k64, vL a65 n65 k65, vL a66 n66 k66, vI i56, vB c21, vI i57, vI i58] ∧
 ∃ (I_3 : Nat → Int → OA → Nat → Nat → OA → Nat → Nat → OA → Nat → Nat → Int → Bool → Int → Int → PHeap → Prop), (∃ (m18 : Nat), I_3 m18 (0 : Int) a64 n64 k64 a65 n65 k65 a66 n66 k66 i56 c21 i57 i58 h_44) ∧
 K20_3 I_3 n56 a56 k56 i47 l2 a57 n57 k57 a1 n1 dak1 a2 n2 dak2 a52 n52 k52 c16 m15 I_2 i43)
 (∃ (I_4 : Nat → Int → OA → Nat → Nat → OA → Nat → Nat → OA → Nat → Nat → Int → Bool → Int → Int → PHeap → Prop), (∃ (m25 : Nat), I_4 m25 (0 : Int) a61 n61 k61 a62 n62 k62 a63 n63 k63 i53 c20 i54 i55 h_43) ∧
 K20_3 I_4 n56 a56 k56 i47 l2 a57 n57 k57 a1 n1 dak1 a2 n2 dak2 a52 n52 k52 c16 m15 I_2 i43)
def K20_2 (i5 : Int) (a10 : OA) (n10 : Nat) (k10 : Nat) (a11 : OA) (n11 : Nat) (k11 : Nat) (a12 : OA) (n12 : Nat) (k12 : Nat) (i13 : Int) (c4 : Bool) (i14 : Int) (i15 : Int) (i7 : Int) (h_4 : PHeap) (l1 : Bs) (a3 : OA) (n3 : Nat) (dak3 : Nat) (m1 : Nat) (I_1 : Nat → OA → Nat → Nat → Int → OA → Nat → Nat → OA → Nat → Nat → OA → Nat → Nat → Int → Bool → Int → Int → PHeap → Prop) (i1 : Int) (a1 : OA) (n1 : Nat) (dak1 : Nat) (a2 : OA) (n2 : Nat) (dak2 : Nat) : Prop :=
 br (decide (i5 > 256))
 (Tri Tryz.prog 62 [vA [vL a10 n10 k10, vL a11 n11 k11, vL a12 n12 k12, vI i13, vB c4, vI i14, vI i15], vI 2, vI i7] h_4 fun v_4 h_5 =>
 ∃ (a13 : OA) (n13 k13 : Nat) (a14 : OA) (n14 k14 : Nat) (a15 : OA) (n15 k15 : Nat) (i16 : Int) (c5 : Bool) (i17 i18 : Int), v_4 = vA [vL a13 n13 k13, vL a14 n14 k14, vL a15 n15 k15, vI i16, vB c5, vI i17, vI i18] ∧
 ∀ (b2 : Nat), h_5 b2 = none → ∀ (h_6 : PHeap), h_6 = h_5.put b2 (.cells ⟨[vS l1]⟩ 9) →
 Raw Tryz.prog (execOp (rho [(65, vL a3 n3 dak3), (68, vL (ad b2 0) 1 1)]) (mkO o20_6 51)) h_6 fun v_5 h_7 =>
 ∃ (a16 : OA) (n16 k16 : Nat), v_5 = vL a16 n16 k16 ∧
 ∃ (m3 : Nat), m3 < m1 ∧ I_1 m3 a16 n16 k16 (IntKind.i64.wrap (i1 + 1)) a13 n13 k13 a14 n14 k14 a15 n15 k15 i16 c5 i17 i18 h_7 ∧
 tv [vL a1 n1 dak1, vL a2 n2 dak2] ∧ True)
 (∀ (b3 : Nat), h_4 b3 = none → ∀ (h_8 : PHeap), h_8 = h_4.put b3 (.cells ⟨[vS l1]⟩ 9) →
 Raw Tryz.prog (execOp (rho [(65, vL a3 n3 dak3), (68, vL (ad b3 0) 1 1)]) (mkO o20_6 51)) h_8 fun v_6 h_9 =>
 ∃ (a17 : OA) (n17 k17 : Nat), v_6 = vL a17 n17 k17 ∧
 ∃ (m4 : Nat), m4 < m1 ∧ I_1 m4 a17 n17 k17 (IntKind.i64.wrap (i1 + 1)) a10 n10 k10 a11 n11 k11 a12 n12 k12 i13 c4 i14 i15 h_9 ∧
 tv [vL a1 n1 dak1, vL a2 n2 dak2] ∧ True)
def K20_4 (I_15 : Nat → Int → OA → Nat → Nat → OA → Nat → Nat → OA → Nat → Nat → Int → Bool → Int → Int → PHeap → Prop) (n2 : Nat) (a2 : OA) (dak2 : Nat) (a1 : OA) (n1 : Nat) (dak1 : Nat) (Q : Value → PHeap → Prop) : Prop :=
 ∀ (m101 : Nat) (i167 : Int) (a187 : OA) (n175 : Nat) (k175 : Nat) (a188 : OA) (n176 : Nat) (k176 : Nat) (a189 : OA) (n177 : Nat) (k177 : Nat) (i168 : Int) (c68 : Bool) (i169 : Int) (i170 : Int) (h_115 : PHeap), I_15 m101 i167 a187 n175 k175 a188 n176 k176 a189 n177 k177 i168 c68 i169 i170 h_115 →
 br (decide (i167 < ((n2 : Nat) : Int)))
 (∃ (b39 o15 : Nat), a2 = some ⟨b39, o15, none⟩ ∧ (0 ≤ i167 ∧ i167 < n2) ∧
 ∃ (a190 : OA) (n178 k178 : Nat), h_115.cell b39 ((o15 + (i167).toNat * 4) + 1) = some (vL a190 n178 k178) ∧
 ∃ (b40 o16 : Nat), a2 = some ⟨b40, o16, none⟩ ∧ (0 ≤ i167 ∧ i167 < n2) ∧
 ∃ (a191 : OA) (n179 k179 : Nat), h_115.cell b40 ((o16 + (i167).toNat * 4) + 1) = some (vL a191 n179 k179) ∧
 (h_115.cell b40 ((o16 + (i167).toNat * 4) + 1) = some (vL a191 n179 k179)) ∧
 (tv [vL a2 n2 dak2]) ∧
 ∃ (b41 o17 : Nat), a2 = some ⟨b41, o17, none⟩ ∧ (0 ≤ i167 ∧ i167 < n2) ∧
 ∃ (a192 : OA) (n180 k180 : Nat), h_115.cell b41 ((o17 + (i167).toNat * 4) + 2) = some (vL a192 n180 k180) ∧
 Tri Tryz.prog 64 [vA [vL a187 n175 k175, vL a188 n176 k176, vL a190 n178 k178, vI ((n179 : Nat) : Int), vB false, vI i169, vI i170], vL a192 n180 k180] h_115 fun v_77 h_116 =>
 ∃ (a193 : OA) (n181 k181 : Nat) (a194 : OA) (n182 k182 : Nat) (a195 : OA) (n183 k183 : Nat) (i171 : Int) (c69 : Bool) (i172 i173 : Int), v_77 = vA [vL a193 n181 k181, vL a194 n182 k182, vL a195 n183 k183, vI i171, vB c69, vI i172, vI i173] ∧
 (tv [vL a2 n2 dak2]) ∧
 ∃ (m103 : Nat), m103 < m101 ∧ I_15 m103 (IntKind.i64.wrap (i167 + 1)) a193 n181 k181 a194 n182 k182 a195 n183 k183 i171 c69 i172 i173 h_116 ∧
 tv [vL a1 n1 dak1, vL a2 n2 dak2] ∧ True)
 (br (i169 != 0)
 (Q (vT [vI i170, vI i169, vB false]) h_115)
 (Q (vT [vI (-1), vI 0, vB false]) h_115))
def K20_5 (c18 : Bool) (a58 : OA) (n58 : Nat) (k58 : Nat) (a59 : OA) (n59 : Nat) (k59 : Nat) (a60 : OA) (n60 : Nat) (k60 : Nat) (i50 : Int) (c19 : Bool) (i51 : Int) (i52 : Int) (i47 : Int) (h_42 : PHeap) (n56 : Nat) (a56 : OA) (k56 : Nat) (l2 : Bs) (a57 : OA) (n57 : Nat) (k57 : Nat) (a1 : OA) (n1 : Nat) (dak1 : Nat) (a2 : OA) (n2 : Nat) (dak2 : Nat) (a52 : OA) (n52 : Nat) (k52 : Nat) (c16 : Bool) (m15 : Nat) (I_2 : Nat → OA → Nat → Nat → Bool → Int → OA → Nat → Nat → OA → Nat → Nat → OA → Nat → Nat → Int → Bool → Int → Int → PHeap → Prop) (i43 : Int) : Prop :=
 br c18
 (Tri Tryz.prog 62 [vA [vL a58 n58 k58, vL a59 n59 k59, vL a60 n60 k60, vI i50, vB c19, vI i51, vI i52], vI 7, vI i47] h_42 fun v_29 h_43 =>
 ∃ (a61 : OA) (n61 k61 : Nat) (a62 : OA) (n62 k62 : Nat) (a63 : OA) (n63 k63 : Nat) (i53 : Int) (c20 : Bool) (i54 i55 : Int), v_29 = vA [vL a61 n61 k61, vL a62 n62 k62, vL a63 n63 k63, vI i53, vB c20, vI i54, vI i55] ∧
 K20_1 n56 a61 n61 k61 a62 n62 k62 a63 n63 k63 i53 c20 i54 i55 i47 h_43 a56 k56 l2 a57 n57 k57 a1 n1 dak1 a2 n2 dak2 a52 n52 k52 c16 m15 I_2 i43)
 (Tri Tryz.prog 63 [vL a52 n52 k52, vS l2] h_42 fun v_37 h_55 =>
 ∃ (c28 : Bool), v_37 = vB c28 ∧
 br c28
 (Tri Tryz.prog 62 [vA [vL a58 n58 k58, vL a59 n59 k59, vL a60 n60 k60, vI i50, vB c19, vI i51, vI i52], vI 7, vI i47] h_55 fun v_38 h_56 =>
 ∃ (a83 : OA) (n81 k81 : Nat) (a84 : OA) (n82 k82 : Nat) (a85 : OA) (n83 k83 : Nat) (i73 : Int) (c29 : Bool) (i74 i75 : Int), v_38 = vA [vL a83 n81 k81, vL a84 n82 k82, vL a85 n83 k83, vI i73, vB c29, vI i74, vI i75] ∧
 K20_1 n56 a83 n81 k81 a84 n82 k82 a85 n83 k83 i73 c29 i74 i75 i47 h_56 a56 k56 l2 a57 n57 k57 a1 n1 dak1 a2 n2 dak2 a52 n52 k52 c16 m15 I_2 i43)
 (K20_1 n56 a58 n58 k58 a59 n59 k59 a60 n60 k60 i50 c19 i51 i52 i47 h_55 a56 k56 l2 a57 n57 k57 a1 n1 dak1 a2 n2 dak2 a52 n52 k52 c16 m15 I_2 i43))
def K20_6 (a7 : OA) (n7 : Nat) (k7 : Nat) (a8 : OA) (n8 : Nat) (k8 : Nat) (a9 : OA) (n9 : Nat) (k9 : Nat) (i10 : Int) (c3 : Bool) (i11 : Int) (i12 : Int) (i7 : Int) (h_3 : PHeap) (i5 : Int) (l1 : Bs) (a3 : OA) (n3 : Nat) (dak3 : Nat) (m1 : Nat) (I_1 : Nat → OA → Nat → Nat → Int → OA → Nat → Nat → OA → Nat → Nat → OA → Nat → Nat → Int → Bool → Int → Int → PHeap → Prop) (i1 : Int) (a1 : OA) (n1 : Nat) (dak1 : Nat) (a2 : OA) (n2 : Nat) (dak2 : Nat) : Prop :=
 Tri Tryz.prog 62 [vA [vL a7 n7 k7, vL a8 n8 k8, vL a9 n9 k9, vI i10, vB c3, vI i11, vI i12], vI 7, vI i7] h_3 fun v_3 h_4 =>
 ∃ (a10 : OA) (n10 k10 : Nat) (a11 : OA) (n11 k11 : Nat) (a12 : OA) (n12 k12 : Nat) (i13 : Int) (c4 : Bool) (i14 i15 : Int), v_3 = vA [vL a10 n10 k10, vL a11 n11 k11, vL a12 n12 k12, vI i13, vB c4, vI i14, vI i15] ∧
 K20_2 i5 a10 n10 k10 a11 n11 k11 a12 n12 k12 i13 c4 i14 i15 i7 h_4 l1 a3 n3 dak3 m1 I_1 i1 a1 n1 dak1 a2 n2 dak2
def R20 (a1 : OA) (n1 : Nat) (dak1 : Nat) (a2 : OA) (n2 : Nat) (dak2 : Nat) (h : PHeap) (Q : Value → PHeap → Prop) : Prop :=
 ∃ (I_1 : Nat → OA → Nat → Nat → Int → OA → Nat → Nat → OA → Nat → Nat → OA → Nat → Nat → Int → Bool → Int → Int → PHeap → Prop), (∃ (m2 : Nat), I_1 m2 none 0 0 (0 : Int) a1 n1 dak1 a2 n2 dak2 none 0 0 (0 : Int) false (0 : Int) (0 : Int) h) ∧
 ∀ (m1 : Nat) (a3 : OA) (n3 : Nat) (dak3 : Nat) (i1 : Int) (a4 : OA) (n4 : Nat) (dak4 : Nat) (a5 : OA) (n5 : Nat) (dak5 : Nat) (a6 : OA) (n6 : Nat) (k6 : Nat) (i2 : Int) (c1 : Bool) (i3 : Int) (i4 : Int) (h_1 : PHeap), I_1 m1 a3 n3 dak3 i1 a4 n4 dak4 a5 n5 dak5 a6 n6 k6 i2 c1 i3 i4 h_1 →
 br (decide (i1 < ((n1 : Nat) : Int)))
 (∃ (b1 o1 : Nat), a1 = some ⟨b1, o1, none⟩ ∧ (0 ≤ i1 ∧ i1 < n1) ∧
 ∃ (l1 : Bs) (i5 i6 i7 : Int), h_1.row b1 (o1 + (i1).toNat * 4) [vS l1, vI i5, vI i6, vI i7] ∧
 Tri Tryz.prog 25 [vS l1] h_1 fun v_1 h_2 =>
 ∃ (i8 i9 : Int) (c2 : Bool), v_1 = vT [vI i8, vI i9, vB c2] ∧
 br (decide (i1 ≥ 64))
 (Tri Tryz.prog 62 [vA [vL a4 n4 dak4, vL a5 n5 dak5, vL a6 n6 k6, vI i2, vB c1, vI i3, vI i4], vI 9, vI i7] h_2 fun v_2 h_3 =>
 ∃ (a7 : OA) (n7 k7 : Nat) (a8 : OA) (n8 k8 : Nat) (a9 : OA) (n9 k9 : Nat) (i10 : Int) (c3 : Bool) (i11 i12 : Int), v_2 = vA [vL a7 n7 k7, vL a8 n8 k8, vL a9 n9 k9, vI i10, vB c3, vI i11, vI i12] ∧
 br c2
 (K20_6 a7 n7 k7 a8 n8 k8 a9 n9 k9 i10 c3 i11 i12 i7 h_3 i5 l1 a3 n3 dak3 m1 I_1 i1 a1 n1 dak1 a2 n2 dak2)
 (Tri Tryz.prog 63 [vL a3 n3 dak3, vS l1] h_3 fun v_7 h_10 =>
 ∃ (c6 : Bool), v_7 = vB c6 ∧
 br c6
 (K20_6 a7 n7 k7 a8 n8 k8 a9 n9 k9 i10 c3 i11 i12 i7 h_10 i5 l1 a3 n3 dak3 m1 I_1 i1 a1 n1 dak1 a2 n2 dak2)
 (K20_2 i5 a7 n7 k7 a8 n8 k8 a9 n9 k9 i10 c3 i11 i12 i7 h_10 l1 a3 n3 dak3 m1 I_1 i1 a1 n1 dak1 a2 n2 dak2)))
 (br c2
 (K20_6 a4 n4 dak4 a5 n5 dak5 a6 n6 k6 i2 c1 i3 i4 i7 h_2 i5 l1 a3 n3 dak3 m1 I_1 i1 a1 n1 dak1 a2 n2 dak2)
 (Tri Tryz.prog 63 [vL a3 n3 dak3, vS l1] h_2 fun v_19 h_28 =>
 ∃ (c12 : Bool), v_19 = vB c12 ∧
 br c12
 (K20_6 a4 n4 dak4 a5 n5 dak5 a6 n6 k6 i2 c1 i3 i4 i7 h_28 i5 l1 a3 n3 dak3 m1 I_1 i1 a1 n1 dak1 a2 n2 dak2)
 (K20_2 i5 a4 n4 dak4 a5 n5 dak5 a6 n6 k6 i2 c1 i3 i4 i7 h_28 l1 a3 n3 dak3 m1 I_1 i1 a1 n1 dak1 a2 n2 dak2))))
 (∃ (I_2 : Nat → OA → Nat → Nat → Bool → Int → OA → Nat → Nat → OA → Nat → Nat → OA → Nat → Nat → Int → Bool → Int → Int → PHeap → Prop), (∃ (m16 : Nat), I_2 m16 a3 n3 dak3 false (0 : Int) a4 n4 dak4 a5 n5 dak5 a6 n6 k6 i2 c1 i3 i4 h_1) ∧
 ∀ (m15 : Nat) (a52 : OA) (n52 : Nat) (k52 : Nat) (c16 : Bool) (i43 : Int) (a53 : OA) (n53 : Nat) (k53 : Nat) (a54 : OA) (n54 : Nat) (k54 : Nat) (a55 : OA) (n55 : Nat) (k55 : Nat) (i44 : Int) (c17 : Bool) (i45 : Int) (i46 : Int) (h_40 : PHeap), I_2 m15 a52 n52 k52 c16 i43 a53 n53 k53 a54 n54 k54 a55 n55 k55 i44 c17 i45 i46 h_40 →
 br (decide (i43 < ((n2 : Nat) : Int)))
 (∃ (b14 o2 : Nat), a2 = some ⟨b14, o2, none⟩ ∧ (0 ≤ i43 ∧ i43 < n2) ∧
 ∃ (l2 : Bs) (a56 : OA) (n56 k56 : Nat) (a57 : OA) (n57 k57 : Nat) (i47 : Int), h_40.row b14 (o2 + (i43).toNat * 4) [vS l2, vL a56 n56 k56, vL a57 n57 k57, vI i47] ∧
 Tri Tryz.prog 25 [vS l2] h_40 fun v_27 h_41 =>
 ∃ (i48 i49 : Int) (c18 : Bool), v_27 = vT [vI i48, vI i49, vB c18] ∧
 br (decide (i43 ≥ 64))
 (Tri Tryz.prog 62 [vA [vL a53 n53 k53, vL a54 n54 k54, vL a55 n55 k55, vI i44, vB c17, vI i45, vI i46], vI 9, vI i47] h_41 fun v_28 h_42 =>
 ∃ (a58 : OA) (n58 k58 : Nat) (a59 : OA) (n59 k59 : Nat) (a60 : OA) (n60 k60 : Nat) (i50 : Int) (c19 : Bool) (i51 i52 : Int), v_28 = vA [vL a58 n58 k58, vL a59 n59 k59, vL a60 n60 k60, vI i50, vB c19, vI i51, vI i52] ∧
 K20_5 c18 a58 n58 k58 a59 n59 k59 a60 n60 k60 i50 c19 i51 i52 i47 h_42 n56 a56 k56 l2 a57 n57 k57 a1 n1 dak1 a2 n2 dak2 a52 n52 k52 c16 m15 I_2 i43)
 (K20_5 c18 a53 n53 k53 a54 n54 k54 a55 n55 k55 i44 c17 i45 i46 i47 h_41 n56 a56 k56 l2 a57 n57 k57 a1 n1 dak1 a2 n2 dak2 a52 n52 k52 c16 m15 I_2 i43))
 (br (i45 == 0)
 (br (!c16)
 (Q (vT [vI 0, vI 8, vB true]) h_40)
 (∃ (I_15 : Nat → Int → OA → Nat → Nat → OA → Nat → Nat → OA → Nat → Nat → Int → Bool → Int → Int → PHeap → Prop), (∃ (m102 : Nat), I_15 m102 (0 : Int) a53 n53 k53 a54 n54 k54 a55 n55 k55 i44 c17 i45 i46 h_40) ∧
 K20_4 I_15 n2 a2 dak2 a1 n1 dak1 Q))
 (∃ (I_16 : Nat → Int → OA → Nat → Nat → OA → Nat → Nat → OA → Nat → Nat → Int → Bool → Int → Int → PHeap → Prop), (∃ (m105 : Nat), I_16 m105 (0 : Int) a53 n53 k53 a54 n54 k54 a55 n55 k55 i44 c17 i45 i46 h_40) ∧
 K20_4 I_16 n2 a2 dak2 a1 n1 dak1 Q)))
theorem T20 {a1 : OA} {n1 : Nat} {dak1 : Nat} {a2 : OA} {n2 : Nat} {dak2 : Nat} {h : PHeap} {Q : Value → PHeap → Prop} (hR : R20 a1 n1 dak1 a2 n2 dak2 h Q) : Tri Tryz.prog 20 [vA [vL a1 n1 dak1, vL a2 n2 dak2]] h Q :=
 tri_of_dn mixed Tryz.func20 rfl (by kernel_rfl) low20 (rs := [.tmp 2, .tmp 3, .tmp 4]) (by kernel_rfl) rfl (Eq.mpr (by kernel_rfl : dnF Tryz.prog Tryz.f20.ntmps d20 [.tmp 2, .tmp 3, .tmp 4] [vA [vL a1 n1 dak1, vL a2 n2 dak2]] h Q = R20 a1 n1 dak1 a2 n2 dak2 h Q) hR)
noncomputable def d25 : DCode := up ⟨[], [], []⟩ (low Tryz.prog (fun _ => false) (Tryz.f25.body.getD .skip))
theorem low25 : low Tryz.prog (fun _ => false) (Tryz.f25.body.getD .skip) = some (eC d25) := by kernel_rfl
def R25 (l1 : Bs) (h : PHeap) (Q : Value → PHeap → Prop) : Prop :=
 br (l1 == [112, 101, 101, 107])
 (Q (vT [vI 1, vI 1, vB true]) h)
 (br (l1 == [112, 111, 107, 101])
 (Q (vT [vI 2, vI 2, vB true]) h)
 (br (l1 == [107, 101, 114, 110, 101, 108])
 (Q (vT [vI 1, vI 5, vB true]) h)
 (Q (vT [vI 0, vI 0, vB false]) h)))
theorem T25 {l1 : Bs} {h : PHeap} {Q : Value → PHeap → Prop} (hR : R25 l1 h Q) : Tri Tryz.prog 25 [vS l1] h Q :=
 tri_of_dn mixed Tryz.func25 rfl (by kernel_rfl) low25 (rs := [.tmp 2, .tmp 3, .tmp 4]) (by kernel_rfl) rfl (Eq.mpr (by kernel_rfl : dnF Tryz.prog Tryz.f25.ntmps d25 [.tmp 2, .tmp 3, .tmp 4] [vS l1] h Q = R25 l1 h Q) hR)
noncomputable def d62 : DCode := up ⟨[(8, .l [qi]), (14, .l dak2)], [], []⟩ (low Tryz.prog (fun _ => false) (Tryz.f62.body.getD .skip))
theorem low62 : low Tryz.prog (fun _ => false) (Tryz.f62.body.getD .skip) = some (eC d62) := by kernel_rfl
def R62 (a1 : OA) (n1 : Nat) (dak1 : Nat) (a2 : OA) (n2 : Nat) (dak2 : Nat) (a3 : OA) (n3 : Nat) (dak3 : Nat) (i1 : Int) (c1 : Bool) (i2 : Int) (i3 : Int) (i4 : Int) (i5 : Int) (h : PHeap) (Q : Value → PHeap → Prop) : Prop :=
 br (i2 == 0)
 (Q (vA [vL a1 n1 dak1, vL a2 n2 dak2, vL a3 n3 dak3, vI i1, vB c1, vI i4, vI i5]) h)
 (Q (vA [vL a1 n1 dak1, vL a2 n2 dak2, vL a3 n3 dak3, vI i1, vB c1, vI i2, vI i3]) h)
theorem T62 {a1 : OA} {n1 : Nat} {dak1 : Nat} {a2 : OA} {n2 : Nat} {dak2 : Nat} {a3 : OA} {n3 : Nat} {dak3 : Nat} {i1 : Int} {c1 : Bool} {i2 : Int} {i3 : Int} {i4 : Int} {i5 : Int} {h : PHeap} {Q : Value → PHeap → Prop} (hR : R62 a1 n1 dak1 a2 n2 dak2 a3 n3 dak3 i1 c1 i2 i3 i4 i5 h Q) : Tri Tryz.prog 62 [vA [vL a1 n1 dak1, vL a2 n2 dak2, vL a3 n3 dak3, vI i1, vB c1, vI i2, vI i3], vI i4, vI i5] h Q :=
 tri_of_dn mixed Tryz.func62 rfl (by kernel_rfl) low62 (rs := [.cell 6 true 7]) (by kernel_rfl) rfl (Eq.mpr (by kernel_rfl : dnF Tryz.prog Tryz.f62.ntmps d62 [.cell 6 true 7] [vA [vL a1 n1 dak1, vL a2 n2 dak2, vL a3 n3 dak3, vI i1, vB c1, vI i2, vI i3], vI i4, vI i5] h Q = R62 a1 n1 dak1 a2 n2 dak2 a3 n3 dak3 i1 c1 i2 i3 i4 i5 h Q) hR)
noncomputable def d63 : DCode := up ⟨[(15, .l [.str])], [], [(6, 14, [(5, qi)], [])]⟩ (low Tryz.prog (fun _ => false) (Tryz.f63.body.getD .skip))
theorem low63 : low Tryz.prog (fun _ => false) (Tryz.f63.body.getD .skip) = some (eC d63) := by kernel_rfl
def R63 (a1 : OA) (n1 : Nat) (dak1 : Nat) (l1 : Bs) (h : PHeap) (Q : Value → PHeap → Prop) : Prop :=
 ∃ (I_1 : Nat → Int → PHeap → Prop), (∃ (m2 : Nat), I_1 m2 (0 : Int) h) ∧
 ∀ (m1 : Nat) (i1 : Int) (h_1 : PHeap), I_1 m1 i1 h_1 →
 br (decide (i1 < ((n1 : Nat) : Int)))
 (∃ (b1 o1 : Nat), a1 = some ⟨b1, o1, none⟩ ∧ (0 ≤ i1 ∧ i1 < n1) ∧
 ∃ (l2 : Bs), h_1.cell b1 (o1 + (i1).toNat * 1) = some (vS l2) ∧
 br (l2 == l1)
 (Q (vB true) h_1)
 (∃ (m3 : Nat), m3 < m1 ∧ I_1 m3 (IntKind.i64.wrap (i1 + 1)) h_1 ∧
 True))
 (Q (vB false) h_1)
theorem T63 {a1 : OA} {n1 : Nat} {dak1 : Nat} {l1 : Bs} {h : PHeap} {Q : Value → PHeap → Prop} (hR : R63 a1 n1 dak1 l1 h Q) : Tri Tryz.prog 63 [vL a1 n1 dak1, vS l1] h Q :=
 tri_of_dn mixed Tryz.func63 rfl (by kernel_rfl) low63 (rs := [.tmp 4]) (by kernel_rfl) rfl (Eq.mpr (by kernel_rfl : dnF Tryz.prog Tryz.f63.ntmps d63 [.tmp 4] [vL a1 n1 dak1, vS l1] h Q = R63 a1 n1 dak1 l1 h Q) hR)
abbrev o64_9 : Op := .call { callee := (.builtin .append), args := #[(.tmp 77), (.tmp 79)], argTypes := #[51, 51] }
abbrev o64_10 : Op := .call { callee := (.builtin .append), args := #[(.tmp 80), (.tmp 83)], argTypes := #[51, 51] }
noncomputable def d64 : DCode := up ⟨[(11, .l [.slice]), (21, .l dak4), (23, .l [qi]), (27, .l [qi]), (30, .l dak2), (32, .l [.str]), (34, .l [qi]), (37, .l [qi]), (38, .c (.one true dak2)), (41, .l [.slice]), (46, .l dak2), (48, .l [.slice]), (51, .l dak5), (52, .c (.one true dak2)), (54, .l [qi]), (58, .l [.slice]), (60, .l [.str]), (61, .c (.one false [.bool])), (62, .l dak2), (64, .l [qi]), (65, .c (.one true dak2)), (67, .l [qi]), (69, .l dak2), (71, .l [qi]), (72, .c (.one true dak2)), (74, .l [qi]), (79, .l [.slice]), (80, .c (.one false [.slice])), (82, .l [.str]), (84, .c (.one false [.slice])), (88, .l dak2), (90, .l [.slice]), (91, .c (.one true dak2)), (92, .l dak2), (94, .l [.slice]), (95, .c (.one true dak2)), (99, .l [.bool]), (101, .l dak2), (103, .l [.slice]), (104, .c (.one true dak2)), (111, .l [.bool]), (113, .l dak2), (115, .l [qi]), (116, .c (.one true dak2)), (119, .l dak2)], [], [(12, 109, [(6, qi)], [(2, dak2)]), (39, 15, [(8, qi)], [(2, dak2)])]⟩ (low Tryz.prog (fun _ => false) (Tryz.f64.body.getD .skip))
theorem low64 : low Tryz.prog (fun _ => false) (Tryz.f64.body.getD .skip) = some (eC d64) := by kernel_rfl
def K64_2 (h_7 : PHeap) (l1 : Bs) (a26 : OA) (n26 : Nat) (k26 : Nat) (m1 : Nat) (I_1 : Nat → Int → OA → Nat → Nat → OA → Nat → Nat → OA → Nat → Nat → Int → Bool → Int → Int → PHeap → Prop) (i4 : Int) (a24 : OA) (n24 : Nat) (k24 : Nat) (a25 : OA) (n25 : Nat) (k25 : Nat) (i26 : Int) (c8 : Bool) (i27 : Int) (i28 : Int) : Prop :=
 (∀ (b3 : Nat), h_7 b3 = none → ∀ (h_8 : PHeap), h_8 = h_7.put b3 (.cells ⟨[]⟩ 9) →
 (tv [vS l1]) ∧
 (tv [vL a26 n26 k26]) ∧
 (Raw Tryz.prog (execOp (rho [(77, vL (ad b3 0) 0 0), (79, vL a26 n26 k26)]) (mkO o64_9 51)) h_8 fun v_6 h_9 =>
 ∃ (a27 : OA) (n27 k27 : Nat), v_6 = vL a27 n27 k27 ∧
 (tv [vS l1]) ∧
 ∀ (b4 : Nat), h_9 b4 = none → ∀ (h_10 : PHeap), h_10 = h_9.put b4 (.cells ⟨[vS l1]⟩ 9) →
 Raw Tryz.prog (execOp (rho [(80, vL a27 n27 k27), (83, vL (ad b4 0) 1 1)]) (mkO o64_10 51)) h_10 fun v_7 h_11 =>
 ∃ (a28 : OA) (n28 k28 : Nat), v_7 = vL a28 n28 k28 ∧
 ∃ (m6 : Nat), m6 < m1 ∧ I_1 m6 (IntKind.i64.wrap (i4 + 1)) a24 n24 k24 a25 n25 k25 a28 n28 k28 (IntKind.i64.wrap (i26 + 1)) c8 i27 i28 h_11 ∧
 tv [vL none 0 0, vL none 0 0, vL none 0 0, vI 0, vB false, vI 0, vI 0] ∧ True) ∧
 (∀ (b5 : Nat), h_8 b5 = none → ∀ (h_12 : PHeap), h_12 = h_8.put b5 (.cells ⟨[vS l1]⟩ 9) →
 (tv [vL a26 n26 k26]) ∧
 Raw Tryz.prog (execOp (rho [(77, vL (ad b3 0) 0 0), (79, vL a26 n26 k26)]) (mkO o64_9 51)) h_12 fun v_8 h_13 =>
 ∃ (a29 : OA) (n29 k29 : Nat), v_8 = vL a29 n29 k29 ∧
 Raw Tryz.prog (execOp (rho [(80, vL a29 n29 k29), (83, vL (ad b5 0) 1 1)]) (mkO o64_10 51)) h_13 fun v_9 h_14 =>
 ∃ (a30 : OA) (n30 k30 : Nat), v_9 = vL a30 n30 k30 ∧
 ∃ (m7 : Nat), m7 < m1 ∧ I_1 m7 (IntKind.i64.wrap (i4 + 1)) a24 n24 k24 a25 n25 k25 a30 n30 k30 (IntKind.i64.wrap (i26 + 1)) c8 i27 i28 h_14 ∧
 tv [vL none 0 0, vL none 0 0, vL none 0 0, vI 0, vB false, vI 0, vI 0] ∧ True)) ∧
 (∀ (b6 : Nat), h_7 b6 = none → ∀ (h_15 : PHeap), h_15 = h_7.put b6 (.cells ⟨[vS l1]⟩ 9) →
 (tv [vL a26 n26 k26]) ∧
 ∀ (b7 : Nat), h_15 b7 = none → ∀ (h_16 : PHeap), h_16 = h_15.put b7 (.cells ⟨[]⟩ 9) →
 (tv [vL a26 n26 k26]) ∧
 Raw Tryz.prog (execOp (rho [(77, vL (ad b7 0) 0 0), (79, vL a26 n26 k26)]) (mkO o64_9 51)) h_16 fun v_10 h_17 =>
 ∃ (a31 : OA) (n31 k31 : Nat), v_10 = vL a31 n31 k31 ∧
 Raw Tryz.prog (execOp (rho [(80, vL a31 n31 k31), (83, vL (ad b6 0) 1 1)]) (mkO o64_10 51)) h_17 fun v_11 h_18 =>
 ∃ (a32 : OA) (n32 k32 : Nat), v_11 = vL a32 n32 k32 ∧
 ∃ (m8 : Nat), m8 < m1 ∧ I_1 m8 (IntKind.i64.wrap (i4 + 1)) a24 n24 k24 a25 n25 k25 a32 n32 k32 (IntKind.i64.wrap (i26 + 1)) c8 i27 i28 h_18 ∧
 tv [vL none 0 0, vL none 0 0, vL none 0 0, vI 0, vB false, vI 0, vI 0] ∧ True)
def K64_3 (v_32 : Value) (m1 : Nat) (I_1 : Nat → Int → OA → Nat → Nat → OA → Nat → Nat → OA → Nat → Nat → Int → Bool → Int → Int → PHeap → Prop) (i4 : Int) (h_54 : PHeap) : Prop :=
 ∃ (a57 : OA) (n57 k57 : Nat) (a58 : OA) (n58 k58 : Nat) (a59 : OA) (n59 k59 : Nat) (i35 : Int) (c11 : Bool) (i36 i37 : Int), v_32 = vA [vL a57 n57 k57, vL a58 n58 k58, vL a59 n59 k59, vI i35, vB c11, vI i36, vI i37] ∧
 ∃ (m18 : Nat), m18 < m1 ∧ I_1 m18 (IntKind.i64.wrap (i4 + 1)) a57 n57 k57 a58 n58 k58 a59 n59 k59 i35 c11 i36 i37 h_54 ∧
 tv [vL none 0 0, vL none 0 0, vL none 0 0, vI 0, vB false, vI 0, vI 0] ∧ True
def K64_1 (a11 : OA) (n11 : Nat) (k11 : Nat) (a12 : OA) (n12 : Nat) (k12 : Nat) (a13 : OA) (n13 : Nat) (k13 : Nat) (i10 : Int) (c3 : Bool) (i11 : Int) (i12 : Int) (h_2 : PHeap) (n8 : Nat) (a8 : OA) (k8 : Nat) (i8 : Int) (l1 : Bs) (a9 : OA) (n9 : Nat) (k9 : Nat) (a10 : OA) (n10 : Nat) (k10 : Nat) (i9 : Int) (m1 : Nat) (I_1 : Nat → Int → OA → Nat → Nat → OA → Nat → Nat → OA → Nat → Nat → Int → Bool → Int → Int → PHeap → Prop) (i4 : Int) : Prop :=
 ∃ (I_2 : Nat → Int → OA → Nat → Nat → OA → Nat → Nat → OA → Nat → Nat → Int → Bool → Int → Int → PHeap → Prop), (∃ (m4 : Nat), I_2 m4 (0 : Int) a11 n11 k11 a12 n12 k12 a13 n13 k13 i10 c3 i11 i12 h_2) ∧
 ∀ (m3 : Nat) (i13 : Int) (a14 : OA) (n14 : Nat) (k14 : Nat) (a15 : OA) (n15 : Nat) (k15 : Nat) (a16 : OA) (n16 : Nat) (k16 : Nat) (i14 : Int) (c4 : Bool) (i15 : Int) (i16 : Int) (h_3 : PHeap), I_2 m3 i13 a14 n14 k14 a15 n15 k15 a16 n16 k16 i14 c4 i15 i16 h_3 →
 br (decide (i13 < ((n8 : Nat) : Int)))
 (∃ (b2 o2 : Nat), a8 = some ⟨b2, o2, none⟩ ∧ (0 ≤ i13 ∧ i13 < n8) ∧
 ∃ (i17 : Int) (l2 l3 : Bs) (i18 : Int) (l4 : Bs) (a17 : OA) (n17 k17 : Nat) (i19 : Int), h_3.row b2 (o2 + (i13).toNat * 7) [vI i17, vS l2, vS l3, vI i18, vS l4, vL a17 n17 k17, vI i19] ∧
 Tri Tryz.prog 105 [vA [vL a14 n14 k14, vL a15 n15 k15, vL a16 n16 k16, vI i14, vB c4, vI i15, vI i16], vA [vI i17, vS l2, vS l3, vI i18, vS l4, vL a17 n17 k17, vI i19]] h_3 fun v_2 h_4 =>
 ∃ (a18 : OA) (n18 k18 : Nat) (a19 : OA) (n19 k19 : Nat) (a20 : OA) (n20 k20 : Nat) (i20 : Int) (c5 : Bool) (i21 i22 : Int), v_2 = vA [vL a18 n18 k18, vL a19 n19 k19, vL a20 n20 k20, vI i20, vB c5, vI i21, vI i22] ∧
 (tv [vL a8 n8 k8]) ∧
 ∃ (m5 : Nat), m5 < m3 ∧ I_2 m5 (IntKind.i64.wrap (i13 + 1)) a18 n18 k18 a19 n19 k19 a20 n20 k20 i20 c5 i21 i22 h_4 ∧
 tv [vI i8, vS l1, vL a8 n8 k8, vL a9 n9 k9, vL a10 n10 k10, vI i9] ∧ tv [vL none 0 0, vL none 0 0, vL none 0 0, vI 0, vB false, vI 0, vI 0] ∧ True)
 (br (i8 == 1)
 (Tri Tryz.prog 63 [vL a16 n16 k16, vS l1] h_3 fun v_3 h_5 =>
 ∃ (c6 : Bool), v_3 = vB c6 ∧
 br c6
 (Tri Tryz.prog 62 [vA [vL a14 n14 k14, vL a15 n15 k15, vL a16 n16 k16, vI i14, vB c4, vI i15, vI i16], vI 7, vI i9] h_5 fun v_4 h_6 =>
 ∃ (a21 : OA) (n21 k21 : Nat) (a22 : OA) (n22 k22 : Nat) (a23 : OA) (n23 k23 : Nat) (i23 : Int) (c7 : Bool) (i24 i25 : Int), v_4 = vA [vL a21 n21 k21, vL a22 n22 k22, vL a23 n23 k23, vI i23, vB c7, vI i24, vI i25] ∧
 br (i23 == 32)
 (Tri Tryz.prog 62 [vA [vL a21 n21 k21, vL a22 n22 k22, vL a23 n23 k23, vI i23, vB c7, vI i24, vI i25], vI 9, vI i9] h_6 fun v_5 h_7 =>
 ∃ (a24 : OA) (n24 k24 : Nat) (a25 : OA) (n25 k25 : Nat) (a26 : OA) (n26 k26 : Nat) (i26 : Int) (c8 : Bool) (i27 i28 : Int), v_5 = vA [vL a24 n24 k24, vL a25 n25 k25, vL a26 n26 k26, vI i26, vB c8, vI i27, vI i28] ∧
 K64_2 h_7 l1 a26 n26 k26 m1 I_1 i4 a24 n24 k24 a25 n25 k25 i26 c8 i27 i28)
 (K64_2 h_6 l1 a23 n23 k23 m1 I_1 i4 a21 n21 k21 a22 n22 k22 i23 c7 i24 i25))
 (br (i14 == 32)
 (Tri Tryz.prog 62 [vA [vL a14 n14 k14, vL a15 n15 k15, vL a16 n16 k16, vI i14, vB c4, vI i15, vI i16], vI 9, vI i9] h_5 fun v_18 h_30 =>
 ∃ (a39 : OA) (n39 k39 : Nat) (a40 : OA) (n40 k40 : Nat) (a41 : OA) (n41 k41 : Nat) (i29 : Int) (c9 : Bool) (i30 i31 : Int), v_18 = vA [vL a39 n39 k39, vL a40 n40 k40, vL a41 n41 k41, vI i29, vB c9, vI i30, vI i31] ∧
 K64_2 h_30 l1 a41 n41 k41 m1 I_1 i4 a39 n39 k39 a40 n40 k40 i29 c9 i30 i31)
 (K64_2 h_5 l1 a16 n16 k16 m1 I_1 i4 a14 n14 k14 a15 n15 k15 i14 c4 i15 i16)))
 (br (i8 == 5)
 (Tri Tryz.prog 64 [vA [vL a14 n14 k14, vL a15 n15 k15, vL a16 n16 k16, vI i14, vB c4, vI i15, vI i16], vL a9 n9 k9] h_3 fun v_31 h_53 =>
 ∃ (a54 : OA) (n54 k54 : Nat) (a55 : OA) (n55 k55 : Nat) (a56 : OA) (n56 k56 : Nat) (i32 : Int) (c10 : Bool) (i33 i34 : Int), v_31 = vA [vL a54 n54 k54, vL a55 n55 k55, vL a56 n56 k56, vI i32, vB c10, vI i33, vI i34] ∧
 Tri Tryz.prog 64 [vA [vL a54 n54 k54, vL a55 n55 k55, vL a56 n56 k56, vI i32, vB c10, vI i33, vI i34], vL a10 n10 k10] h_53 fun v_32 h_54 =>
 K64_3 v_32 m1 I_1 i4 h_54)
 (br (i8 == 6)
 (Tri Tryz.prog 64 [vA [vL a14 n14 k14, vL a15 n15 k15, vL a16 n16 k16, vI i14, vB true, vI i15, vI i16], vL a9 n9 k9] h_3 fun v_33 h_55 =>
 ∃ (a60 : OA) (n60 k60 : Nat) (a61 : OA) (n61 k61 : Nat) (a62 : OA) (n62 k62 : Nat) (i38 : Int) (c12 : Bool) (i39 i40 : Int), v_33 = vA [vL a60 n60 k60, vL a61 n61 k61, vL a62 n62 k62, vI i38, vB c12, vI i39, vI i40] ∧
 ∃ (m19 : Nat), m19 < m1 ∧ I_1 m19 (IntKind.i64.wrap (i4 + 1)) a60 n60 k60 a61 n61 k61 a62 n62 k62 i38 c4 i39 i40 h_55 ∧
 tv [vL none 0 0, vL none 0 0, vL none 0 0, vI 0, vB false, vI 0, vI 0] ∧ True)
 (br (i8 == 8)
 (br (!c4)
 (Tri Tryz.prog 62 [vA [vL a14 n14 k14, vL a15 n15 k15, vL a16 n16 k16, vI i14, vB c4, vI i15, vI i16], vI 10, vI i9] h_3 fun v_34 h_56 =>
 K64_3 v_34 m1 I_1 i4 h_56)
 (∃ (m21 : Nat), m21 < m1 ∧ I_1 m21 (IntKind.i64.wrap (i4 + 1)) a14 n14 k14 a15 n15 k15 a16 n16 k16 i14 c4 i15 i16 h_3 ∧
 tv [vL none 0 0, vL none 0 0, vL none 0 0, vI 0, vB false, vI 0, vI 0] ∧ True))
 (br (i8 == 9)
 (br (!c4)
 (Tri Tryz.prog 62 [vA [vL a14 n14 k14, vL a15 n15 k15, vL a16 n16 k16, vI i14, vB c4, vI i15, vI i16], vI 10, vI i9] h_3 fun v_35 h_57 =>
 K64_3 v_35 m1 I_1 i4 h_57)
 (∃ (m23 : Nat), m23 < m1 ∧ I_1 m23 (IntKind.i64.wrap (i4 + 1)) a14 n14 k14 a15 n15 k15 a16 n16 k16 i14 c4 i15 i16 h_3 ∧
 tv [vL none 0 0, vL none 0 0, vL none 0 0, vI 0, vB false, vI 0, vI 0] ∧ True))
 (∃ (m24 : Nat), m24 < m1 ∧ I_1 m24 (IntKind.i64.wrap (i4 + 1)) a14 n14 k14 a15 n15 k15 a16 n16 k16 i14 c4 i15 i16 h_3 ∧
 tv [vL none 0 0, vL none 0 0, vL none 0 0, vI 0, vB false, vI 0, vI 0] ∧ True))))))
def R64 (a1 : OA) (n1 : Nat) (dak1 : Nat) (a2 : OA) (n2 : Nat) (dak2 : Nat) (a3 : OA) (n3 : Nat) (dak3 : Nat) (i1 : Int) (c1 : Bool) (i2 : Int) (i3 : Int) (a4 : OA) (n4 : Nat) (dak4 : Nat) (h : PHeap) (Q : Value → PHeap → Prop) : Prop :=
 ∃ (I_1 : Nat → Int → OA → Nat → Nat → OA → Nat → Nat → OA → Nat → Nat → Int → Bool → Int → Int → PHeap → Prop), (∃ (m2 : Nat), I_1 m2 (0 : Int) a1 n1 dak1 a2 n2 dak2 a3 n3 dak3 i1 c1 i2 i3 h) ∧
 ∀ (m1 : Nat) (i4 : Int) (a5 : OA) (n5 : Nat) (dak5 : Nat) (a6 : OA) (n6 : Nat) (k6 : Nat) (a7 : OA) (n7 : Nat) (k7 : Nat) (i5 : Int) (c2 : Bool) (i6 : Int) (i7 : Int) (h_1 : PHeap), I_1 m1 i4 a5 n5 dak5 a6 n6 k6 a7 n7 k7 i5 c2 i6 i7 h_1 →
 br (decide (i4 < ((n4 : Nat) : Int)))
 (∃ (b1 o1 : Nat), a4 = some ⟨b1, o1, none⟩ ∧ (0 ≤ i4 ∧ i4 < n4) ∧
 ∃ (i8 : Int) (l1 : Bs) (a8 : OA) (n8 k8 : Nat) (a9 : OA) (n9 k9 : Nat) (a10 : OA) (n10 k10 : Nat) (i9 : Int), h_1.row b1 (o1 + (i4).toNat * 6) [vI i8, vS l1, vL a8 n8 k8, vL a9 n9 k9, vL a10 n10 k10, vI i9] ∧
 br (i8 == 2)
 (Tri Tryz.prog 104 [vA [vL a5 n5 dak5, vL a6 n6 k6, vL a7 n7 k7, vI i5, vB c2, vI i6, vI i7], vS l1, vB (i8 == 3), vI i9] h_1 fun v_1 h_2 =>
 ∃ (a11 : OA) (n11 k11 : Nat) (a12 : OA) (n12 k12 : Nat) (a13 : OA) (n13 k13 : Nat) (i10 : Int) (c3 : Bool) (i11 i12 : Int), v_1 = vA [vL a11 n11 k11, vL a12 n12 k12, vL a13 n13 k13, vI i10, vB c3, vI i11, vI i12] ∧
 K64_1 a11 n11 k11 a12 n12 k12 a13 n13 k13 i10 c3 i11 i12 h_2 n8 a8 k8 i8 l1 a9 n9 k9 a10 n10 k10 i9 m1 I_1 i4)
 (br (i8 == 3)
 (Tri Tryz.prog 104 [vA [vL a5 n5 dak5, vL a6 n6 k6, vL a7 n7 k7, vI i5, vB c2, vI i6, vI i7], vS l1, vB (i8 == 3), vI i9] h_1 fun v_36 h_58 =>
 ∃ (a69 : OA) (n69 k69 : Nat) (a70 : OA) (n70 k70 : Nat) (a71 : OA) (n71 k71 : Nat) (i47 : Int) (c15 : Bool) (i48 i49 : Int), v_36 = vA [vL a69 n69 k69, vL a70 n70 k70, vL a71 n71 k71, vI i47, vB c15, vI i48, vI i49] ∧
 K64_1 a69 n69 k69 a70 n70 k70 a71 n71 k71 i47 c15 i48 i49 h_58 n8 a8 k8 i8 l1 a9 n9 k9 a10 n10 k10 i9 m1 I_1 i4)
 (K64_1 a5 n5 dak5 a6 n6 k6 a7 n7 k7 i5 c2 i6 i7 h_1 n8 a8 k8 i8 l1 a9 n9 k9 a10 n10 k10 i9 m1 I_1 i4)))
 (Q (vA [vL a5 n5 dak5, vL a6 n6 k6, vL a3 n3 dak3, vI i5, vB c2, vI i6, vI i7]) h_1)
theorem T64 {a1 : OA} {n1 : Nat} {dak1 : Nat} {a2 : OA} {n2 : Nat} {dak2 : Nat} {a3 : OA} {n3 : Nat} {dak3 : Nat} {i1 : Int} {c1 : Bool} {i2 : Int} {i3 : Int} {a4 : OA} {n4 : Nat} {dak4 : Nat} {h : PHeap} {Q : Value → PHeap → Prop} (hR : R64 a1 n1 dak1 a2 n2 dak2 a3 n3 dak3 i1 c1 i2 i3 a4 n4 dak4 h Q) : Tri Tryz.prog 64 [vA [vL a1 n1 dak1, vL a2 n2 dak2, vL a3 n3 dak3, vI i1, vB c1, vI i2, vI i3], vL a4 n4 dak4] h Q :=
 tri_of_dn mixed Tryz.func64 rfl (by kernel_rfl) low64 (rs := [.cell 4 true 7]) (by kernel_rfl) rfl (Eq.mpr (by kernel_rfl : dnF Tryz.prog Tryz.f64.ntmps d64 [.cell 4 true 7] [vA [vL a1 n1 dak1, vL a2 n2 dak2, vL a3 n3 dak3, vI i1, vB c1, vI i2, vI i3], vL a4 n4 dak4] h Q = R64 a1 n1 dak1 a2 n2 dak2 a3 n3 dak3 i1 c1 i2 i3 a4 n4 dak4 h Q) hR)
noncomputable def d104 : DCode := up ⟨[(11, .l [.slice]), (13, .c (.one false [.bool])), (15, .l dak2), (17, .c (.one true dak2)), (18, .l dak2), (22, .l [.slice]), (29, .l [.slice]), (33, .l [.str]), (38, .l [.slice]), (42, .l [qi]), (46, .l dak2), (48, .c (.one true dak2)), (49, .l dak2), (50, .l dak2), (52, .c (.one true dak2))], [], [(19, 32, [(9, qi)], [(8, dak2)])]⟩ (low Tryz.prog (fun _ => false) (Tryz.f104.body.getD .skip))
theorem low104 : low Tryz.prog (fun _ => false) (Tryz.f104.body.getD .skip) = some (eC d104) := by kernel_rfl
def R104 (a1 : OA) (n1 : Nat) (dak1 : Nat) (a2 : OA) (n2 : Nat) (dak2 : Nat) (a3 : OA) (n3 : Nat) (dak3 : Nat) (i1 : Int) (c1 : Bool) (i2 : Int) (i3 : Int) (l1 : Bs) (c2 : Bool) (i4 : Int) (h : PHeap) (Q : Value → PHeap → Prop) : Prop :=
 Tri Tryz.prog 63 [vL a3 n3 dak3, vS l1] h fun v_1 h_1 =>
 ∃ (c3 : Bool), v_1 = vB c3 ∧
 br c3
 (br c2
 (Tri Tryz.prog 62 [vA [vL a1 n1 dak1, vL a2 n2 dak2, vL a3 n3 dak3, vI i1, vB c1, vI i2, vI i3], vI 31, vI i4] h_1 fun v_2 h_2 =>
 ∃ (a4 : OA) (n4 dak4 : Nat) (a5 : OA) (n5 dak5 : Nat) (a6 : OA) (n6 k6 : Nat) (i5 : Int) (c4 : Bool) (i6 i7 : Int), v_2 = vA [vL a4 n4 dak4, vL a5 n5 dak5, vL a6 n6 k6, vI i5, vB c4, vI i6, vI i7] ∧
 Q (vA [vL a4 n4 dak4, vL a5 n5 dak5, vL a6 n6 k6, vI i5, vB c4, vI i6, vI i7]) h_2)
 (Q (vA [vL a1 n1 dak1, vL a2 n2 dak2, vL a3 n3 dak3, vI i1, vB c1, vI i2, vI i3]) h_1))
 (∃ (I_1 : Nat → Int → OA → Nat → Nat → OA → Nat → Nat → OA → Nat → Nat → Int → Bool → Int → Int → PHeap → Prop), (∃ (m2 : Nat), I_1 m2 (0 : Int) none 0 0 none 0 0 none 0 0 (0 : Int) false (0 : Int) (0 : Int) h_1) ∧
 ∀ (m1 : Nat) (i8 : Int) (a7 : OA) (n7 : Nat) (k7 : Nat) (a8 : OA) (n8 : Nat) (k8 : Nat) (a9 : OA) (n9 : Nat) (k9 : Nat) (i9 : Int) (c5 : Bool) (i10 : Int) (i11 : Int) (h_3 : PHeap), I_1 m1 i8 a7 n7 k7 a8 n8 k8 a9 n9 k9 i9 c5 i10 i11 h_3 →
 br (decide (i8 < ((n1 : Nat) : Int)))
 (∃ (b1 o1 : Nat), a1 = some ⟨b1, o1, none⟩ ∧ (0 ≤ i8 ∧ i8 < n1) ∧
 ∃ (l2 : Bs), h_3.cell b1 (o1 + (i8).toNat * 4) = some (vS l2) ∧
 br (l2 == l1)
 (∃ (b2 o2 : Nat), a1 = some ⟨b2, o2, none⟩ ∧ (0 ≤ i8 ∧ i8 < n1) ∧
 ∃ (i12 : Int), h_3.cell b2 ((o2 + (i8).toNat * 4) + 1) = some (vI i12) ∧
 br (!((decide (i12 > 0)) == c2))
 (Tri Tryz.prog 62 [vA [vL a1 n1 dak1, vL a2 n2 dak2, vL a3 n3 dak3, vI i1, vB c1, vI i2, vI i3], vI 31, vI i4] h_3 fun v_3 h_4 =>
 ∃ (a10 : OA) (n10 k10 : Nat) (a11 : OA) (n11 k11 : Nat) (a12 : OA) (n12 k12 : Nat) (i13 : Int) (c6 : Bool) (i14 i15 : Int), v_3 = vA [vL a10 n10 k10, vL a11 n11 k11, vL a12 n12 k12, vI i13, vB c6, vI i14, vI i15] ∧
 Q (vA [vL a10 n10 k10, vL a11 n11 k11, vL a12 n12 k12, vI i13, vB c6, vI i14, vI i15]) h_4)
 (Q (vA [vL a1 n1 dak1, vL a2 n2 dak2, vL a3 n3 dak3, vI i1, vB c1, vI i2, vI i3]) h_3))
 (∃ (m3 : Nat), m3 < m1 ∧ I_1 m3 (IntKind.i64.wrap (i8 + 1)) a7 n7 k7 a8 n8 k8 a9 n9 k9 i9 c5 i10 i11 h_3 ∧
 tv [vL a1 n1 dak1, vL a2 n2 dak2, vL a3 n3 dak3, vI i1, vB c1, vI i2, vI i3] ∧ True))
 (Tri Tryz.prog 62 [vA [vL a1 n1 dak1, vL a2 n2 dak2, vL a3 n3 dak3, vI i1, vB c1, vI i2, vI i3], vI 37, vI i4] h_3 fun v_4 h_5 =>
 ∃ (a13 : OA) (n13 k13 : Nat) (a14 : OA) (n14 k14 : Nat) (a15 : OA) (n15 k15 : Nat) (i16 : Int) (c7 : Bool) (i17 i18 : Int), v_4 = vA [vL a13 n13 k13, vL a14 n14 k14, vL a15 n15 k15, vI i16, vB c7, vI i17, vI i18] ∧
 Q (vA [vL a13 n13 k13, vL a14 n14 k14, vL a15 n15 k15, vI i16, vB c7, vI i17, vI i18]) h_5))
theorem T104 {a1 : OA} {n1 : Nat} {dak1 : Nat} {a2 : OA} {n2 : Nat} {dak2 : Nat} {a3 : OA} {n3 : Nat} {dak3 : Nat} {i1 : Int} {c1 : Bool} {i2 : Int} {i3 : Int} {l1 : Bs} {c2 : Bool} {i4 : Int} {h : PHeap} {Q : Value → PHeap → Prop} (hR : R104 a1 n1 dak1 a2 n2 dak2 a3 n3 dak3 i1 c1 i2 i3 l1 c2 i4 h Q) : Tri Tryz.prog 104 [vA [vL a1 n1 dak1, vL a2 n2 dak2, vL a3 n3 dak3, vI i1, vB c1, vI i2, vI i3], vS l1, vB c2, vI i4] h Q :=
 tri_of_dn mixed Tryz.func104 rfl (by kernel_rfl) low104 (rs := [.cell 8 true 7]) (by kernel_rfl) rfl (Eq.mpr (by kernel_rfl : dnF Tryz.prog Tryz.f104.ntmps d104 [.cell 8 true 7] [vA [vL a1 n1 dak1, vL a2 n2 dak2, vL a3 n3 dak3, vI i1, vB c1, vI i2, vI i3], vS l1, vB c2, vI i4] h Q = R104 a1 n1 dak1 a2 n2 dak2 a3 n3 dak3 i1 c1 i2 i3 l1 c2 i4 h Q) hR)
noncomputable def d105 : DCode := up ⟨[(7, .l [qi]), (10, .l dak2), (12, .l [.str]), (14, .l [qi]), (15, .c (.one true dak2)), (18, .l dak2), (20, .l [.str]), (22, .l [qi]), (23, .c (.one true dak2)), (26, .l dak2), (27, .l dak5), (28, .c (.one true dak2)), (31, .l [.slice]), (36, .l dak2), (38, .l [.slice]), (41, .l dak5), (42, .c (.one true dak2)), (43, .l dak2)], [], [(29, 15, [(5, qi)], [(2, dak2)])]⟩ (low Tryz.prog (fun _ => false) (Tryz.f105.body.getD .skip))
theorem low105 : low Tryz.prog (fun _ => false) (Tryz.f105.body.getD .skip) = some (eC d105) := by kernel_rfl
def K105_1 (a5 : OA) (n5 : Nat) (dak5 : Nat) (a6 : OA) (n6 : Nat) (k6 : Nat) (a7 : OA) (n7 : Nat) (k7 : Nat) (i7 : Int) (c2 : Bool) (i8 : Int) (i9 : Int) (h_1 : PHeap) (n4 : Nat) (a4 : OA) (dak4 : Nat) (i4 : Int) (l1 : Bs) (l2 : Bs) (i5 : Int) (l3 : Bs) (i6 : Int) (Q : Value → PHeap → Prop) : Prop :=
 ∃ (I_1 : Nat → Int → OA → Nat → Nat → OA → Nat → Nat → OA → Nat → Nat → Int → Bool → Int → Int → PHeap → Prop), (∃ (m2 : Nat), I_1 m2 (0 : Int) a5 n5 dak5 a6 n6 k6 a7 n7 k7 i7 c2 i8 i9 h_1) ∧
 ∀ (m1 : Nat) (i10 : Int) (a8 : OA) (n8 : Nat) (k8 : Nat) (a9 : OA) (n9 : Nat) (k9 : Nat) (a10 : OA) (n10 : Nat) (k10 : Nat) (i11 : Int) (c3 : Bool) (i12 : Int) (i13 : Int) (h_2 : PHeap), I_1 m1 i10 a8 n8 k8 a9 n9 k9 a10 n10 k10 i11 c3 i12 i13 h_2 →
 br (decide (i10 < ((n4 : Nat) : Int)))
 (∃ (b1 o1 : Nat), a4 = some ⟨b1, o1, none⟩ ∧ (0 ≤ i10 ∧ i10 < n4) ∧
 ∃ (i14 : Int) (l4 l5 : Bs) (i15 : Int) (l6 : Bs) (a11 : OA) (n11 k11 : Nat) (i16 : Int), h_2.row b1 (o1 + (i10).toNat * 7) [vI i14, vS l4, vS l5, vI i15, vS l6, vL a11 n11 k11, vI i16] ∧
 Tri Tryz.prog 105 [vA [vL a8 n8 k8, vL a9 n9 k9, vL a10 n10 k10, vI i11, vB c3, vI i12, vI i13], vA [vI i14, vS l4, vS l5, vI i15, vS l6, vL a11 n11 k11, vI i16]] h_2 fun v_2 h_3 =>
 ∃ (a12 : OA) (n12 k12 : Nat) (a13 : OA) (n13 k13 : Nat) (a14 : OA) (n14 k14 : Nat) (i17 : Int) (c4 : Bool) (i18 i19 : Int), v_2 = vA [vL a12 n12 k12, vL a13 n13 k13, vL a14 n14 k14, vI i17, vB c4, vI i18, vI i19] ∧
 (tv [vL a4 n4 dak4]) ∧
 ∃ (m3 : Nat), m3 < m1 ∧ I_1 m3 (IntKind.i64.wrap (i10 + 1)) a12 n12 k12 a13 n13 k13 a14 n14 k14 i17 c4 i18 i19 h_3 ∧
 tv [vL none 0 0, vL none 0 0, vL none 0 0, vI 0, vB false, vI 0, vI 0] ∧ tv [vI i4, vS l1, vS l2, vI i5, vS l3, vL a4 n4 dak4, vI i6] ∧ True)
 (Q (vA [vL a8 n8 k8, vL a9 n9 k9, vL a10 n10 k10, vI i11, vB c3, vI i12, vI i13]) h_2)
def R105 (a1 : OA) (n1 : Nat) (dak1 : Nat) (a2 : OA) (n2 : Nat) (dak2 : Nat) (a3 : OA) (n3 : Nat) (dak3 : Nat) (i1 : Int) (c1 : Bool) (i2 : Int) (i3 : Int) (i4 : Int) (l1 : Bs) (l2 : Bs) (i5 : Int) (l3 : Bs) (a4 : OA) (n4 : Nat) (dak4 : Nat) (i6 : Int) (h : PHeap) (Q : Value → PHeap → Prop) : Prop :=
 br (i4 == 3)
 (Tri Tryz.prog 104 [vA [vL a1 n1 dak1, vL a2 n2 dak2, vL a3 n3 dak3, vI i1, vB c1, vI i2, vI i3], vS l2, vB false, vI i6] h fun v_1 h_1 =>
 ∃ (a5 : OA) (n5 dak5 : Nat) (a6 : OA) (n6 k6 : Nat) (a7 : OA) (n7 k7 : Nat) (i7 : Int) (c2 : Bool) (i8 i9 : Int), v_1 = vA [vL a5 n5 dak5, vL a6 n6 k6, vL a7 n7 k7, vI i7, vB c2, vI i8, vI i9] ∧
 K105_1 a5 n5 dak5 a6 n6 k6 a7 n7 k7 i7 c2 i8 i9 h_1 n4 a4 dak4 i4 l1 l2 i5 l3 i6 Q)
 (br (i4 == 4)
 (Tri Tryz.prog 104 [vA [vL a1 n1 dak1, vL a2 n2 dak2, vL a3 n3 dak3, vI i1, vB c1, vI i2, vI i3], vS l2, vB true, vI i6] h fun v_3 h_4 =>
 ∃ (a15 : OA) (n15 k15 : Nat) (a16 : OA) (n16 k16 : Nat) (a17 : OA) (n17 k17 : Nat) (i20 : Int) (c5 : Bool) (i21 i22 : Int), v_3 = vA [vL a15 n15 k15, vL a16 n16 k16, vL a17 n17 k17, vI i20, vB c5, vI i21, vI i22] ∧
 K105_1 a15 n15 k15 a16 n16 k16 a17 n17 k17 i20 c5 i21 i22 h_4 n4 a4 dak4 i4 l1 l2 i5 l3 i6 Q)
 (br (i4 == 5)
 (Tri Tryz.prog 152 [vA [vL a1 n1 dak1, vL a2 n2 dak2, vL a3 n3 dak3, vI i1, vB c1, vI i2, vI i3], vA [vI i4, vS l1, vS l2, vI i5, vS l3, vL a4 n4 dak4, vI i6]] h fun v_5 h_7 =>
 ∃ (a25 : OA) (n25 k25 : Nat) (a26 : OA) (n26 k26 : Nat) (a27 : OA) (n27 k27 : Nat) (i33 : Int) (c8 : Bool) (i34 i35 : Int), v_5 = vA [vL a25 n25 k25, vL a26 n26 k26, vL a27 n27 k27, vI i33, vB c8, vI i34, vI i35] ∧
 K105_1 a25 n25 k25 a26 n26 k26 a27 n27 k27 i33 c8 i34 i35 h_7 n4 a4 dak4 i4 l1 l2 i5 l3 i6 Q)
 (K105_1 a1 n1 dak1 a2 n2 dak2 a3 n3 dak3 i1 c1 i2 i3 h n4 a4 dak4 i4 l1 l2 i5 l3 i6 Q)))
theorem T105 {a1 : OA} {n1 : Nat} {dak1 : Nat} {a2 : OA} {n2 : Nat} {dak2 : Nat} {a3 : OA} {n3 : Nat} {dak3 : Nat} {i1 : Int} {c1 : Bool} {i2 : Int} {i3 : Int} {i4 : Int} {l1 : Bs} {l2 : Bs} {i5 : Int} {l3 : Bs} {a4 : OA} {n4 : Nat} {dak4 : Nat} {i6 : Int} {h : PHeap} {Q : Value → PHeap → Prop} (hR : R105 a1 n1 dak1 a2 n2 dak2 a3 n3 dak3 i1 c1 i2 i3 i4 l1 l2 i5 l3 a4 n4 dak4 i6 h Q) : Tri Tryz.prog 105 [vA [vL a1 n1 dak1, vL a2 n2 dak2, vL a3 n3 dak3, vI i1, vB c1, vI i2, vI i3], vA [vI i4, vS l1, vS l2, vI i5, vS l3, vL a4 n4 dak4, vI i6]] h Q :=
 tri_of_dn mixed Tryz.func105 rfl (by kernel_rfl) low105 (rs := [.cell 4 true 7]) (by kernel_rfl) rfl (Eq.mpr (by kernel_rfl : dnF Tryz.prog Tryz.f105.ntmps d105 [.cell 4 true 7] [vA [vL a1 n1 dak1, vL a2 n2 dak2, vL a3 n3 dak3, vI i1, vB c1, vI i2, vI i3], vA [vI i4, vS l1, vS l2, vI i5, vS l3, vL a4 n4 dak4, vI i6]] h Q = R105 a1 n1 dak1 a2 n2 dak2 a3 n3 dak3 i1 c1 i2 i3 i4 l1 l2 i5 l3 a4 n4 dak4 i6 h Q) hR)
noncomputable def d152 : DCode := up ⟨[(11, .l [.str]), (12, .c (.tup [(false, [qi]), (false, [qi]), (false, [.bool])])), (18, .l [.slice]), (24, .l [.slice]), (29, .l dak2), (31, .l [qi]), (32, .c (.one true dak2)), (33, .l dak2), (37, .l [.slice]), (44, .l [.slice]), (48, .l [.str]), (50, .l [.str]), (54, .l [.slice]), (58, .l [.slice]), (61, .l [.slice]), (64, .l dak2), (66, .l [qi]), (67, .c (.one true dak2)), (68, .l dak2), (69, .l dak2), (71, .l [qi]), (72, .c (.one true dak2))], [], [(34, 36, [(8, qi)], [(4, dak2)])]⟩ (low Tryz.prog (fun _ => false) (Tryz.f152.body.getD .skip))
theorem low152 : low Tryz.prog (fun _ => false) (Tryz.f152.body.getD .skip) = some (eC d152) := by kernel_rfl
def K152_1 (a1 : OA) (n1 : Nat) (dak1 : Nat) (a2 : OA) (n2 : Nat) (dak2 : Nat) (a3 : OA) (n3 : Nat) (dak3 : Nat) (i1 : Int) (c1 : Bool) (i2 : Int) (i3 : Int) (i6 : Int) (h_1 : PHeap) (Q : Value → PHeap → Prop) : Prop :=
 Tri Tryz.prog 62 [vA [vL a1 n1 dak1, vL a2 n2 dak2, vL a3 n3 dak3, vI i1, vB c1, vI i2, vI i3], vI 31, vI i6] h_1 fun v_2 h_2 =>
 ∃ (a5 : OA) (n5 dak5 : Nat) (a6 : OA) (n6 k6 : Nat) (a7 : OA) (n7 k7 : Nat) (i9 : Int) (c3 : Bool) (i10 i11 : Int), v_2 = vA [vL a5 n5 dak5, vL a6 n6 k6, vL a7 n7 k7, vI i9, vB c3, vI i10, vI i11] ∧
 Q (vA [vL a5 n5 dak5, vL a6 n6 k6, vL a7 n7 k7, vI i9, vB c3, vI i10, vI i11]) h_2
def R152 (a1 : OA) (n1 : Nat) (dak1 : Nat) (a2 : OA) (n2 : Nat) (dak2 : Nat) (a3 : OA) (n3 : Nat) (dak3 : Nat) (i1 : Int) (c1 : Bool) (i2 : Int) (i3 : Int) (i4 : Int) (l1 : Bs) (l2 : Bs) (i5 : Int) (l3 : Bs) (a4 : OA) (n4 : Nat) (dak4 : Nat) (i6 : Int) (h : PHeap) (Q : Value → PHeap → Prop) : Prop :=
 Tri Tryz.prog 25 [vS l2] h fun v_1 h_1 =>
 ∃ (i7 i8 : Int) (c2 : Bool), v_1 = vT [vI i7, vI i8, vB c2] ∧
 br c2
 (br (decide (((n4 : Nat) : Int) < i7))
 (K152_1 a1 n1 dak1 a2 n2 dak2 a3 n3 dak3 i1 c1 i2 i3 i6 h_1 Q)
 (br (decide (((n4 : Nat) : Int) > i8))
 (K152_1 a1 n1 dak1 a2 n2 dak2 a3 n3 dak3 i1 c1 i2 i3 i6 h_1 Q)
 (Q (vA [vL a1 n1 dak1, vL a2 n2 dak2, vL a3 n3 dak3, vI i1, vB c1, vI i2, vI i3]) h_1)))
 (∃ (I_1 : Nat → Int → OA → Nat → Nat → OA → Nat → Nat → OA → Nat → Nat → Int → Bool → Int → Int → PHeap → Prop), (∃ (m2 : Nat), I_1 m2 (0 : Int) none 0 0 none 0 0 none 0 0 (0 : Int) false (0 : Int) (0 : Int) h_1) ∧
 ∀ (m1 : Nat) (i15 : Int) (a11 : OA) (n11 : Nat) (k11 : Nat) (a12 : OA) (n12 : Nat) (k12 : Nat) (a13 : OA) (n13 : Nat) (k13 : Nat) (i16 : Int) (c5 : Bool) (i17 : Int) (i18 : Int) (h_4 : PHeap), I_1 m1 i15 a11 n11 k11 a12 n12 k12 a13 n13 k13 i16 c5 i17 i18 h_4 →
 br (decide (i15 < ((n2 : Nat) : Int)))
 (∃ (b1 o1 : Nat), a2 = some ⟨b1, o1, none⟩ ∧ (0 ≤ i15 ∧ i15 < n2) ∧
 ∃ (l4 : Bs), h_4.cell b1 (o1 + (i15).toNat * 4) = some (vS l4) ∧
 br (l4 == l2)
 (∃ (b2 o2 : Nat), a2 = some ⟨b2, o2, none⟩ ∧ (0 ≤ i15 ∧ i15 < n2) ∧
 ∃ (a14 : OA) (n14 k14 : Nat), h_4.cell b2 ((o2 + (i15).toNat * 4) + 1) = some (vL a14 n14 k14) ∧
 br (((n14 : Nat) : Int) != ((n4 : Nat) : Int))
 (K152_1 a1 n1 dak1 a2 n2 dak2 a3 n3 dak3 i1 c1 i2 i3 i6 h_4 Q)
 (Q (vA [vL a1 n1 dak1, vL a2 n2 dak2, vL a3 n3 dak3, vI i1, vB c1, vI i2, vI i3]) h_4))
 (∃ (m3 : Nat), m3 < m1 ∧ I_1 m3 (IntKind.i64.wrap (i15 + 1)) a11 n11 k11 a12 n12 k12 a13 n13 k13 i16 c5 i17 i18 h_4 ∧
 tv [vI i4, vS l1, vS l2, vI i5, vS l3, vL a4 n4 dak4, vI i6] ∧ tv [vL a1 n1 dak1, vL a2 n2 dak2, vL a3 n3 dak3, vI i1, vB c1, vI i2, vI i3] ∧ True))
 (Tri Tryz.prog 62 [vA [vL a1 n1 dak1, vL a2 n2 dak2, vL a3 n3 dak3, vI i1, vB c1, vI i2, vI i3], vI 37, vI i6] h_4 fun v_5 h_6 =>
 ∃ (a18 : OA) (n18 k18 : Nat) (a19 : OA) (n19 k19 : Nat) (a20 : OA) (n20 k20 : Nat) (i22 : Int) (c7 : Bool) (i23 i24 : Int), v_5 = vA [vL a18 n18 k18, vL a19 n19 k19, vL a20 n20 k20, vI i22, vB c7, vI i23, vI i24] ∧
 Q (vA [vL a18 n18 k18, vL a19 n19 k19, vL a20 n20 k20, vI i22, vB c7, vI i23, vI i24]) h_6))
theorem T152 {a1 : OA} {n1 : Nat} {dak1 : Nat} {a2 : OA} {n2 : Nat} {dak2 : Nat} {a3 : OA} {n3 : Nat} {dak3 : Nat} {i1 : Int} {c1 : Bool} {i2 : Int} {i3 : Int} {i4 : Int} {l1 : Bs} {l2 : Bs} {i5 : Int} {l3 : Bs} {a4 : OA} {n4 : Nat} {dak4 : Nat} {i6 : Int} {h : PHeap} {Q : Value → PHeap → Prop} (hR : R152 a1 n1 dak1 a2 n2 dak2 a3 n3 dak3 i1 c1 i2 i3 i4 l1 l2 i5 l3 a4 n4 dak4 i6 h Q) : Tri Tryz.prog 152 [vA [vL a1 n1 dak1, vL a2 n2 dak2, vL a3 n3 dak3, vI i1, vB c1, vI i2, vI i3], vA [vI i4, vS l1, vS l2, vI i5, vS l3, vL a4 n4 dak4, vI i6]] h Q :=
 tri_of_dn mixed Tryz.func152 rfl (by kernel_rfl) low152 (rs := [.cell 4 true 7]) (by kernel_rfl) rfl (Eq.mpr (by kernel_rfl : dnF Tryz.prog Tryz.f152.ntmps d152 [.cell 4 true 7] [vA [vL a1 n1 dak1, vL a2 n2 dak2, vL a3 n3 dak3, vI i1, vB c1, vI i2, vI i3], vA [vI i4, vS l1, vS l2, vI i5, vS l3, vL a4 n4 dak4, vI i6]] h Q = R152 a1 n1 dak1 a2 n2 dak2 a3 n3 dak3 i1 c1 i2 i3 i4 l1 l2 i5 l3 a4 n4 dak4 i6 h Q) hR)
end Go.Proofs.D
namespace Go.Proofs.D
open Go Go.Den Go.Sx
set_option maxRecDepth 100000
attribute [local irreducible] IntKind.wrap Tri parseS

def erR : Er → Int × Int
  | none => (0, 0)
  | some (c, none) => (c, 0)
  | some (c, some n) => (c, n)
def glO (p : Pg) : Tab := p.globals.map fun x => (x.name, x.size)
def fnO (p : Pg) : Tab := p.funcs.map fun x => (x.name, x.params.length)

structure RC where
  ga : OA
  gn : Nat
  gc : Nat
  fa : OA
  fn : Nat
  fc : Nat
  va : OA
  vn : Nat
  vc : Nat
  cnt : Nat
  lp : Bool
  err : Er
def RC.l (x : RC) : List Value := [vL x.ga x.gn x.gc, vL x.fa x.fn x.fc, vL x.va x.vn x.vc, vI x.cnt, vB x.lp, vI (erR x.err).1, vI (erR x.err).2]
def eok (e : Er) : Prop := ∀ x, e = some x → x.1 ≠ 0
theorem eok.fail {e : Er} (h : eok e) (b : Bool) (pos : Option Nat) {c : Nat} (hc : c ≠ 0) : eok (failC b pos c e) := fun x hx => by
  cases e with
  | some y => exact h x hx
  | none => simp only [failC] at hx; split at hx
            · cases hx; exact hc
            · cases hx
theorem failC_some {b : Bool} {p : Option Nat} {c : Nat} {x : Nat × Option Nat} : failC b p c (some x) = some x := rfl
theorem failC_false {p : Option Nat} {c : Nat} (e : Er) : failC false p c e = e := by cases e <;> rfl
theorem failC_twice {b : Bool} {p q : Option Nat} {c d : Nat} (e : Er) : failC b p c (failC true q d e) = failC true q d e := by cases e <;> rfl

theorem bad_r (x : RC) (hx : eok x.err) (code pos : Nat) (h : PHeap) : Tri Tryz.prog 62 [vA x.l, vI code, vI pos] h fun v h' => v = vA { x with err := failC true (some pos) code x.err }.l ∧ h' = h := by
  refine T62 ?_
  unfold R62
  cases he : x.err with
  | none => exact br_pos rfl ⟨rfl, rfl⟩
  | some y =>
    have h0 := hx y he
    have : (erR (some y)).1 = y.1 := by obtain ⟨a, b⟩ := y; cases b <;> rfl
    exact br_neg (by rw [this]; simpa using h0) ⟨rfl, rfl⟩

theorem has_r {h : PHeap} {a : OA} {L : List Bytes} {c : Nat} (w : Bytes) (hs : StrAt h a L) (hl : L.length ≤ 1000000) : Tri Tryz.prog 63 [vL a L.length c, vS w] h fun v h' => v = vB (L.contains w) ∧ h' = h := by
  refine T63 ?_
  unfold R63
  refine ⟨fun m i h' => h' = h ∧ ∃ j : Nat, i = j ∧ j + m = L.length ∧ (L.drop j).contains w = L.contains w, ⟨L.length, rfl, 0, rfl, by omega, rfl⟩, ?_⟩
  rintro m _ h1 ⟨rfl, j, rfl, hjm, he⟩
  refine br_split (fun e => ?_) (fun e => ?_)
  · have hj : j < L.length := by have := of_decide_eq_true e; omega
    obtain ⟨b, o, rfl, hc⟩ := hs.get hj
    rw [List.drop_eq_getElem_cons hj, List.contains_cons] at he
    refine ⟨b, o, rfl, ⟨by omega, by omega⟩, _, hc, br_split (fun e2 => ?_) (fun e2 => ?_)⟩
    · refine ⟨?_, rfl⟩
      have : (w == L[j]) = true := by rw [beq_iff_eq] at e2 ⊢; exact e2.symm
      rw [← he, this]; rfl
    · have : (w == L[j]) = false := by rw [Bool.beq_comm]; exact e2
      refine ⟨m - 1, by omega, ⟨rfl, j + 1, ?_, by omega, ?_⟩, trivial⟩
      · rw [wrap64 (by omega) (by omega)]; rfl
      · rw [← he, this, Bool.false_or]
  · have hj : L.length ≤ j := by have := of_decide_eq_false e; omega
    rw [List.drop_eq_nil_of_le hj] at he
    exact ⟨by rw [← he]; rfl, rfl⟩

theorem builtin_r (l : Bytes) (h : PHeap) : Tri Tryz.prog 25 [vS l] h fun v h' => v = (match builtinS l with | some (a, b) => vT [vI a, vI b, vB true] | none => vT [vI 0, vI 0, vB false]) ∧ h' = h := by
  refine T25 ?_
  unfold R25
  unfold builtinS
  refine br_split (fun e => ?_) (fun e => ?_)
  · rw [if_pos e]; exact ⟨rfl, rfl⟩
  rw [if_neg (by rw [e]; decide)]
  refine br_split (fun e => ?_) (fun e => ?_)
  · rw [if_pos e]; exact ⟨rfl, rfl⟩
  rw [if_neg (by rw [e]; decide)]
  refine br_split (fun e => ?_) (fun e => ?_)
  · rw [if_pos e]; exact ⟨rfl, rfl⟩
  rw [if_neg (by rw [e]; decide)]
  exact ⟨rfl, rfl⟩

structure RK (p : Pg) (h : PHeap) (x : RC) (vis : List Bytes) : Prop where
  gn : x.gn = p.globals.length
  fn : x.fn = p.funcs.length
  vn : x.vn = vis.length
  gl : At 4 (RG plR) h x.ga p.globals
  fu : At 4 (RF plR 7 6) h x.fa p.funcs
  vi : StrAt h x.va vis
  ok : okN x.va vis.length x.vc
  er : eok x.err

section
variable {p : Pg} {h h' : PHeap} {x : RC} {vis : List Bytes}

theorem RK.ext (hk : RK p h x vis) (hx : Ext h h') : RK p h' x vis := ⟨hk.gn, hk.fn, hk.vn, hk.gl.ext (RG_mono _) hx, hk.fu.ext (RF_mono _ _ _) hx, hk.vi.ext hx, hk.ok, hk.er⟩
theorem RK.fail (hk : RK p h x vis) (b : Bool) (pos : Option Nat) {c : Nat} (hc : c ≠ 0) : RK p h { x with err := failC b pos c x.err } vis := ⟨hk.gn, hk.fn, hk.vn, hk.gl, hk.fu, hk.vi, hk.ok, hk.er.fail b pos hc⟩
theorem RK.to {e : Er} (hk : RK p h x vis) (he : eok e) : RK p h { x with err := e } vis := ⟨hk.gn, hk.fn, hk.vn, hk.gl, hk.fu, hk.vi, hk.ok, he⟩

theorem varC_ok {gl : Tab} {nm : Bytes} {arr : Bool} {pos : Nat} {e : Er} (he : eok e) : eok (varC gl vis nm arr pos e) := by
  unfold varC
  split
  · exact he.fail _ _ (by decide)
  · exact (he.fail _ _ (by decide)).fail _ _ (by decide)
theorem callC_ok {fn : Tab} {nm : Bytes} {n pos : Nat} {e : Er} (he : eok e) : eok (callC fn nm n pos e) := by
  unfold callC
  split
  · exact he.fail _ _ (by decide)
  · exact (he.fail _ _ (by decide)).fail _ _ (by decide)

theorem name_r (hk : RK p h x vis) (hg : p.globals.length ≤ 1000000) (hl : vis.length ≤ 1000000) (nm : Bytes) (arr : Bool) (pos : Nat) :
    Tri Tryz.prog 104 [vA x.l, vS nm, vB arr, vI pos] h fun v h' => v = vA { x with err := varC (glO p) vis nm arr pos x.err }.l ∧ h' = h := by
  refine T104 ?_
  unfold R104
  have hvn := hk.vn
  have hgn := hk.gn
  have hct := has_r (c := x.vc) nm hk.vi hl
  rw [← hvn] at hct
  refine Tri.mono hct ?_
  rintro _ h ⟨rfl, rfl⟩
  refine ⟨_, rfl, br_split (fun e => ?_) (fun e => ?_)⟩
  · refine br_split (fun ea => ?_) (fun ea => ?_)
    · refine Tri.mono (bad_r x hk.er 31 pos h) ?_
      rintro _ h ⟨rfl, rfl⟩
      refine ⟨_, _, _, _, _, _, _, _, _, _, _, _, _, rfl, ?_, rfl⟩
      rw [varC, if_pos e, ea]; rfl
    · refine ⟨?_, rfl⟩
      rw [varC, if_pos e, ea, show (false != false) = false from rfl, failC_false]; rfl
  have hne : ¬ vis.contains nm = true := by rw [e]; decide
  refine ⟨fun m i _ _ _ _ _ _ _ _ _ _ _ _ _ h' => h' = h ∧ ∃ j : Nat, i = j ∧ j + m = p.globals.length ∧ getT ((p.globals.drop j).map fun x => (x.name, x.size)) nm = getT (glO p) nm, ⟨p.globals.length, rfl, 0, rfl, by omega, rfl⟩, ?_⟩
  rintro m _ a7 n7 k7 a8 n8 k8 a9 n9 k9 i9 c5 i10 i11 h1 ⟨rfl, j, rfl, hjm, he⟩
  refine br_split (fun e2 => ?_) (fun e2 => ?_)
  · have hj : j < p.globals.length := by have := of_decide_eq_true e2; omega
    obtain ⟨b, o, cs, ha, hr, hrel⟩ := hk.gl.get hj
    rw [List.drop_eq_getElem_cons hj] at he
    generalize p.globals[j] = y at *
    have hrel : cs = [vS y.name, vI y.size, vI y.value] ++ plR y.pos := hrel
    subst hrel
    refine ⟨b, o, ha, ⟨by omega, by omega⟩, _, hr.1, br_split (fun e3 => ?_) (fun e3 => ?_)⟩
    · have e3 : (nm == y.name) = true := by rw [beq_iff_eq] at e3 ⊢; exact e3.symm
      simp only [List.map_cons, getT, e3, if_true] at he
      have hs : (!((decide (((y.size : Nat) : Int) > 0)) == arr)) = (arr != (y.size != 0)) := by
        have : decide (((y.size : Nat) : Int) > 0) = (y.size != 0) := by rw [Bool.eq_iff_iff]; simp; omega
        rw [this, Bool.beq_comm]; rfl
      refine ⟨b, o, ha, ⟨by omega, by omega⟩, _, hr.2.1, br_split (fun e4 => ?_) (fun e4 => ?_)⟩
      · rw [hs] at e4
        refine Tri.mono (bad_r x hk.er 31 pos h1) ?_
        rintro _ h ⟨rfl, rfl⟩
        refine ⟨_, _, _, _, _, _, _, _, _, _, _, _, _, rfl, ?_, rfl⟩
        rw [varC, if_neg hne, ← he]
        simp only [Option.getD_some, Option.isNone_some, e4, failC_false]; rfl
      · rw [hs] at e4
        refine ⟨?_, rfl⟩
        rw [varC, if_neg hne, ← he]
        simp only [Option.getD_some, Option.isNone_some, e4, failC_false]; rfl
    · have e3 : (nm == y.name) = false := by rw [Bool.beq_comm]; exact e3
      simp only [List.map_cons, getT, e3] at he
      refine ⟨m - 1, by omega, ⟨rfl, j + 1, ?_, by omega, he⟩, rfl, trivial⟩
      rw [wrap64 (by omega) (by omega)]; rfl
  · have hj : p.globals.length ≤ j := by have := of_decide_eq_false e2; omega
    rw [List.drop_eq_nil_of_le hj] at he
    refine Tri.mono (bad_r x hk.er 37 pos h1) ?_
    rintro _ h ⟨rfl, rfl⟩
    refine ⟨_, _, _, _, _, _, _, _, _, _, _, _, _, rfl, ?_, rfl⟩
    rw [varC, if_neg hne, ← he]
    simp only [List.map_nil, getT, Option.isNone_none, failC_twice]; rfl

theorem call_r (hk : RK p h x vis) (hg : p.funcs.length ≤ 1000000) (kd : Nat) (op nm : Bytes) (vl : Nat) (tx : Bytes) (a : OA) (n c pos : Nat) :
    Tri Tryz.prog 152 [vA x.l, vA [vI kd, vS op, vS nm, vI vl, vS tx, vL a n c, vI pos]] h fun v h' => v = vA { x with err := callC (fnO p) nm n pos x.err }.l ∧ h' = h := by
  refine T152 ?_
  unfold R152
  refine Tri.mono (builtin_r nm h) ?_
  rintro _ h ⟨rfl, rfl⟩
  have hfn := hk.fn
  have hbad : ∀ h1 : PHeap, h1 = h → callC (fnO p) nm n pos x.err = failC true (some pos) 31 x.err → K152_1 x.ga x.gn x.gc x.fa x.fn x.fc x.va x.vn x.vc x.cnt x.lp (erR x.err).1 (erR x.err).2 pos h1 fun v h' => v = vA { x with err := callC (fnO p) nm n pos x.err }.l ∧ h' = h := fun h1 e1 e2 => by
    subst e1
    unfold K152_1
    refine Tri.mono (bad_r x hk.er 31 pos h1) ?_
    rintro _ h ⟨rfl, rfl⟩
    exact ⟨_, _, _, _, _, _, _, _, _, _, _, _, _, rfl, by rw [e2]; rfl, rfl⟩
  cases hb : builtinS nm with
  | some y =>
    obtain ⟨lo, hi⟩ := y
    have hcc : callC (fnO p) nm n pos x.err = failC (decide (n < lo) || decide (hi < n)) (some pos) 31 x.err := by rw [callC, hb]
    refine ⟨_, _, _, rfl, br_pos rfl (br_split (fun e => ?_) (fun e => br_split (fun e2 => ?_) (fun e2 => ?_)))⟩
    · have e : n < lo := by have := of_decide_eq_true e; omega
      exact hbad _ rfl (by rw [hcc, decide_eq_true e]; rfl)
    · have e2 : hi < n := by have := of_decide_eq_true e2; omega
      exact hbad _ rfl (by rw [hcc, decide_eq_true e2, Bool.or_true])
    · have e : ¬ n < lo := by have := of_decide_eq_false e; omega
      have e2 : ¬ hi < n := by have := of_decide_eq_false e2; omega
      refine ⟨?_, rfl⟩
      rw [hcc, decide_eq_false e, decide_eq_false e2, show (false || false) = false from rfl, failC_false]; rfl
  | none =>
    have hcc : callC (fnO p) nm n pos x.err = failC (decide (n < (getT (fnO p) nm).getD 0) || decide ((getT (fnO p) nm).getD 0 < n)) (some pos) 31 (failC (getT (fnO p) nm).isNone (some pos) 37 x.err) := by rw [callC, hb]
    refine ⟨_, _, _, rfl, br_neg rfl ?_⟩
    refine ⟨fun m i _ _ _ _ _ _ _ _ _ _ _ _ _ h' => h' = h ∧ ∃ j : Nat, i = j ∧ j + m = p.funcs.length ∧ getT ((p.funcs.drop j).map fun x => (x.name, x.params.length)) nm = getT (fnO p) nm, ⟨p.funcs.length, rfl, 0, rfl, by omega, rfl⟩, ?_⟩
    rintro m _ a7 n7 k7 a8 n8 k8 a9 n9 k9 i9 c5 i10 i11 h1 ⟨rfl, j, rfl, hjm, he⟩
    refine br_split (fun e2 => ?_) (fun e2 => ?_)
    · have hj : j < p.funcs.length := by have := of_decide_eq_true e2; omega
      obtain ⟨b, o, cs, ha, hr, hrel⟩ := hk.fu.get hj
      rw [List.drop_eq_getElem_cons hj] at he
      generalize p.funcs[j] = y at *
      obtain ⟨pa, pc, ba, bc, rfl, hP, hB, hok⟩ := hrel
      refine ⟨b, o, ha, ⟨by omega, by omega⟩, _, hr.1, br_split (fun e3 => ?_) (fun e3 => ?_)⟩
      · have e3 : (nm == y.name) = true := by rw [beq_iff_eq] at e3 ⊢; exact e3.symm
        simp only [List.map_cons, getT, e3, if_true] at he
        have hs : (((y.params.length : Nat) : Int) != ((n : Nat) : Int)) = (decide (n < y.params.length) || decide (y.params.length < n)) := by rw [Bool.eq_iff_iff]; simp; omega
        rw [← he] at hcc
        simp only [Option.getD_some, Option.isNone_some, failC_false] at hcc
        refine ⟨b, o, ha, ⟨by omega, by omega⟩, _, _, _, hr.2.1, br_split (fun e4 => ?_) (fun e4 => ?_)⟩
        · rw [hs] at e4
          exact hbad _ rfl (by rw [hcc, e4])
        · rw [hs] at e4
          refine ⟨?_, rfl⟩
          rw [hcc, e4, failC_false]; rfl
      · have e3 : (nm == y.name) = false := by rw [Bool.beq_comm]; exact e3
        simp only [List.map_cons, getT, e3] at he
        refine ⟨m - 1, by omega, ⟨rfl, j + 1, ?_, by omega, he⟩, rfl, rfl, trivial⟩
        rw [wrap64 (by omega) (by omega)]; rfl
    · have hj : p.funcs.length ≤ j := by have := of_decide_eq_false e2; omega
      rw [List.drop_eq_nil_of_le hj] at he
      refine Tri.mono (bad_r x hk.er 37 pos h1) ?_
      rintro _ h ⟨rfl, rfl⟩
      refine ⟨_, _, _, _, _, _, _, _, _, _, _, _, _, rfl, ?_, rfl⟩
      rw [hcc, ← he]
      simp only [List.map_nil, getT, Option.isNone_none, failC_twice]; rfl
end
end Go.Proofs.D
namespace Go.Sx
theorem varC_some {gl : Tab} {vis : List Bytes} {nm : Bytes} {arr : Bool} {pos : Nat} {x : Nat × Option Nat} : varC gl vis nm arr pos (some x) = some x := by unfold varC; split <;> rfl
theorem callC_some {fn : Tab} {nm : Bytes} {n pos : Nat} {x : Nat × Option Nat} : callC fn nm n pos (some x) = some x := by unfold callC; split <;> rfl
mutual
theorem ckE_some {gl fn : Tab} {vis : List Bytes} {x : Nat × Option Nat} : ∀ (e : E), ckE gl fn vis e (some x) = some x
  | .mk k _ _ _ _ args _ => by
    rw [ckE]
    split
    · rw [varC_some]; exact ckEs_some args
    · split
      · rw [callC_some]; exact ckEs_some args
      · exact ckEs_some args
theorem ckEs_some {gl fn : Tab} {vis : List Bytes} {x : Nat × Option Nat} : ∀ (l : List E), ckEs gl fn vis l (some x) = some x
  | [] => rfl
  | e :: l => by rw [ckEs, ckE_some e]; exact ckEs_some l
end
end Go.Sx
namespace Go.Proofs.D
open Go Go.Den Go.Sx
set_option maxRecDepth 100000
attribute [local irreducible] IntKind.wrap Tri parseS

def RC.is (x : RC) (a1 : OA) (n1 k1 : Nat) (a2 : OA) (n2 k2 : Nat) (a3 : OA) (n3 k3 : Nat) (i1 : Int) (c1 : Bool) (i2 i3 : Int) : Prop :=
  a1 = x.ga ∧ n1 = x.gn ∧ k1 = x.gc ∧ a2 = x.fa ∧ n2 = x.fn ∧ k2 = x.fc ∧ a3 = x.va ∧ n3 = x.vn ∧ k3 = x.vc ∧ i1 = x.cnt ∧ c1 = x.lp ∧ i2 = (erR x.err).1 ∧ i3 = (erR x.err).2
theorem RC.self (x : RC) : x.is x.ga x.gn x.gc x.fa x.fn x.fc x.va x.vn x.vc x.cnt x.lp (erR x.err).1 (erR x.err).2 := ⟨rfl, rfl, rfl, rfl, rfl, rfl, rfl, rfl, rfl, rfl, rfl, rfl, rfl⟩

mutual
theorem ckE_ok {gl fn : Tab} {vis : List Bytes} : ∀ (e : E) {er : Er}, eok er → eok (ckE gl fn vis e er)
  | .mk k _ _ _ _ args _, er, h => by
    rw [ckE]
    refine ckEs_ok args ?_
    split
    · exact varC_ok h
    · split
      · exact callC_ok h
      · exact h
theorem ckEs_ok {gl fn : Tab} {vis : List Bytes} : ∀ (l : List E) {er : Er}, eok er → eok (ckEs gl fn vis l er)
  | [], _, h => h
  | e :: l, _, h => ckEs_ok l (ckE_ok e h)
end

section
variable {p : Pg} {g : PHeap}

def XR (p : Pg) (e : E) : Prop := ∀ cs x vis h, RE plR 7 h e cs → RK p h x vis → vis.length ≤ 1000000 →
  Tri Tryz.prog 105 [vA x.l, vA cs] h fun v h' => v = vA { x with err := ckE (glO p) (fnO p) vis e x.err }.l ∧ h' = h

theorem expr_r (hg : p.globals.length ≤ 1000000) (hf : p.funcs.length ≤ 1000000) : ∀ k e, cntE e ≤ k → k ≤ 1000000 → XR p e := by
  intro k
  induction k with
  | zero => intro e he; have := cntE_pos e; omega
  | succ k ih =>
    intro e he hk5 cs x vis h hrel hk hl
    match e, he, hrel with
    | .mk kd op nm vl tx args pos, he, hrel =>
    obtain ⟨a1, c1, rfl, hA1⟩ := RE_iff.1 hrel
    simp only [cntE] at he
    have hlen := cntEs_len args
    have hih : ∀ e ∈ args, XR p e := fun e hm => ih e (by have := cntEs_mem hm; omega) (by omega)
    refine T105 ?_
    unfold R105
    have loop : ∀ (e0 : Er), eok e0 → (e0 = if kd = 3 ∨ kd = 4 then varC (glO p) vis nm (kd == 4) pos x.err else if kd = 5 then callC (fnO p) nm args.length pos x.err else x.err) →
        K105_1 x.ga x.gn x.gc x.fa x.fn x.fc x.va x.vn x.vc x.cnt x.lp (erR e0).1 (erR e0).2 h args.length a1 c1 kd op nm vl tx pos fun v h' => v = vA { x with err := ckE (glO p) (fnO p) vis (.mk kd op nm vl tx args pos) x.err }.l ∧ h' = h := by
      intro e0 hok0 he0
      unfold K105_1
      refine ⟨fun m i a1 n1 k1 a2 n2 k2 a3 n3 k3 i1 c1 i2 i3 h' => h' = h ∧ ∃ (j : Nat) (e : Er), i = j ∧ j + m = args.length ∧ eok e ∧ { x with err := e }.is a1 n1 k1 a2 n2 k2 a3 n3 k3 i1 c1 i2 i3 ∧ ckEs (glO p) (fnO p) vis (args.drop j) e = ckEs (glO p) (fnO p) vis args e0,
        ⟨args.length, rfl, 0, e0, rfl, by omega, hok0, RC.self _, rfl⟩, ?_⟩
      rintro m _ _ _ _ _ _ _ _ _ _ _ _ _ _ h1 ⟨rfl, j, e, rfl, hjm, hoke, ⟨rfl, rfl, rfl, rfl, rfl, rfl, rfl, rfl, rfl, rfl, rfl, rfl, rfl⟩, hee⟩
      refine br_split (fun e2 => ?_) (fun e2 => ?_)
      · have hj : j < args.length := by have := of_decide_eq_true e2; omega
        obtain ⟨b, o, cs, ha, hr, hrel⟩ := hA1.get hj
        have ihj := hih _ (List.getElem_mem hj) _ _ _ _ hrel (hk.to hoke) hl
        rw [ckEs_drop hj] at hee
        generalize args[j] = y at *
        match y, hrel with
        | .mk kd' op' nm' vl' tx' args' pos', hrel =>
        obtain ⟨a3, c3, rfl, hA3⟩ := RE_iff.1 hrel
        refine ⟨b, o, ha, ⟨by omega, by omega⟩, _, _, _, _, _, _, _, _, _, hr, ?_⟩
        refine Tri.mono ihj ?_
        rintro _ h2 ⟨rfl, rfl⟩
        refine ⟨_, _, _, _, _, _, _, _, _, _, _, _, _, rfl, rfl, m - 1, by omega, ⟨rfl, j + 1, _, ?_, by omega, ckE_ok _ hoke, RC.self _, hee⟩, rfl, rfl, trivial⟩
        rw [wrap64 (by omega) (by omega)]; rfl
      · have hj : args.length ≤ j := by have := of_decide_eq_false e2; omega
        rw [List.drop_eq_nil_of_le hj] at hee
        have hee : e = ckEs (glO p) (fnO p) vis args e0 := hee
        refine ⟨?_, rfl⟩
        rw [ckE, ← he0, ← hee]; rfl
    refine br_split (fun e => ?_) (fun e3 => ?_)
    · have e : kd = 3 := by have := beq_iff_eq.1 e; omega
      subst e
      refine Tri.mono (name_r hk hg hl nm _ pos) ?_
      rintro _ h1 ⟨rfl, rfl⟩
      exact ⟨_, _, _, _, _, _, _, _, _, _, _, _, _, rfl, loop _ (varC_ok hk.er) rfl⟩
    refine br_split (fun e => ?_) (fun e4 => ?_)
    · have e : kd = 4 := by have := beq_iff_eq.1 e; omega
      subst e
      refine Tri.mono (name_r hk hg hl nm _ pos) ?_
      rintro _ h1 ⟨rfl, rfl⟩
      exact ⟨_, _, _, _, _, _, _, _, _, _, _, _, _, rfl, loop _ (varC_ok hk.er) rfl⟩
    have e3 : kd ≠ 3 := fun e => by subst e; cases e3
    have e4 : kd ≠ 4 := fun e => by subst e; cases e4
    refine br_split (fun e => ?_) (fun e5 => ?_)
    · have e : kd = 5 := by have := beq_iff_eq.1 e; omega
      subst e
      refine Tri.mono (call_r hk hf 5 op nm vl tx a1 args.length c1 pos) ?_
      rintro _ h1 ⟨rfl, rfl⟩
      exact ⟨_, _, _, _, _, _, _, _, _, _, _, _, _, rfl, loop _ (callC_ok hk.er) rfl⟩
    · have e5 : kd ≠ 5 := fun e => by subst e; cases e5
      exact loop _ hk.er (by rw [if_neg (by omega), if_neg e5])

theorem raw_append0 {h : PHeap} {ρ : Operand → Value} {c : Call} {x y : Operand} {t e ty : TypeId} {i : TypeInfo} {b k : Nat} (hc : c.callee = .builtin .append) (ha : c.args = #[x, y]) (hts : c.argTypes = #[t, t]) (hu : Tryz.prog.underlying t = some (.slice e)) (hi : Tryz.prog.info? e = some i)
    (hx : ρ x = vL (ad b 0) 0 0) (hy : ρ y = vL none 0 k) : Raw Tryz.prog (execOp ρ (mkO (.call c) ty)) h fun v h' => v = vL (ad b 0) 0 0 ∧ h' = h := by
  intro w hs
  have hsr := SrcH.nil (P := Tryz.prog) (h := h) (k := i.size) (c := k) hu w hs
  have hexec : (execOp ρ (mkO (.call c) ty)).run Tryz.prog w = ((Builtin.append_ #[t, t] ty #[vL (ad b 0) 0 0, vL none 0 k]).run Tryz.prog w).andThen fun v w' => .ok (.value v) w' := by
    simp [execOp, mkO, resolve, hc, ha, hts, hx, hy, invoke, builtin]
  have hrun : (Builtin.append_ #[t, t] ty #[vL (ad b 0) 0 0, vL none 0 k]).run Tryz.prog w = .ok (vL (ad b 0) 0 0) w := by
    simp [Builtin.append_, run_underlying hu, sizeOf, typeInfo, hi, hsr.len, hsr.cells, addNone, storeCells]
  exact ⟨_, _, w, h, by rw [hexec, hrun]; rfl, .inl rfl, ⟨rfl, rfl⟩, hs, Keep.refl w h⟩
end
end Go.Proofs.D
namespace Go.Sx
def CS.inv (c : CS) : Prop := c.err = none → c.cnt ≤ 32
theorem failC_none {b : Bool} {p : Option Nat} {k : Nat} {e : Er} (h : failC b p k e = none) : e = none := by cases e <;> simp_all [failC]
theorem none_of {f : Er → Er} (hf : ∀ x, f (some x) = some x) {e : Er} (h : f e = none) : e = none := by
  cases e with
  | none => rfl
  | some x => rw [hf] at h; cases h
end Go.Sx
namespace Go.Proofs.D
open Go Go.Den Go.Sx
set_option maxRecDepth 100000
attribute [local irreducible] IntKind.wrap Tri parseS
section
variable {h0 h h' : PHeap} {vis : List Bytes} {nm : Bytes}

theorem catA {ρ : Operand → Value} {x y : Operand} {b : Nat} {a : OA} {k : Nat} (hx : ρ x = vL (ad b 0) 0 0) (hy : ρ y = vL a vis.length k) (hb : h b = some (.cells ⟨[]⟩ 9)) (hs : StrAt h a vis) (hok : okN a vis.length k) (hl : vis.length ≤ 1000000) {ty : TypeId} :
    Raw Tryz.prog (execOp ρ (mkO (.call { callee := .builtin .append, args := #[x, y], argTypes := #[51, 51] }) ty)) h fun v h' => ∃ a' k', v = vL a' vis.length k' ∧ Own h' 9 1 (vL a' vis.length k') vis.length (vis.map fun l => vS l) ∧
      (∀ q o, q ≠ b → h q = some o → h' q = some o) ∧ ∀ q, a' = ad q 0 → q = b ∨ h q = none := by
  by_cases h0 : vis.length = 0
  · obtain ⟨rfl, rfl⟩ := hok.2 h0
    obtain rfl := List.eq_nil_of_length_eq_zero h0
    refine Raw.mono (raw_append0 (i := Tryz.t9) rfl rfl rfl und51 rfl hx hy) ?_
    rintro _ h' ⟨rfl, rfl⟩
    exact ⟨_, _, rfl, ⟨by simp, .inr ⟨b, 0, [], rfl, hb, by simp, by simp⟩⟩, fun q o _ hq => hq, fun q hq => .inl (by injection hq with hq; injection hq with hq; exact hq.symm)⟩
  rcases hs with hs | ⟨sb, so, rfl, hs⟩
  · subst hs; simp at h0
  have hrow : h.row sb so (vis.map fun l => vS l) := Go.Den.row_of _ _ fun j v hj => by
    rw [List.getElem?_map] at hj
    cases hL : vis[j]? with
    | none => rw [hL] at hj; cases hj
    | some l => rw [hL] at hj; cases hj; exact hs j l hL
  have hone : ∀ (L : List Bytes), allOne (L.map fun l => vS l) = true := fun L => by
    induction L with
    | nil => rfl
    | cons x L ih => exact ih
  refine Raw.mono (raw_append (i := Tryz.t9) rfl rfl rfl und51 rfl rfl hx hy (n := 0) (xs := []) ⟨by simp, .inr ⟨b, 0, [], rfl, hb, by simp, by omega⟩⟩ (SrcH.row und51 (by rw [List.length_map]; show vis.length = vis.length * 1; omega) hrow (hone _)) rfl (by omega) (by show (16 * (0 + vis.length) + 16384) * 16 ≤ _; omega) (by omega)) ?_
  rintro _ h2 ⟨b', cap, rest, rfl, rfl, hr, hcap, hb'⟩
  have hn : b' = b ∨ h b' = none := by
    rcases hb' with hb' | ⟨_, hb'⟩
    · exact .inr hb'
    · injection hb' with hb'; injection hb' with hb'; injection hb' with hb'; exact .inl hb'.symm
  refine ⟨_, _, by rw [Nat.zero_add], ⟨by simp, .inr ⟨b', cap, rest, rfl, by rw [put_same]; rfl, ?_, by omega⟩⟩, ?_, fun q hq => ?_⟩
  · rw [hr, Nat.zero_add]; rfl
  · intro q o hq ho
    refine (put_ne (fun e => ?_)).trans ho
    subst e
    rcases hn with hn | hn
    · exact hq hn
    · rw [hn] at ho; cases ho
  · injection hq with hq; injection hq with hq; subst hq; exact hn

theorem catB {ρ : Operand → Value} {x y : Operand} {b : Nat} {a : OA} {k : Nat} (hx : ρ x = vL a vis.length k) (hy : ρ y = vL (ad b 0) 1 1) (ho : Own h 9 1 (vL a vis.length k) vis.length (vis.map fun l => vS l)) (hb : h b = some (.cells ⟨[vS nm]⟩ 9)) (hx0 : Ext h0 h) (ha : ∀ q, a = ad q 0 → h0 q = none) (hl : vis.length ≤ 1000000) {ty : TypeId} :
    Raw Tryz.prog (execOp ρ (mkO (.call { callee := .builtin .append, args := #[x, y], argTypes := #[51, 51] }) ty)) h fun v h' => ∃ a' k', v = vL a' (vis ++ [nm]).length k' ∧ Ext h0 h' ∧ StrAt h' a' (vis ++ [nm]) ∧ okN a' (vis ++ [nm]).length k' := by
  refine Raw.mono (append_one und51 elem9 rfl rfl rfl hx hy ho hb rfl rfl (by omega)) ?_
  rintro _ h' ⟨b', cap, rfl, ho', hor, hc⟩
  have hlen : (vis ++ [nm]).length = vis.length + 1 := by simp
  refine ⟨ad b' 0, cap, by rw [hlen], fun q o hq => ?_, Own.str hlen.symm (by rw [List.map_append]; exact ho'), ?_, fun e => by omega⟩
  · have hqb : q ≠ b' := fun e => by
      subst e
      rcases hor with hor | hor
      · rw [hx0 _ _ hq] at hor; cases hor
      · rw [ha _ hor] at hq; cases hq
    rw [hc q hqb]; exact hx0 _ _ hq
  · rcases ho'.2 with ⟨h1, _⟩ | ⟨_, _, _, h1, _, _, h2⟩
    · cases h1
    · injection h1 with _ _ h1; omega
end

section
variable {p : Pg} {h : PHeap} {x : RC} {vis : List Bytes} {nm : Bytes}

theorem add_r (hv : StrAt h x.va vis) (hvn : x.vn = vis.length) (hok : okN x.va vis.length x.vc) (hl : vis.length ≤ 1000000) {m1 : Nat} {I : Nat → Int → OA → Nat → Nat → OA → Nat → Nat → OA → Nat → Nat → Int → Bool → Int → Int → PHeap → Prop} {i4 : Int}
    (hI : ∀ a' k' h', Ext h h' → StrAt h' a' (vis ++ [nm]) → okN a' (vis ++ [nm]).length k' → ∃ m6, m6 < m1 ∧ I m6 (IntKind.i64.wrap (i4 + 1)) x.ga x.gn x.gc x.fa x.fn x.fc a' (vis ++ [nm]).length k' (IntKind.i64.wrap ((x.cnt : Int) + 1)) x.lp (erR x.err).1 (erR x.err).2 h') :
    K64_2 h nm x.va x.vn x.vc m1 I i4 x.ga x.gn x.gc x.fa x.fn x.fc x.cnt x.lp (erR x.err).1 (erR x.err).2 := by
  unfold K64_2
  rw [hvn]
  refine ⟨fun b3 hb3 h1 hh1 => ⟨rfl, rfl, ?_, ?_⟩, ?_⟩
  · have hx1 := Put.ext hh1 hb3
    refine Raw.mono (catA rfl rfl (Put.at hh1) (hv.ext hx1) hok hl) ?_
    rintro _ h2 ⟨a', k', rfl, ho, hk2, hf2⟩
    have hx2 : Ext h h2 := fun q o hq => hk2 q o (fun e => by subst e; rw [hb3] at hq; cases hq) (hx1 q o hq)
    refine ⟨_, _, _, rfl, rfl, fun b4 hb4 h3 hh3 => ?_⟩
    have hx3 := Put.ext hh3 hb4
    have hfr : ∀ q, a' = ad q 0 → h q = none := fun q hq => by
      rcases hf2 q hq with rfl | e
      · exact hb3
      · exact hx1.dom _ e
    refine Raw.mono (catB (h0 := h) (nm := nm) rfl rfl (by rw [hh3]; exact Go.Proofs.L.Own.put ho hb4 _) (Put.at hh3) (hx2.trans hx3) hfr hl) ?_
    rintro _ h4 ⟨a4, k4, rfl, hx4, hs4, hok4⟩
    obtain ⟨m6, hm6, hI6⟩ := hI a4 k4 h4 hx4 hs4 hok4
    exact ⟨_, _, _, rfl, m6, hm6, hI6, rfl, trivial⟩
  · intro b5 hb5 h2 hh2
    have hx1 := Put.ext hh1 hb3
    have hx2 := Put.ext hh2 hb5
    have hne : b5 ≠ b3 := fun e => by subst e; rw [Put.at hh1] at hb5; cases hb5
    refine ⟨rfl, ?_⟩
    refine Raw.mono (catA rfl rfl (hx2 _ _ (Put.at hh1)) (hv.ext (hx1.trans hx2)) hok hl) ?_
    rintro _ h3 ⟨a', k', rfl, ho, hk3, hf3⟩
    have hx3 : Ext h h3 := fun q o hq => hk3 q o (fun e => by subst e; rw [hb3] at hq; cases hq) (hx2 _ _ (hx1 q o hq))
    refine ⟨_, _, _, rfl, ?_⟩
    have hfr : ∀ q, a' = ad q 0 → h q = none := fun q hq => by
      rcases hf3 q hq with rfl | e
      · exact hb3
      · exact (hx1.trans hx2).dom _ e
    refine Raw.mono (catB (h0 := h) (nm := nm) rfl rfl ho (hk3 _ _ hne (Put.at hh2)) hx3 hfr hl) ?_
    rintro _ h4 ⟨a4, k4, rfl, hx4, hs4, hok4⟩
    obtain ⟨m6, hm6, hI6⟩ := hI a4 k4 h4 hx4 hs4 hok4
    exact ⟨_, _, _, rfl, m6, hm6, hI6, rfl, trivial⟩
  · intro b6 hb6 h1 hh1
    refine ⟨rfl, fun b7 hb7 h2 hh2 => ⟨rfl, ?_⟩⟩
    have hx1 := Put.ext hh1 hb6
    have hx2 := Put.ext hh2 hb7
    have hne : b6 ≠ b7 := fun e => by subst e; rw [Put.at hh1] at hb7; cases hb7
    have hb7' : h b7 = none := hx1.dom _ hb7
    refine Raw.mono (catA rfl rfl (Put.at hh2) (hv.ext (hx1.trans hx2)) hok hl) ?_
    rintro _ h3 ⟨a', k', rfl, ho, hk3, hf3⟩
    have hx3 : Ext h h3 := fun q o hq => hk3 q o (fun e => by subst e; rw [hb7'] at hq; cases hq) (hx2 _ _ (hx1 q o hq))
    refine ⟨_, _, _, rfl, ?_⟩
    have hfr : ∀ q, a' = ad q 0 → h q = none := fun q hq => by
      rcases hf3 q hq with rfl | e
      · exact hb7'
      · exact (hx1.trans hx2).dom _ e
    refine Raw.mono (catB (h0 := h) (nm := nm) rfl rfl ho (hk3 _ _ hne (hx2 _ _ (Put.at hh1))) hx3 hfr hl) ?_
    rintro _ h4 ⟨a4, k4, rfl, hx4, hs4, hok4⟩
    obtain ⟨m6, hm6, hI6⟩ := hI a4 k4 h4 hx4 hs4 hok4
    exact ⟨_, _, _, rfl, m6, hm6, hI6, rfl, trivial⟩
end
end Go.Proofs.D
namespace Go.Proofs.D
open Go Go.Den Go.Sx
set_option maxRecDepth 100000
attribute [local irreducible] IntKind.wrap Tri parseS
section
variable {p : Pg}

abbrev RC.at (x : RC) (a : OA) (k : Nat) (c : CS) : RC := { x with va := a, vn := c.vis.length, vc := k, cnt := c.cnt, err := c.err }

def XB (p : Pg) (es : List S) : Prop := ∀ (x : RC) (vis : List Bytes) (h : PHeap) (a : OA) (c : Nat), RK p h x vis → At 6 (RS plR 7 6) h a es → (⟨x.err, vis, x.cnt⟩ : CS).inv → vis.length ≤ x.cnt → x.cnt + cntSs es ≤ 1000000 →
  Tri Tryz.prog 64 [vA x.l, vL a es.length c] h fun v h' => v = vA { x with cnt := (ckSs (glO p) (fnO p) x.lp es ⟨x.err, vis, x.cnt⟩).cnt, err := (ckSs (glO p) (fnO p) x.lp es ⟨x.err, vis, x.cnt⟩).err }.l ∧ Ext h h' ∧
    eok (ckSs (glO p) (fnO p) x.lp es ⟨x.err, vis, x.cnt⟩).err ∧ (ckSs (glO p) (fnO p) x.lp es ⟨x.err, vis, x.cnt⟩).inv

theorem failC_32 {pos : Option Nat} {e : Er} {n : Nat} (h : e = none → n ≤ 32) : failC (decide (32 ≤ n)) pos 9 e = if n = 32 then failC true pos 9 e else e := by
  cases e with
  | some x => split <;> rfl
  | none =>
    have := h rfl
    by_cases hn : n = 32
    · subst hn; rfl
    · rw [if_neg hn, decide_eq_false (by omega)]; rfl

theorem body_r (hg : p.globals.length ≤ 1000000) (hf : p.funcs.length ≤ 1000000) : ∀ k es, cntSs es ≤ k → wfSs es → XB p es := by
  intro k
  induction k with
  | zero =>
    intro es he _ x vis h a c hk _ hinv _ _
    obtain rfl : es = [] := List.eq_nil_of_length_eq_zero (by have := cntSs_len es; omega)
    refine T64 ?_
    unfold R64
    refine ⟨fun m i a1 n1 k1 a2 n2 k2 a3 n3 k3 i1 c1 i2 i3 h' => h' = h ∧ i = 0 ∧ x.is a1 n1 k1 a2 n2 k2 a3 n3 k3 i1 c1 i2 i3, ⟨0, rfl, rfl, RC.self _⟩, ?_⟩
    rintro m _ _ _ _ _ _ _ _ _ _ _ _ _ _ h1 ⟨rfl, rfl, ⟨rfl, rfl, rfl, rfl, rfl, rfl, rfl, rfl, rfl, rfl, rfl, rfl, rfl⟩⟩
    exact br_neg rfl ⟨rfl, Ext.refl _, hk.er, hinv⟩
  | succ k ih =>
    intro es hcnt hwf x vis h a c hk hA hinv hvl hcl
    refine T64 ?_
    unfold R64
    have hlen := cntSs_len es
    refine ⟨fun m i a1 n1 k1 a2 n2 k2 a3 n3 k3 i1 c1 i2 i3 h' => ∃ (j : Nat) (c' : CS) (a' : OA) (k' : Nat), i = j ∧ j + m = es.length ∧ Ext h h' ∧ RK p h' (x.at a' k' c') c'.vis ∧ (x.at a' k' c').is a1 n1 k1 a2 n2 k2 a3 n3 k3 i1 c1 i2 i3 ∧ c'.inv ∧ c'.vis.length ≤ c'.cnt ∧ c'.cnt + cntSs (es.drop j) ≤ 1000000 ∧
        ckSs (glO p) (fnO p) x.lp (es.drop j) c' = ckSs (glO p) (fnO p) x.lp es ⟨x.err, vis, x.cnt⟩,
      ⟨es.length, 0, ⟨x.err, vis, x.cnt⟩, x.va, x.vc, rfl, by omega, Ext.refl _, ⟨hk.gn, hk.fn, rfl, hk.gl, hk.fu, hk.vi, hk.ok, hk.er⟩, ⟨rfl, rfl, rfl, rfl, rfl, rfl, rfl, hk.vn, rfl, rfl, rfl, rfl, rfl⟩, hinv, hvl, hcl, rfl⟩, ?_⟩
    rintro m _ _ _ _ _ _ _ va _ vk _ _ _ _ h1 ⟨j, c', a', k', rfl, hjm, hx1, hk1, ⟨rfl, rfl, rfl, rfl, rfl, rfl, rfl, rfl, rfl, rfl, rfl, rfl, rfl⟩, hinv1, hvl1, hcl1, hee⟩
    refine br_split (fun e2 => ?_) (fun e2 => ?_)
    · have hj : j < es.length := by have := of_decide_eq_true e2; omega
      obtain ⟨b, o, cs, ha, hr, hrel⟩ := hA.get hj
      have hcj := cntSs_mem (List.getElem_mem hj)
      have hwj := wfSs_iff.1 hwf _ (List.getElem_mem hj)
      rw [cntSs_drop hj] at hcl1
      rw [ckSs_drop hj] at hee
      have hgr := ckS_gr (glO p) (fnO p) x.lp es[j] c'
      generalize es[j] = y at *
      match y, hrel, hcj, hwj, hcl1, hee, hgr with
      | .mk kd nm args body els pos, hrel, hcj, hwj, hcl1, hee, hgr =>
      obtain ⟨a1, c1, a2, c2, a3, c3, rfl, hA1, hA2, hA3⟩ := RS_iff.1 hrel
      simp only [cntS] at hcj hcl1 hgr
      have hA1 := hA1.ext (RE_mono _ _) hx1
      have hA2 := hA2.ext (RS_mono _ _ _) hx1
      have hA3 := hA3.ext (RS_mono _ _ _) hx1
      have hlen1 := cntEs_len args
      have hl1 : c'.vis.length ≤ 1000000 := by omega
      have hih : ∀ e ∈ args, XR p e := fun e hm => expr_r hg hf _ e (Nat.le_refl _) (by have := cntEs_mem hm; omega)
      have hbody : XB p body := ih body (by omega) hwj.2.2.1
      have hels : XB p els := ih els (by omega) hwj.2.2.2
      obtain ⟨cN, hcN⟩ : ∃ cN, cN = ckS (glO p) (fnO p) x.lp (.mk kd nm args body els pos) c' := ⟨_, rfl⟩
      rw [← hcN] at hgr hee
      have next : ∀ (h2 : PHeap) (a2 : OA) (k2 : Nat), Ext h1 h2 → RK p h2 (x.at a2 k2 cN) cN.vis → cN.inv → cN.vis.length ≤ cN.cnt → ∃ m6, m6 < m ∧ ∃ (j' : Nat) (c' : CS) (a' : OA) (k' : Nat), IntKind.i64.wrap ((j : Int) + 1) = j' ∧ j' + m6 = es.length ∧ Ext h h2 ∧ RK p h2 (x.at a' k' c') c'.vis ∧ (x.at a' k' c').is x.ga x.gn x.gc x.fa x.fn x.fc a2 cN.vis.length k2 cN.cnt x.lp (erR cN.err).1 (erR cN.err).2 ∧ c'.inv ∧ c'.vis.length ≤ c'.cnt ∧ c'.cnt + cntSs (es.drop j') ≤ 1000000 ∧
          ckSs (glO p) (fnO p) x.lp (es.drop j') c' = ckSs (glO p) (fnO p) x.lp es ⟨x.err, vis, x.cnt⟩ := fun h2 a2 k2 hx2 hk2 hi2 hv2 => by
        have := hgr.2.1
        exact ⟨m - 1, by omega, j + 1, cN, a2, k2, by rw [wrap64 (by omega) (by omega)]; rfl, by omega, hx1.trans hx2, hk2, RC.self _, hi2, hv2, by omega, hee⟩
      have hcv := hgr.1
      have stepK : ∀ (e0 : Er), eok e0 → (e0 = if kd = 2 ∨ kd = 3 then varC (glO p) c'.vis nm (kd == 3) pos c'.err else c'.err) →
          K64_1 x.ga x.gn x.gc x.fa x.fn x.fc va c'.vis.length vk c'.cnt x.lp (erR e0).1 (erR e0).2 h1 args.length a1 c1 kd nm a2 body.length c2 a3 els.length c3 pos m
            (fun m i a1 n1 k1 a2 n2 k2 a3 n3 k3 i1 c1 i2 i3 h' => ∃ (j : Nat) (c' : CS) (a' : OA) (k' : Nat), i = j ∧ j + m = es.length ∧ Ext h h' ∧ RK p h' (x.at a' k' c') c'.vis ∧ (x.at a' k' c').is a1 n1 k1 a2 n2 k2 a3 n3 k3 i1 c1 i2 i3 ∧ c'.inv ∧ c'.vis.length ≤ c'.cnt ∧ c'.cnt + cntSs (es.drop j) ≤ 1000000 ∧
              ckSs (glO p) (fnO p) x.lp (es.drop j) c' = ckSs (glO p) (fnO p) x.lp es ⟨x.err, vis, x.cnt⟩) j := by
        intro e0 hok0 he0
        have hk0 : RK p h1 { x.at va vk c' with err := e0 } c'.vis := hk1.to hok0
        unfold K64_1
        refine ⟨fun m i a1 n1 k1 a2 n2 k2 a3 n3 k3 i1 c1 i2 i3 h' => h' = h1 ∧ ∃ (q : Nat) (e : Er), i = q ∧ q + m = args.length ∧ eok e ∧ { x.at va vk c' with err := e }.is a1 n1 k1 a2 n2 k2 a3 n3 k3 i1 c1 i2 i3 ∧ ckEs (glO p) (fnO p) c'.vis (args.drop q) e = ckEs (glO p) (fnO p) c'.vis args e0,
          ⟨args.length, rfl, 0, e0, rfl, by omega, hok0, RC.self _, rfl⟩, ?_⟩
        rintro m' _ _ _ _ _ _ _ va' _ vk' _ _ _ _ h2 ⟨rfl, q, e, rfl, hqm, hoke, ⟨rfl, rfl, rfl, rfl, rfl, rfl, rfl, rfl, rfl, rfl, rfl, rfl, rfl⟩, heq⟩
        refine br_split (fun e3 => ?_) (fun e3 => ?_)
        · have hq : q < args.length := by have := of_decide_eq_true e3; omega
          obtain ⟨b, o, cs, ha, hr, hrel⟩ := hA1.get hq
          have ihq := hih _ (List.getElem_mem hq) _ _ _ _ hrel (hk1.to hoke) hl1
          rw [ckEs_drop hq] at heq
          generalize args[q] = y at *
          match y, hrel with
          | .mk kd' op' nm' vl' tx' args' pos', hrel =>
          obtain ⟨a3, c3, rfl, hA3⟩ := RE_iff.1 hrel
          refine ⟨b, o, ha, ⟨by omega, by omega⟩, _, _, _, _, _, _, _, _, _, hr, ?_⟩
          refine Tri.mono ihq ?_
          rintro _ h3 ⟨rfl, rfl⟩
          refine ⟨_, _, _, _, _, _, _, _, _, _, _, _, _, rfl, rfl, m' - 1, by omega, ⟨rfl, q + 1, _, ?_, by omega, ckE_ok _ hoke, RC.self _, heq⟩, rfl, rfl, trivial⟩
          rw [wrap64 (by omega) (by omega)]; rfl
        have hq : args.length ≤ q := by have := of_decide_eq_false e3; omega
        rw [List.drop_eq_nil_of_le hq] at heq
        have heq : e = ckEs (glO p) (fnO p) c'.vis args e0 := heq
        have hke : RK p h2 { x.at va' vk' c' with err := e } c'.vis := hk1.to hoke
        have hnone : e = none → c'.err = none := fun he => by
          rw [heq] at he
          have h1 := none_of (f := ckEs (glO p) (fnO p) c'.vis args) (fun x => ckEs_some args) he
          rw [he0] at h1
          split at h1
          · exact none_of (f := varC (glO p) c'.vis nm (kd == 3) pos) (fun x => varC_some) h1
          · exact h1
        have hpl : kd ≠ 8 → kd ≠ 9 → cN = if kd = 1 then ⟨failC (decide (32 ≤ c'.cnt)) (some pos) 9 (failC (c'.vis.contains nm) (some pos) 7 e), c'.vis ++ [nm], c'.cnt + 1⟩
            else if kd = 5 then ckL (glO p) (fnO p) x.lp els (ckL (glO p) (fnO p) x.lp body ⟨e, c'.vis, c'.cnt⟩) else if kd = 6 then ckL (glO p) (fnO p) true body ⟨e, c'.vis, c'.cnt⟩ else ⟨e, c'.vis, c'.cnt⟩ := fun n8 n9 => by
          rw [hcN, heq, he0]
          have : (if kd = 2 ∨ kd = 3 then varC (glO p) c'.vis nm (kd == 3) pos c'.err else c'.err) = (if kd = 2 ∨ kd = 3 then varC (glO p) c'.vis nm (kd == 3) pos c'.err else if kd = 8 ∨ kd = 9 then failC (!x.lp) (some pos) 10 c'.err else c'.err) := by
            rw [if_neg (show ¬ (kd = 8 ∨ kd = 9) by omega)]
          rw [this]; rfl
        refine br_split (fun k1 => ?_) (fun k1 => br_split (fun k5 => ?_) (fun k5 => br_split (fun k6 => ?_) (fun k6 => br_split (fun k8 => ?_) (fun k8 => br_split (fun k9 => ?_) (fun k9 => ?_)))))
        · -- a variable
          have k1 : kd = 1 := by have := beq_iff_eq.1 k1; omega
          have hcn := hpl (by omega) (by omega)
          rw [if_pos k1] at hcn
          have h32 : failC (c'.vis.contains nm) (some pos) 7 e = none → c'.cnt ≤ 32 := fun he => hinv1 (hnone (failC_none he))
          rw [failC_32 h32] at hcn
          have hinvN : cN.inv := fun he => by
            rw [hcn] at he ⊢
            simp only at he ⊢
            by_cases h : c'.cnt = 32
            · rw [if_pos h] at he
              generalize failC (c'.vis.contains nm) (some pos) 7 e = q at he
              cases q <;> cases he
            · rw [if_neg h] at he
              have := h32 he; omega
          have fin : ∀ (E1 : Er), eok E1 → cN = ⟨E1, c'.vis ++ [nm], c'.cnt + 1⟩ → K64_2 h2 nm va' c'.vis.length vk' m (fun m i a1 n1 k1 a2 n2 k2 a3 n3 k3 i1 c1 i2 i3 h' => ∃ (j : Nat) (c' : CS) (a' : OA) (k' : Nat), i = j ∧ j + m = es.length ∧ Ext h h' ∧ RK p h' (x.at a' k' c') c'.vis ∧ (x.at a' k' c').is a1 n1 k1 a2 n2 k2 a3 n3 k3 i1 c1 i2 i3 ∧ c'.inv ∧ c'.vis.length ≤ c'.cnt ∧ c'.cnt + cntSs (es.drop j) ≤ 1000000 ∧
              ckSs (glO p) (fnO p) x.lp (es.drop j) c' = ckSs (glO p) (fnO p) x.lp es ⟨x.err, vis, x.cnt⟩) j x.ga x.gn x.gc x.fa x.fn x.fc c'.cnt x.lp (erR E1).1 (erR E1).2 := fun E1 hok1 hE1 => by
            refine add_r (x := { x.at va' vk' c' with err := E1 }) hk1.vi rfl hk1.ok hl1 fun a4 k4 h4 hx4 hs4 hok4 => ?_
            obtain ⟨m6, hm6, hn6⟩ := next h4 a4 k4 hx4 (by rw [hE1]; exact ⟨hk1.gn, hk1.fn, rfl, hk1.gl.ext (RG_mono _) hx4, hk1.fu.ext (RF_mono _ _ _) hx4, hs4, hok4, hok1⟩) hinvN (by rw [hE1]; simp; omega)
            refine ⟨m6, hm6, ?_⟩
            rw [wrap64 (n := ((x.at va' vk' c').cnt : Int) + 1) (by show (-9223372036854775808 : Int) ≤ (c'.cnt : Int) + 1; omega) (by show (c'.cnt : Int) + 1 ≤ _; omega)]
            rw [hE1] at hn6
            exact hn6
          refine Tri.mono (has_r nm hk1.vi hl1) ?_
          rintro _ h3 ⟨rfl, rfl⟩
          refine ⟨_, rfl, br_split (fun e4 => ?_) (fun e4 => ?_)⟩
          · refine Tri.mono (bad_r _ hke.er 7 pos h3) ?_
            rintro _ h4 ⟨rfl, rfl⟩
            have hcn' : cN = ⟨if c'.cnt = 32 then failC true (some pos) 9 (failC true (some pos) 7 e) else failC true (some pos) 7 e, c'.vis ++ [nm], c'.cnt + 1⟩ := by rw [hcn, e4]
            have hok7 := hoke.fail true (some pos) (c := 7) (by decide)
            refine ⟨_, _, _, _, _, _, _, _, _, _, _, _, _, rfl, br_split (fun e5 => ?_) (fun e5 => ?_)⟩
            · have e5 : c'.cnt = 32 := by
                have : ((c'.cnt : Nat) : Int) = 32 := beq_iff_eq.1 e5
                omega
              rw [if_pos e5] at hcn'
              refine Tri.mono (bad_r _ hok7 9 pos h4) ?_
              rintro _ h5 ⟨rfl, rfl⟩
              exact ⟨_, _, _, _, _, _, _, _, _, _, _, _, _, rfl, fin _ (hok7.fail true (some pos) (by decide)) hcn'⟩
            · have e5 : c'.cnt ≠ 32 := fun h => by
                have : (((c'.cnt : Nat) : Int) == 32) = true := by rw [h]; rfl
                exact absurd (this.symm.trans e5) (by decide)
              rw [if_neg e5] at hcn'
              exact fin _ hok7 hcn'
          · have hcn' : cN = ⟨if c'.cnt = 32 then failC true (some pos) 9 e else e, c'.vis ++ [nm], c'.cnt + 1⟩ := by rw [hcn, e4, failC_false]
            refine br_split (fun e5 => ?_) (fun e5 => ?_)
            · have e5 : c'.cnt = 32 := by
                have : ((c'.cnt : Nat) : Int) = 32 := beq_iff_eq.1 e5
                omega
              rw [if_pos e5] at hcn'
              refine Tri.mono (bad_r _ hke.er 9 pos h3) ?_
              rintro _ h5 ⟨rfl, rfl⟩
              exact ⟨_, _, _, _, _, _, _, _, _, _, _, _, _, rfl, fin _ (hoke.fail true (some pos) (by decide)) hcn'⟩
            · have e5 : c'.cnt ≠ 32 := fun h => by
                have : (((c'.cnt : Nat) : Int) == 32) = true := by rw [h]; rfl
                exact absurd (this.symm.trans e5) (by decide)
              rw [if_neg e5] at hcn'
              exact fin _ hoke hcn'
        · -- two lists
          have k5 : kd = 5 := by have := beq_iff_eq.1 k5; omega
          have hcn := hpl (by omega) (by omega)
          rw [if_neg (by omega), if_pos k5] at hcn
          have hie : (⟨e, c'.vis, c'.cnt⟩ : CS).inv := fun he => hinv1 (hnone he)
          have hg1 := ckSs_gr (glO p) (fnO p) x.lp body ⟨e, c'.vis, c'.cnt⟩
          refine Tri.mono (hbody { x.at va' vk' c' with err := e } c'.vis h2 a2 c2 hke hA2 hie hvl1 (by show c'.cnt + _ ≤ _; omega)) ?_
          rintro _ h3 ⟨rfl, hx3, hok3, hinv3⟩
          refine ⟨_, _, _, _, _, _, _, _, _, _, _, _, _, rfl, ?_⟩
          generalize hr1 : ckSs (glO p) (fnO p) x.lp body ⟨e, c'.vis, c'.cnt⟩ = r1 at *
          have hg1a := hg1.1
          have hg1b := hg1.2.1
          simp only at hg1a hg1b
          have hk3 : RK p h3 { x.at va' vk' c' with cnt := r1.cnt, err := r1.err } c'.vis := ⟨hk1.gn, hk1.fn, rfl, hk1.gl.ext (RG_mono _) hx3, hk1.fu.ext (RF_mono _ _ _) hx3, hk1.vi.ext hx3, hk1.ok, hok3⟩
          have hg2 := ckSs_gr (glO p) (fnO p) x.lp els ⟨r1.err, c'.vis, r1.cnt⟩
          refine Tri.mono (hels { x.at va' vk' c' with cnt := r1.cnt, err := r1.err } c'.vis h3 a3 c3 hk3 (hA3.ext (RS_mono _ _ _) hx3) hinv3 (by show c'.vis.length ≤ r1.cnt; omega) (by show r1.cnt + _ ≤ _; omega)) ?_
          rintro _ h4 ⟨rfl, hx4, hok4, hinv4⟩
          have hcn : cN = ⟨(ckSs (glO p) (fnO p) x.lp els ⟨r1.err, c'.vis, r1.cnt⟩).err, c'.vis, (ckSs (glO p) (fnO p) x.lp els ⟨r1.err, c'.vis, r1.cnt⟩).cnt⟩ := by rw [hcn, ckL, ckL, hr1]
          generalize ckSs (glO p) (fnO p) x.lp els ⟨r1.err, c'.vis, r1.cnt⟩ = r2 at *
          have hg2a := hg2.1
          simp only at hg2a
          unfold K64_3
          refine ⟨_, _, _, _, _, _, _, _, _, _, _, _, _, rfl, ?_⟩
          obtain ⟨m6, hm6, hn6⟩ := next h4 va' vk' (hx3.trans hx4) (by rw [hcn]; exact ⟨hk3.gn, hk3.fn, rfl, hk3.gl.ext (RG_mono _) hx4, hk3.fu.ext (RF_mono _ _ _) hx4, hk3.vi.ext hx4, hk3.ok, hok4⟩) (by rw [hcn]; exact hinv4) (by rw [hcn]; show c'.vis.length ≤ r2.cnt; omega)
          rw [hcn] at hn6
          exact ⟨m6, hm6, hn6, rfl, trivial⟩
        · -- a loop
          have k6 : kd = 6 := by have := beq_iff_eq.1 k6; omega
          have hcn := hpl (by omega) (by omega)
          rw [if_neg (by omega), if_neg (by omega), if_pos k6] at hcn
          have hie : (⟨e, c'.vis, c'.cnt⟩ : CS).inv := fun he => hinv1 (hnone he)
          have hg1 := ckSs_gr (glO p) (fnO p) true body ⟨e, c'.vis, c'.cnt⟩
          refine Tri.mono (hbody { x.at va' vk' c' with err := e, lp := true } c'.vis h2 a2 c2 ⟨hk1.gn, hk1.fn, rfl, hk1.gl, hk1.fu, hk1.vi, hk1.ok, hoke⟩ hA2 hie hvl1 (by show c'.cnt + _ ≤ _; omega)) ?_
          rintro _ h3 ⟨rfl, hx3, hok3, hinv3⟩
          have hcn : cN = ⟨(ckSs (glO p) (fnO p) true body ⟨e, c'.vis, c'.cnt⟩).err, c'.vis, (ckSs (glO p) (fnO p) true body ⟨e, c'.vis, c'.cnt⟩).cnt⟩ := by rw [hcn, ckL]
          refine ⟨_, _, _, _, _, _, _, _, _, _, _, _, _, rfl, ?_⟩
          have hg1a := hg1.1
          simp only at hg1a hok3 hinv3
          generalize ckSs (glO p) (fnO p) true body ⟨e, c'.vis, c'.cnt⟩ = r1 at *
          obtain ⟨m6, hm6, hn6⟩ := next h3 va' vk' hx3 (by rw [hcn]; exact ⟨hk1.gn, hk1.fn, rfl, hk1.gl.ext (RG_mono _) hx3, hk1.fu.ext (RF_mono _ _ _) hx3, hk1.vi.ext hx3, hk1.ok, hok3⟩) (by rw [hcn]; exact hinv3) (by rw [hcn]; show c'.vis.length ≤ r1.cnt; omega)
          rw [hcn] at hn6
          exact ⟨m6, hm6, hn6, rfl, trivial⟩
        · have k8 : kd = 8 := by have := beq_iff_eq.1 k8; omega
          have hargs : args = [] := List.eq_nil_of_length_eq_zero (by have := hwj.1; simp only [shapeS] at this; omega)
          have hcn : cN = ⟨failC (!x.lp) (some pos) 10 c'.err, c'.vis, c'.cnt⟩ := by rw [hcN, hargs, k8]; rfl
          have hee' : e = c'.err := by
            rw [heq, hargs, he0, if_neg (by omega)]; rfl
          refine br_split (fun e4 => ?_) (fun e4 => ?_)
          · refine Tri.mono (bad_r _ hke.er 10 pos h2) ?_
            rintro _ h3 ⟨rfl, rfl⟩
            unfold K64_3
            refine ⟨_, _, _, _, _, _, _, _, _, _, _, _, _, rfl, ?_⟩
            have hcn : cN = ⟨failC true (some pos) 10 e, c'.vis, c'.cnt⟩ := by rw [hcn, hee', e4]
            obtain ⟨m6, hm6, hn6⟩ := next h3 va' vk' (Ext.refl _) (by rw [hcn]; exact hk1.to (hoke.fail true (some pos) (by decide))) (by rw [hcn]; exact fun he => hinv1 (hnone (failC_none he))) (by rw [hcn]; exact hvl1)
            rw [hcn] at hn6
            exact ⟨m6, hm6, hn6, rfl, trivial⟩
          · have hcn : cN = ⟨e, c'.vis, c'.cnt⟩ := by rw [hcn, hee', e4, failC_false]
            obtain ⟨m6, hm6, hn6⟩ := next h2 va' vk' (Ext.refl _) (by rw [hcn]; exact hke) (by rw [hcn]; exact fun he => hinv1 (hnone he)) (by rw [hcn]; exact hvl1)
            rw [hcn] at hn6
            exact ⟨m6, hm6, hn6, rfl, trivial⟩
        · have k9 : kd = 9 := by have := beq_iff_eq.1 k9; omega
          have hargs : args = [] := List.eq_nil_of_length_eq_zero (by have := hwj.1; simp only [shapeS] at this; omega)
          have hcn : cN = ⟨failC (!x.lp) (some pos) 10 c'.err, c'.vis, c'.cnt⟩ := by rw [hcN, hargs, k9]; rfl
          have hee' : e = c'.err := by
            rw [heq, hargs, he0, if_neg (by omega)]; rfl
          refine br_split (fun e4 => ?_) (fun e4 => ?_)
          · refine Tri.mono (bad_r _ hke.er 10 pos h2) ?_
            rintro _ h3 ⟨rfl, rfl⟩
            unfold K64_3
            refine ⟨_, _, _, _, _, _, _, _, _, _, _, _, _, rfl, ?_⟩
            have hcn : cN = ⟨failC true (some pos) 10 e, c'.vis, c'.cnt⟩ := by rw [hcn, hee', e4]
            obtain ⟨m6, hm6, hn6⟩ := next h3 va' vk' (Ext.refl _) (by rw [hcn]; exact hk1.to (hoke.fail true (some pos) (by decide))) (by rw [hcn]; exact fun he => hinv1 (hnone (failC_none he))) (by rw [hcn]; exact hvl1)
            rw [hcn] at hn6
            exact ⟨m6, hm6, hn6, rfl, trivial⟩
          · have hcn : cN = ⟨e, c'.vis, c'.cnt⟩ := by rw [hcn, hee', e4, failC_false]
            obtain ⟨m6, hm6, hn6⟩ := next h2 va' vk' (Ext.refl _) (by rw [hcn]; exact hke) (by rw [hcn]; exact fun he => hinv1 (hnone he)) (by rw [hcn]; exact hvl1)
            rw [hcn] at hn6
            exact ⟨m6, hm6, hn6, rfl, trivial⟩
        · have k1 : kd ≠ 1 := fun e => by subst e; cases k1
          have k5 : kd ≠ 5 := fun e => by subst e; cases k5
          have k6 : kd ≠ 6 := fun e => by subst e; cases k6
          have k8 : kd ≠ 8 := fun e => by subst e; cases k8
          have k9 : kd ≠ 9 := fun e => by subst e; cases k9
          have hcn := hpl k8 k9
          rw [if_neg k1, if_neg k5, if_neg k6] at hcn
          obtain ⟨m6, hm6, hn6⟩ := next h2 va' vk' (Ext.refl _) (by rw [hcn]; exact hke) (by rw [hcn]; exact fun he => hinv1 (hnone he)) (by rw [hcn]; exact hvl1)
          rw [hcn] at hn6
          exact ⟨m6, hm6, hn6, rfl, trivial⟩
      refine ⟨b, o, ha, ⟨by omega, by omega⟩, _, _, _, _, _, _, _, _, _, _, _, _, row_ext (fun ob => hx1 b ob) hr, br_split (fun e => ?_) (fun n2 => br_split (fun e => ?_) (fun n3 => ?_))⟩
      · have e : kd = 2 := by have := beq_iff_eq.1 e; omega
        subst e
        refine Tri.mono (name_r hk1 hg hl1 nm _ pos) ?_
        rintro _ h2 ⟨rfl, rfl⟩
        exact ⟨_, _, _, _, _, _, _, _, _, _, _, _, _, rfl, stepK _ (varC_ok hk1.er) rfl⟩
      · have e : kd = 3 := by have := beq_iff_eq.1 e; omega
        subst e
        refine Tri.mono (name_r hk1 hg hl1 nm _ pos) ?_
        rintro _ h2 ⟨rfl, rfl⟩
        exact ⟨_, _, _, _, _, _, _, _, _, _, _, _, _, rfl, stepK _ (varC_ok hk1.er) rfl⟩
      · have n2 : kd ≠ 2 := fun e => by subst e; cases n2
        have n3 : kd ≠ 3 := fun e => by subst e; cases n3
        exact stepK _ hk1.er (by rw [if_neg (by omega)])
    · have hj : es.length ≤ j := by have := of_decide_eq_false e2; omega
      rw [List.drop_eq_nil_of_le hj] at hee
      have hee : c' = ckSs (glO p) (fnO p) x.lp es ⟨x.err, vis, x.cnt⟩ := hee
      rw [← hee]
      exact ⟨rfl, hx1, hk1.er, hinv1⟩
end
end Go.Proofs.D
namespace Go.Sx
def Nm (gl fn : Tab) (names : List Bytes) : Prop := ∀ n, ((getT gl n).isSome || (getT fn n).isSome) = names.contains n
theorem Nm.nil : Nm [] [] [] := fun _ => rfl
theorem contains_snoc (l : List Bytes) (k n : Bytes) : (l ++ [k]).contains n = (l.contains n || n == k) := by
  rw [Bool.eq_iff_iff]; simp
theorem Nm.addG {gl fn : Tab} {names : List Bytes} (h : Nm gl fn names) (k : Bytes) (v : Nat) : Nm ((k, v) :: gl) fn (names ++ [k]) := fun n => by
  rw [contains_snoc, ← h n, getT]
  cases n == k
  · simp only [Bool.false_eq_true, if_false, Bool.or_false]
  · simp
theorem Nm.addF {gl fn : Tab} {names : List Bytes} (h : Nm gl fn names) (k : Bytes) (v : Nat) : Nm gl ((k, v) :: fn) (names ++ [k]) := fun n => by
  rw [contains_snoc, ← h n, getT]
  cases n == k
  · simp only [Bool.false_eq_true, if_false, Bool.or_false]
  · simp

theorem getT_append (l m : Tab) (n : Bytes) : getT (l ++ m) n = (getT l n).or (getT m n) := by
  induction l with
  | nil => rfl
  | cons x l ih => obtain ⟨k, v⟩ := x; simp only [List.cons_append, getT, ih]; split <;> simp

def Turn (t o : Tab) : Prop := ∀ n, getT t n = getT o n
theorem Turn.add {t o : Tab} (h : Turn t o) {k : Bytes} {v : Nat} (hk : getT t k = none) : Turn ((k, v) :: t) (o ++ [(k, v)]) := fun n => by
  rw [getT_append, getT, ← h n, getT]
  by_cases e : (n == k) = true
  · have : n = k := by simpa using e
    subst this
    rw [if_pos e, hk, if_pos e]; rfl
  · rw [if_neg e, if_neg e]; cases getT t n <;> rfl

theorem failC_some' {b : Bool} {p : Option Nat} {c : Nat} {x : Nat × Option Nat} : failC b p c (some x) = some x := rfl
theorem failC_no {b : Bool} {p : Option Nat} {c : Nat} {e : Er} (h : failC b p c e = none) : e = none ∧ b = false := by
  cases e with
  | some x => cases h
  | none => cases b <;> simp_all [failC]

theorem ckG_some {i : Nat} {gl : Tab} {g : G} {x : Nat × Option Nat} : ckG i gl g (some x) = some x := rfl
theorem ckGs_some {x : Nat × Option Nat} : ∀ (l : List G) (i : Nat) (gl : Tab), (ckGs i l gl (some x)).2 = some x
  | [], _, _ => rfl
  | g :: l, i, gl => by rw [ckGs, ckG_some]; exact ckGs_some l _ _
theorem ckPs_some {pos : Nat} {x : Nat × Option Nat} : ∀ (l seen : List Bytes), ckPs pos seen l (some x) = some x
  | [], _ => rfl
  | q :: l, seen => by rw [ckPs, failC_some']; exact ckPs_some l _
theorem ckF_some {i : Nat} {gl fn : Tab} {f : F} {x : Nat × Option Nat} : ckF i gl fn f (some x) = some x := by rw [ckF]; exact ckPs_some _ _
theorem ckFs_some {gl : Tab} {x : Nat × Option Nat} : ∀ (l : List F) (i : Nat) (fn : Tab), (ckFs gl i l fn (some x)).2 = some x
  | [], _, _ => rfl
  | g :: l, i, fn => by rw [ckFs, ckF_some]; exact ckFs_some l _ _

theorem noE {f : Er → Er} (hf : ∀ x, f (some x) = some x) {e : Er} (h : f e = none) : e = none := by
  cases e with
  | none => rfl
  | some x => rw [hf] at h; cases h

theorem ckGs_turn : ∀ (l : List G) (i : Nat) (gl o : Tab) (e : Er), Turn gl o → (ckGs i l gl e).2 = none → Turn (ckGs i l gl e).1 (o ++ l.map fun x => (x.name, x.size)) ∧ e = none
  | [], i, gl, o, e, ht, h => ⟨by rw [List.map_nil, List.append_nil]; exact ht, h⟩
  | g :: l, i, gl, o, e, ht, h => by
    rw [ckGs] at h ⊢
    have h1 : ckG i gl g e = none := noE (f := fun e => (ckGs (i + 1) l ((g.name, g.size) :: gl) e).2) (fun x => ckGs_some l _ _) h
    have h2 := failC_no h1
    have h3 := failC_no h2.1
    have h4 := failC_no h3.1
    have hk : getT gl g.name = none := by
      have := h3.2
      cases hg : getT gl g.name with
      | none => rfl
      | some x => rw [hg] at this; simp at this
    have := ckGs_turn l (i + 1) ((g.name, g.size) :: gl) (o ++ [(g.name, g.size)]) _ (ht.add hk) h
    rw [List.append_assoc] at this
    exact ⟨this.1, h4.1⟩

theorem ckF_none {i : Nat} {gl fn : Tab} {f : F} {e : Er} (h : ckF i gl fn f e = none) : e = none ∧ getT fn f.name = none ∧ f.params.length ≤ 6 := by
  rw [ckF] at h
  have h0 := noE (f := ckPs f.pos [] f.params) (fun x => ckPs_some _ _) h
  have h1 := failC_no h0
  have h2 := failC_no h1.1
  have h3 := failC_no h2.1
  refine ⟨h3.1, ?_, ?_⟩
  · have := h2.2
    cases hg : getT fn f.name with
    | none => rfl
    | some x => rw [hg] at this; simp at this
  · have := of_decide_eq_false h1.2; omega
theorem ckFs_turn {gl : Tab} : ∀ (l : List F) (i : Nat) (fn o : Tab) (e : Er), Turn fn o → (ckFs gl i l fn e).2 = none → Turn (ckFs gl i l fn e).1 (o ++ l.map fun x => (x.name, x.params.length)) ∧ e = none ∧ ∀ f ∈ l, f.params.length ≤ 6
  | [], i, fn, o, e, ht, h => ⟨by rw [List.map_nil, List.append_nil]; exact ht, h, fun f hf => by cases hf⟩
  | g :: l, i, fn, o, e, ht, h => by
    rw [ckFs] at h ⊢
    have h1 : ckF i gl fn g e = none := noE (f := fun e => (ckFs gl (i + 1) l ((g.name, g.params.length) :: fn) e).2) (fun x => ckFs_some l _ _) h
    obtain ⟨h2, h3, h4⟩ := ckF_none h1
    have := ckFs_turn l (i + 1) ((g.name, g.params.length) :: fn) (o ++ [(g.name, g.params.length)]) _ (ht.add h3) h
    rw [List.append_assoc] at this
    refine ⟨this.1, h2, fun f hf => ?_⟩
    rcases List.mem_cons.1 hf with rfl | hf
    · exact h4
    · exact this.2.2 f hf

theorem varC_turn {gl gl' : Tab} (hg : Turn gl gl') (vis : List Bytes) (nm : Bytes) (arr : Bool) (pos : Nat) (e : Er) : varC gl vis nm arr pos e = varC gl' vis nm arr pos e := by simp only [varC, hg nm]
theorem callC_turn {fn fn' : Tab} (hf : Turn fn fn') (nm : Bytes) (n pos : Nat) (e : Er) : callC fn nm n pos e = callC fn' nm n pos e := by simp only [callC, hf nm]
mutual
theorem ckE_turn {gl gl' fn fn' : Tab} (hg : Turn gl gl') (hf : Turn fn fn') (vis : List Bytes) : ∀ (x : E) (e : Er), ckE gl fn vis x e = ckE gl' fn' vis x e
  | .mk k _ nm _ _ args pos, e => by rw [ckE, ckE, varC_turn hg, callC_turn hf, ckEs_turn hg hf vis args]
theorem ckEs_turn {gl gl' fn fn' : Tab} (hg : Turn gl gl') (hf : Turn fn fn') (vis : List Bytes) : ∀ (l : List E) (e : Er), ckEs gl fn vis l e = ckEs gl' fn' vis l e
  | [], _ => rfl
  | x :: l, e => by rw [ckEs, ckEs, ckE_turn hg hf vis x, ckEs_turn hg hf vis l]
end
mutual
theorem ckS_turn {gl gl' fn fn' : Tab} (hg : Turn gl gl') (hf : Turn fn fn') : ∀ (lp : Bool) (s : S) (c : CS), ckS gl fn lp s c = ckS gl' fn' lp s c
  | lp, .mk k nm args body els pos, c => by
    simp only [ckS, varC_turn hg, ckEs_turn hg hf, ckSs_turn hg hf _ body, ckSs_turn hg hf _ els]
theorem ckSs_turn {gl gl' fn fn' : Tab} (hg : Turn gl gl') (hf : Turn fn fn') : ∀ (lp : Bool) (l : List S) (c : CS), ckSs gl fn lp l c = ckSs gl' fn' lp l c
  | _, [], _ => rfl
  | lp, s :: l, c => by rw [ckSs, ckSs, ckS_turn hg hf lp s, ckSs_turn hg hf lp l]
end
theorem ckB_turn {gl gl' fn fn' : Tab} (hg : Turn gl gl') (hf : Turn fn fn') : ∀ (l : List F) (e : Er), ckB gl fn l e = ckB gl' fn' l e
  | [], _ => rfl
  | f :: l, e => by simp only [ckB, ckL, ckSs_turn hg hf, ckB_turn hg hf l]
mutual
theorem ckEo_some {gl fn : Tab} {vis : List Bytes} {x : Nat × Option Nat} : ∀ (e : E), ckE gl fn vis e (some x) = some x
  | .mk k _ _ _ _ args _ => by
    rw [ckE]
    have h1 : ∀ nm arr pos, varC gl vis nm arr pos (some x) = some x := fun nm arr pos => by unfold varC; split <;> rfl
    have h2 : ∀ nm n pos, callC fn nm n pos (some x) = some x := fun nm n pos => by unfold callC; split <;> rfl
    rw [h1, h2]; simp only [ite_self]; exact ckEso_some args
theorem ckEso_some {gl fn : Tab} {vis : List Bytes} {x : Nat × Option Nat} : ∀ (l : List E), ckEs gl fn vis l (some x) = some x
  | [] => rfl
  | e :: l => by rw [ckEs, ckEo_some e]; exact ckEso_some l
end
mutual
theorem ckS_err {gl fn : Tab} {x : Nat × Option Nat} : ∀ (lp : Bool) (s : S) (c : CS), c.err = some x → (ckS gl fn lp s c).err = some x
  | lp, .mk k nm args body els pos, c, h => by
    have h1 : varC gl c.vis nm (k == 3) pos (some x) = some x := by unfold varC; split <;> rfl
    simp only [ckS, h, h1, failC_some', ite_self, ckEso_some args]
    split
    · rfl
    · split
      · exact ckSs_err lp els _ (ckSs_err lp body _ rfl)
      · split
        · exact ckSs_err true body _ rfl
        · rfl
theorem ckSs_err {gl fn : Tab} {x : Nat × Option Nat} : ∀ (lp : Bool) (l : List S) (c : CS), c.err = some x → (ckSs gl fn lp l c).err = some x
  | _, [], _, h => h
  | lp, s :: l, c, h => by rw [ckSs]; exact ckSs_err lp l _ (ckS_err lp s c h)
end
theorem ckB_some {gl fn : Tab} {x : Nat × Option Nat} : ∀ (l : List F), ckB gl fn l (some x) = some x
  | [] => rfl
  | f :: l => by rw [ckB, ckL]; simp only [ckSs_err (gl := gl) (fn := fn) (x := x) false f.body ⟨some x, f.params, f.params.length⟩ rfl]; exact ckB_some l

def mainIn (l : List F) : Bool := l.any fun f => f.name == mainS && f.params.length == 0

def refC (p : Pg) : Option Er :=
  let g := ckGs 0 p.globals [] none
  let f := ckFs g.1 0 p.funcs [] g.2
  if f.2 = none ∧ mainIn p.funcs = false then none else some (ckB (p.globals.map fun x => (x.name, x.size)) (p.funcs.map fun x => (x.name, x.params.length)) p.funcs f.2)

theorem getT_main : ∀ {l : List F} {n : Nat}, getT (l.map fun x => (x.name, x.params.length)) mainS = some n → n = 0 → mainIn l = true
  | [], n, h, _ => by simp [getT] at h
  | f :: l, n, h, h0 => by
    simp only [List.map_cons, getT] at h
    by_cases e : (mainS == f.name) = true
    · rw [if_pos e] at h
      have h := Option.some.inj h
      have e : f.name = mainS := (by simpa using e : mainS = f.name).symm
      simp [mainIn, e, h, h0]
    · rw [if_neg e] at h
      have := getT_main (l := l) h h0
      simp only [mainIn, List.any_cons] at this ⊢
      rw [this, Bool.or_true]
theorem ckFs_main {gl : Tab} : ∀ (l : List F) (i : Nat) (fn : Tab) (e : Er), (ckFs gl i l fn e).2 = none → (getT fn mainS = some 0 ∨ mainIn l = true) → getT (ckFs gl i l fn e).1 mainS = some 0
  | [], i, fn, e, _, h => by
    rcases h with h | h
    · exact h
    · simp [mainIn] at h
  | g :: l, i, fn, e, h, hm => by
    rw [ckFs] at h ⊢
    have h1 : ckF i gl fn g e = none := noE (f := fun e => (ckFs gl (i + 1) l ((g.name, g.params.length) :: fn) e).2) (fun x => ckFs_some l _ _) h
    obtain ⟨h2, h3, h4⟩ := ckF_none h1
    refine ckFs_main l (i + 1) _ _ h ?_
    rcases hm with hm | hm
    · left
      rw [getT]
      by_cases e : (mainS == g.name) = true
      · have e : mainS = g.name := by simpa using e
        rw [← e, hm] at h3; cases h3
      · rw [if_neg e]; exact hm
    · simp only [mainIn, List.any_cons, Bool.or_eq_true, Bool.and_eq_true, beq_iff_eq] at hm
      rcases hm with hm | hm
      · left
        rw [getT, if_pos (by rw [hm.1]; simp), hm.2]
      · right; exact hm

theorem ref_check (p : Pg) : checkS p = (refC p).getD (some (8, none)) := by
  simp only [checkS, refC]
  generalize hg : ckGs 0 p.globals [] none = g
  generalize hf : ckFs g.1 0 p.funcs [] g.2 = f
  cases hf2 : f.2 with
  | some x =>
    rw [if_neg (by simp), failC_some', ckB_some, ckB_some]; rfl
  | none =>
    have hff : (ckFs g.1 0 p.funcs [] g.2).2 = none := by rw [hf]; exact hf2
    have tf := ckFs_turn p.funcs 0 [] [] g.2 (fun _ => rfl) hff
    rw [hf] at tf
    have hgg : (ckGs 0 p.globals [] none).2 = none := by rw [hg]; exact tf.2.1
    have tg := ckGs_turn p.globals 0 [] [] none (fun _ => rfl) hgg
    rw [hg] at tg
    simp only [List.nil_append] at tf tg
    cases hm : mainIn p.funcs with
    | true =>
      have := ckFs_main p.funcs 0 [] g.2 hff (.inr hm)
      rw [hf] at this
      rw [if_neg (by simp), this, ckB_turn tg.1 tf.1]; rfl
    | false =>
      rw [if_pos ⟨rfl, rfl⟩]
      have hc : ((getT f.1 mainS).isNone || (getT f.1 mainS).getD 0 != 0) = true := by
        cases hq : getT f.1 mainS with
        | none => rfl
        | some n =>
          by_cases h0 : n = 0
          · have := getT_main (l := p.funcs) (by rw [← tf.1 mainS]; exact hq) h0
            rw [this] at hm; cases hm
          · simpa using h0
      rw [hc]
      show ckB g.1 f.1 p.funcs (some (8, none)) = _
      rw [ckB_some]; rfl
end Go.Sx
namespace Go.Proofs.D
open Go Go.Den Go.Sx
set_option maxRecDepth 100000
attribute [local irreducible] IntKind.wrap Tri parseS

theorem flatS : ∀ (l : List Bytes), (l.map fun x => [vS x]).flatten = l.map fun x => vS x
  | [] => rfl
  | x :: l => by rw [List.map_cons, List.flatten_cons, flatS l]; rfl
theorem LM.names {h0 h : PHeap} {a : OA} {n k : Nat} {L : List Bytes} (hn : n = L.length) (hM : LM 9 1 h0 h a n k (L.map fun x => [vS x])) : StrAt h a L := Own.str hn (by have := hM.row; rwa [flatS] at this)

section
variable {p : Pg} {h : PHeap} {ga fa : OA} {gc fc : Nat}

def x0 (p : Pg) (ga : OA) (gc : Nat) (fa : OA) (fc : Nat) (e : Er) : RC := ⟨ga, p.globals.length, gc, fa, p.funcs.length, fc, none, 0, 0, 0, false, e⟩

def IG (p : Pg) (h : PHeap) (ga : OA) (gc : Nat) (fa : OA) (fc : Nat) : Nat → OA → Nat → Nat → Int → OA → Nat → Nat → OA → Nat → Nat → OA → Nat → Nat → Int → Bool → Int → Int → PHeap → Prop := fun m a n k i a1 n1 k1 a2 n2 k2 a3 n3 k3 i1 c1 i2 i3 h' =>
  ∃ (j : Nat) (gl : Tab) (e : Er) (names : List Bytes), i = j ∧ j + m = p.globals.length ∧ Ext h h' ∧ n = names.length ∧ names.length = j ∧ LM 9 1 h h' a n k (names.map fun x => [vS x]) ∧ eok e ∧ (x0 p ga gc fa fc e).is a1 n1 k1 a2 n2 k2 a3 n3 k3 i1 c1 i2 i3 ∧ Nm gl [] names ∧ ckGs j (p.globals.drop j) gl e = ckGs 0 p.globals [] none

theorem ckG_ok {i : Nat} {gl : Tab} {g : G} {e : Er} (h : eok e) : eok (ckG i gl g e) := ((h.fail _ _ (by decide)).fail _ _ (by decide)).fail _ _ (by decide)

theorem glob_r (hl : p.globals.length ≤ 100000) {j m : Nat} {gl : Tab} {e : Er} {names : List Bytes} {a : OA} {k : Nat} {h1 : PHeap} (hj : j < p.globals.length) (hjm : j + m = p.globals.length) (hx : Ext h h1) (hn : names.length = j) (hM : LM 9 1 h h1 a names.length k (names.map fun x => [vS x])) (he : eok e)
    (hnm : Nm gl [] names) (hck : ckGs (j + 1) (p.globals.drop (j + 1)) ((p.globals[j].name, p.globals[j].size) :: gl) (ckG j gl p.globals[j] e) = ckGs 0 p.globals [] none) {e1 : Er} (he1 : eok e1) (hee : ckG j gl p.globals[j] e = failC (decide (256 < p.globals[j].size)) (some p.globals[j].pos) 2 e1) :
    K20_2 p.globals[j].size ga p.globals.length gc fa p.funcs.length fc none 0 0 0 false (erR e1).1 (erR e1).2 p.globals[j].pos h1 p.globals[j].name a names.length k m (IG p h ga gc fa fc) j ga p.globals.length gc fa p.funcs.length fc := by
  have app : ∀ (e2 : Er), eok e2 → ckG j gl p.globals[j] e = e2 → ∀ (b : Nat), h1 b = none → ∀ h2, h2 = h1.put b (.cells ⟨[vS p.globals[j].name]⟩ 9) →
      Raw Tryz.prog (execOp (rho [(65, vL a names.length k), (68, vL (ad b 0) 1 1)]) (mkO o20_6 51)) h2 fun v_5 h_7 => ∃ (a16 : OA) (n16 k16 : Nat), v_5 = vL a16 n16 k16 ∧
        ∃ (m3 : Nat), m3 < m ∧ IG p h ga gc fa fc m3 a16 n16 k16 (IntKind.i64.wrap ((j : Int) + 1)) ga p.globals.length gc fa p.funcs.length fc none 0 0 0 false (erR e2).1 (erR e2).2 h_7 ∧ tv [vL ga p.globals.length gc, vL fa p.funcs.length fc] ∧ True := by
    intro e2 hok hE b hb h2 hh2
    refine Raw.mono (LM.append (h0 := h) (cs := [vS p.globals[j].name]) und51 elem9 rfl rfl rfl rfl rfl hM hb hh2 rfl rfl (by omega) hx.dom) ?_
    rintro _ h4 ⟨b4, cap4, rfl, hk4, hd4, hn4, hq4, hM4, hR4⟩
    refine ⟨_, _, _, rfl, m - 1, by omega, ⟨j + 1, _, e2, names ++ [p.globals[j].name], ?_, by omega, fun q o hq => hk4 q o (ne_of hq) (hx q o hq), by simp, by simp [hn], by rw [List.map_append]; exact hM4, hok, RC.self (x0 p ga gc fa fc e2), hnm.addG _ p.globals[j].size, by rw [← hE]; exact hck⟩, rfl, trivial⟩
    rw [wrap64 (by omega) (by omega)]; rfl
  unfold K20_2
  refine br_split (fun e3 => ?_) (fun e3 => ?_)
  · have e3 : 256 < p.globals[j].size := by have := of_decide_eq_true e3; omega
    rw [decide_eq_true e3] at hee
    refine Tri.mono (bad_r (x0 p ga gc fa fc e1) he1 2 p.globals[j].pos h1) ?_
    rintro _ h2 ⟨rfl, rfl⟩
    exact ⟨_, _, _, _, _, _, _, _, _, _, _, _, _, rfl, app _ (he1.fail true _ (by decide)) hee⟩
  · have e3 : ¬ 256 < p.globals[j].size := by have := of_decide_eq_false e3; omega
    rw [decide_eq_false e3, failC_false] at hee
    exact app _ he1 hee
end
end Go.Proofs.D
namespace Go.Proofs.D
open Go Go.Den Go.Sx
set_option maxRecDepth 100000
attribute [local irreducible] IntKind.wrap Tri parseS
section
variable {p : Pg} {h : PHeap} {ga fa : OA} {gc fc : Nat} {gl : Tab} {eG : Er}

def IF (p : Pg) (h : PHeap) (ga : OA) (gc : Nat) (fa : OA) (fc : Nat) (gl : Tab) (eG : Er) : Nat → OA → Nat → Nat → Bool → Int → OA → Nat → Nat → OA → Nat → Nat → OA → Nat → Nat → Int → Bool → Int → Int → PHeap → Prop := fun m a n k c i a1 n1 k1 a2 n2 k2 a3 n3 k3 i1 c1 i2 i3 h' =>
  ∃ (j : Nat) (fn : Tab) (e : Er) (names : List Bytes), i = j ∧ j + m = p.funcs.length ∧ Ext h h' ∧ n = names.length ∧ names.length = p.globals.length + j ∧ LM 9 1 h h' a n k (names.map fun x => [vS x]) ∧ eok e ∧ (x0 p ga gc fa fc e).is a1 n1 k1 a2 n2 k2 a3 n3 k3 i1 c1 i2 i3 ∧ Nm gl fn names ∧ c = mainIn (p.funcs.take j) ∧ ckFs gl j (p.funcs.drop j) fn e = ckFs gl 0 p.funcs [] eG

theorem ckPs_ok {pos : Nat} : ∀ (l seen : List Bytes) {e : Er}, eok e → eok (ckPs pos seen l e)
  | [], _, _, h => h
  | q :: l, seen, _, h => ckPs_ok l _ (h.fail _ _ (by decide))

theorem mainIn_snoc (l : List F) (f : F) : mainIn (l ++ [f]) = (mainIn l || (f.name == mainS && f.params.length == 0)) := by simp [mainIn]

theorem par_r (hG : p.globals.length ≤ 100000) (hF : p.funcs.length ≤ 100000) {j m : Nat} {fn : Tab} {e : Er} {names : List Bytes} {a pa ba : OA} {k pc bc : Nat} {h1 : PHeap} (hj : j < p.funcs.length) (hjm : j + m = p.funcs.length) (hx : Ext h h1) (hn : names.length = p.globals.length + j) (hM : LM 9 1 h h1 a names.length k (names.map fun x => [vS x]))
    (hnm : Nm gl fn names) (hck : ckFs gl (j + 1) (p.funcs.drop (j + 1)) ((p.funcs[j].name, p.funcs[j].params.length) :: fn) (ckF j gl fn p.funcs[j] e) = ckFs gl 0 p.funcs [] eG)
    (hP : At 1 RStr h1 pa p.funcs[j].params) (hok : okN pa p.funcs[j].params.length pc) (hpl : p.funcs[j].params.length ≤ 100000)
    {e1 : Er} (he1 : eok e1) (hee : ckF j gl fn p.funcs[j] e = ckPs p.funcs[j].pos [] p.funcs[j].params e1) :
    ∃ (I_3 : Nat → Int → OA → Nat → Nat → OA → Nat → Nat → OA → Nat → Nat → Int → Bool → Int → Int → PHeap → Prop), (∃ (m18 : Nat), I_3 m18 (0 : Int) ga p.globals.length gc fa p.funcs.length fc none 0 0 ((0 : Nat) : Int) false (erR e1).1 (erR e1).2 h1) ∧
      K20_3 I_3 p.funcs[j].params.length pa pc p.funcs[j].pos p.funcs[j].name ba p.funcs[j].body.length bc ga p.globals.length gc fa p.funcs.length fc a names.length k (mainIn (p.funcs.take j)) m (IF p h ga gc fa fc gl eG) j := by
  refine ⟨fun m i a1 n1 k1 a2 n2 k2 a3 n3 k3 i1 c1 i2 i3 h' => h' = h1 ∧ ∃ (q : Nat) (e2 : Er), i = q ∧ q + m = p.funcs[j].params.length ∧ eok e2 ∧ (x0 p ga gc fa fc e2).is a1 n1 k1 a2 n2 k2 a3 n3 k3 i1 c1 i2 i3 ∧ ckPs p.funcs[j].pos (p.funcs[j].params.take q) (p.funcs[j].params.drop q) e2 = ckPs p.funcs[j].pos [] p.funcs[j].params e1,
    ⟨p.funcs[j].params.length, rfl, 0, e1, rfl, by omega, he1, RC.self (x0 p ga gc fa fc e1), rfl⟩, ?_⟩
  unfold K20_3
  rintro m' _ ga _ gc fa _ fc _ _ _ _ _ _ _ h2 ⟨rfl, q, e2, rfl, hqm, hok2, ⟨rfl, rfl, rfl, rfl, rfl, rfl, rfl, rfl, rfl, rfl, rfl, rfl, rfl⟩, heq⟩
  refine br_split (fun e3 => ?_) (fun e3 => ?_)
  · have hq : q < p.funcs[j].params.length := by have := of_decide_eq_true e3; omega
    rcases hP with hP | ⟨b, o, rfl, hP⟩
    · rw [hP] at hq; simp at hq
    have hcell : ∀ r l, p.funcs[j].params[r]? = some l → h2.cell b (o + r) = some (vS l) := fun r l hr => by
      obtain ⟨cs, g1, g2⟩ := hP r l hr
      have g2 : cs = [vS l] := g2
      subst g2
      have : h2.cell b (o + r * 1) = some (vS l) := g1
      rwa [Nat.mul_one] at this
    refine ⟨⟨.inl ⟨b, o, rfl⟩, by omega, by omega, by have := hok.1; omega⟩, ?_⟩
    intro a3 ha3
    obtain ⟨o', rfl, ho'⟩ := ha3.1 b o rfl
    have ho' := ho' (.inr rfl)
    have hstr : StrAt h2 (ad b o') (p.funcs[j].params.take q) := .inr ⟨b, o', rfl, fun r l hr => by
      have hr' : r < q := by
        have := (List.getElem?_eq_some_iff.1 hr).1
        simp at this; omega
      rw [ho', Nat.zero_mul, Nat.add_zero]
      rw [List.getElem?_take_of_lt hr'] at hr
      exact hcell r l hr⟩
    refine ⟨b, o, rfl, ⟨by omega, by omega⟩, p.funcs[j].params[q], ?_, ?_⟩
    · have := hcell q _ (List.getElem?_eq_getElem hq)
      simpa using this
    have hct := has_r (c := pc - 0) p.funcs[j].params[q] hstr (by simp; omega)
    rw [show (p.funcs[j].params.take q).length = (((q : Nat) : Int)).toNat - 0 by simp; omega] at hct
    refine Tri.mono hct ?_
    rintro _ h3 ⟨rfl, rfl⟩
    rw [List.drop_eq_getElem_cons hq, ckPs, List.take_append_getElem hq] at heq
    refine ⟨_, rfl, rfl, rfl, br_split (fun e4 => ?_) (fun e4 => ?_)⟩
    · rw [e4] at heq
      refine Tri.mono (bad_r (x0 p ga gc fa fc e2) hok2 7 p.funcs[j].pos h3) ?_
      rintro _ h4 ⟨rfl, rfl⟩
      refine ⟨_, _, _, _, _, _, _, _, _, _, _, _, _, rfl, m' - 1, by omega, ⟨rfl, q + 1, _, ?_, by omega, hok2.fail true _ (by decide), RC.self (x0 p ga gc fa fc _), heq⟩, rfl, rfl, trivial⟩
      rw [wrap64 (by omega) (by omega)]; rfl
    · rw [e4, failC_false] at heq
      refine ⟨m' - 1, by omega, ⟨rfl, q + 1, _, ?_, by omega, hok2, RC.self (x0 p ga gc fa fc _), heq⟩, rfl, rfl, trivial⟩
      rw [wrap64 (by omega) (by omega)]; rfl
  · have hq : p.funcs[j].params.length ≤ q := by have := of_decide_eq_false e3; omega
    rw [List.drop_eq_nil_of_le hq] at heq
    have heq : e2 = ckPs p.funcs[j].pos [] p.funcs[j].params e1 := heq
    intro b hb h3 hh3
    refine Raw.mono (LM.append (h0 := h) (cs := [vS p.funcs[j].name]) und51 elem9 rfl rfl rfl rfl rfl hM hb hh3 rfl rfl (by omega) hx.dom) ?_
    rintro _ h4 ⟨b4, cap4, rfl, hk4, hd4, hn4, hq4, hM4, hR4⟩
    have hI : ∀ c, c = mainIn (p.funcs.take (j + 1)) → ∃ m21, m21 < m ∧ IF p h ga gc fa fc gl eG m21 (ad b4 0) (names.length + 1) cap4 c (IntKind.i64.wrap ((j : Int) + 1)) ga p.globals.length gc fa p.funcs.length fc none 0 0 ((0 : Nat) : Int) false (erR e2).1 (erR e2).2 h4 ∧ tv [vL ga p.globals.length gc, vL fa p.funcs.length fc] ∧ True := fun c hc =>
      ⟨m - 1, by omega, ⟨j + 1, _, e2, names ++ [p.funcs[j].name], by rw [wrap64 (by omega) (by omega)]; rfl, by omega, fun q o hq => hk4 q o (ne_of hq) (hx q o hq), by simp, by simp [hn]; omega, by rw [List.map_append]; exact hM4, hok2, RC.self (x0 p ga gc fa fc e2), hnm.addF _ p.funcs[j].params.length, hc, by rw [heq, ← hee]; exact hck⟩, rfl, trivial⟩
    have hms : mainIn (p.funcs.take (j + 1)) = (mainIn (p.funcs.take j) || (p.funcs[j].name == mainS && p.funcs[j].params.length == 0)) := by rw [← List.take_append_getElem hj, mainIn_snoc]
    refine ⟨_, _, _, rfl, br_split (fun e4 => hI _ ?_) (fun e4 => br_split (fun e5 => hI _ ?_) (fun e5 => hI _ ?_))⟩
    · rw [hms, e4]; rfl
    · rw [hms, e4, show (p.funcs[j].name == mainS) = true from e5, Bool.false_or, Bool.true_and, Bool.eq_iff_iff]; simp
    · rw [hms, e4, show (p.funcs[j].name == mainS) = false from e5]; rfl
end
end Go.Proofs.D
namespace Go.Proofs.D
open Go Go.Den Go.Sx
set_option maxRecDepth 100000
attribute [local irreducible] IntKind.wrap Tri parseS
section
variable {p : Pg} {h : PHeap} {ga fa : OA} {gc fc : Nat} {gl : Tab} {eG : Er}

theorem six_r (hG : p.globals.length ≤ 100000) (hF : p.funcs.length ≤ 100000) {j m : Nat} {fn : Tab} {e : Er} {names : List Bytes} {a pa ba : OA} {k pc bc : Nat} {h1 : PHeap} (hj : j < p.funcs.length) (hjm : j + m = p.funcs.length) (hx : Ext h h1) (hn : names.length = p.globals.length + j) (hM : LM 9 1 h h1 a names.length k (names.map fun x => [vS x]))
    (hnm : Nm gl fn names) (hck : ckFs gl (j + 1) (p.funcs.drop (j + 1)) ((p.funcs[j].name, p.funcs[j].params.length) :: fn) (ckF j gl fn p.funcs[j] e) = ckFs gl 0 p.funcs [] eG)
    (hP : At 1 RStr h1 pa p.funcs[j].params) (hok : okN pa p.funcs[j].params.length pc) (hpl : p.funcs[j].params.length ≤ 100000)
    {e1 : Er} (he1 : eok e1) (hee : ckF j gl fn p.funcs[j] e = ckPs p.funcs[j].pos [] p.funcs[j].params (failC (decide (6 < p.funcs[j].params.length)) (some p.funcs[j].pos) 9 e1)) :
    K20_1 p.funcs[j].params.length ga p.globals.length gc fa p.funcs.length fc none 0 0 ((0 : Nat) : Int) false (erR e1).1 (erR e1).2 p.funcs[j].pos h1 pa pc p.funcs[j].name ba p.funcs[j].body.length bc ga p.globals.length gc fa p.funcs.length fc a names.length k (mainIn (p.funcs.take j)) m (IF p h ga gc fa fc gl eG) j := by
  unfold K20_1
  refine br_split (fun e3 => ?_) (fun e3 => ?_)
  · have e3 : 6 < p.funcs[j].params.length := by have := of_decide_eq_true e3; omega
    rw [decide_eq_true e3] at hee
    refine Tri.mono (bad_r (x0 p ga gc fa fc e1) he1 9 p.funcs[j].pos h1) ?_
    rintro _ h2 ⟨rfl, rfl⟩
    exact ⟨_, _, _, _, _, _, _, _, _, _, _, _, _, rfl, par_r hG hF hj hjm hx hn hM hnm hck hP hok hpl (he1.fail true _ (by decide)) hee⟩
  · have e3 : ¬ 6 < p.funcs[j].params.length := by have := of_decide_eq_false e3; omega
    rw [decide_eq_false e3, failC_false] at hee
    exact par_r hG hF hj hjm hx hn hM hnm hck hP hok hpl he1 hee

theorem fname_r (hG : p.globals.length ≤ 100000) (hF : p.funcs.length ≤ 100000) {j m : Nat} {fn : Tab} {e : Er} {names : List Bytes} {a pa ba : OA} {k pc bc : Nat} {h1 : PHeap} (hj : j < p.funcs.length) (hjm : j + m = p.funcs.length) (hx : Ext h h1) (hn : names.length = p.globals.length + j) (hM : LM 9 1 h h1 a names.length k (names.map fun x => [vS x]))
    (hnm : Nm gl fn names) (hck : ckFs gl (j + 1) (p.funcs.drop (j + 1)) ((p.funcs[j].name, p.funcs[j].params.length) :: fn) (ckF j gl fn p.funcs[j] e) = ckFs gl 0 p.funcs [] eG)
    (hP : At 1 RStr h1 pa p.funcs[j].params) (hok : okN pa p.funcs[j].params.length pc) (hpl : p.funcs[j].params.length ≤ 100000)
    {e1 : Er} (he1 : eok e1) (he : e1 = failC (decide (64 ≤ j)) (some p.funcs[j].pos) 9 e) :
    K20_5 (builtinS p.funcs[j].name).isSome ga p.globals.length gc fa p.funcs.length fc none 0 0 ((0 : Nat) : Int) false (erR e1).1 (erR e1).2 p.funcs[j].pos h1 p.funcs[j].params.length pa pc p.funcs[j].name ba p.funcs[j].body.length bc ga p.globals.length gc fa p.funcs.length fc a names.length k (mainIn (p.funcs.take j)) m (IF p h ga gc fa fc gl eG) j := by
  have hF1 : ckF j gl fn p.funcs[j] e = ckPs p.funcs[j].pos [] p.funcs[j].params (failC (decide (6 < p.funcs[j].params.length)) (some p.funcs[j].pos) 9 (failC (names.contains p.funcs[j].name || (builtinS p.funcs[j].name).isSome) (some p.funcs[j].pos) 7 e1)) := by
    rw [ckF, hnm, he]
  unfold K20_5
  refine br_split (fun e3 => ?_) (fun e3 => ?_)
  · rw [e3, Bool.or_true] at hF1
    refine Tri.mono (bad_r (x0 p ga gc fa fc e1) he1 7 p.funcs[j].pos h1) ?_
    rintro _ h2 ⟨rfl, rfl⟩
    exact ⟨_, _, _, _, _, _, _, _, _, _, _, _, _, rfl, six_r hG hF hj hjm hx hn hM hnm hck hP hok hpl (he1.fail true _ (by decide)) hF1⟩
  · rw [e3, Bool.or_false] at hF1
    refine Tri.mono (has_r p.funcs[j].name (LM.names rfl hM) (by omega)) ?_
    rintro _ h2 ⟨rfl, rfl⟩
    refine ⟨_, rfl, br_split (fun e4 => ?_) (fun e4 => ?_)⟩
    · rw [e4] at hF1
      refine Tri.mono (bad_r (x0 p ga gc fa fc e1) he1 7 p.funcs[j].pos h2) ?_
      rintro _ h3 ⟨rfl, rfl⟩
      exact ⟨_, _, _, _, _, _, _, _, _, _, _, _, _, rfl, six_r hG hF hj hjm hx hn hM hnm hck hP hok hpl (he1.fail true _ (by decide)) hF1⟩
    · rw [e4, failC_false] at hF1
      exact six_r hG hF hj hjm hx hn hM hnm hck hP hok hpl he1 hF1
end
end Go.Proofs.D
namespace Go.Proofs.D
open Go Go.Den Go.Sx
set_option maxRecDepth 100000
attribute [local irreducible] IntKind.wrap Tri parseS

def refV : Option Er → Value
  | none => vT [vI 0, vI 8, vB true]
  | some none => vT [vI (-1), vI 0, vB false]
  | some (some x) => vT [vI (erR (some x)).2, vI x.1, vB false]

section
variable {p : Pg} {h : PHeap} {ga fa : OA} {gc fc : Nat}

theorem bodies_r (hG : p.globals.length ≤ 100000) (hF : cntFs p.funcs ≤ 100000) (hwf : ∀ f ∈ p.funcs, wfSs f.body) {h1 : PHeap} (hx1 : Ext h h1) (hgl : At 4 (RG plR) h1 ga p.globals) (hfu : At 4 (RF plR 7 6) h1 fa p.funcs) {e2 : Er} (he2 : eok e2) (h6 : e2 = none → ∀ f ∈ p.funcs, f.params.length ≤ 6)
    {a3 : OA} {n3 k3 : Nat} {i1 : Int} {c1 : Bool} :
    ∃ (I_15 : Nat → Int → OA → Nat → Nat → OA → Nat → Nat → OA → Nat → Nat → Int → Bool → Int → Int → PHeap → Prop), (∃ (m102 : Nat), I_15 m102 (0 : Int) ga p.globals.length gc fa p.funcs.length fc a3 n3 k3 i1 c1 (erR e2).1 (erR e2).2 h1) ∧
      K20_4 I_15 p.funcs.length fa fc ga p.globals.length gc fun v h' => v = refV (some (ckB (glO p) (fnO p) p.funcs e2)) ∧ Ext h h' := by
  have hfl := cntFs_len p.funcs
  refine ⟨fun m i a1 n1 k1 a2 n2 k2 _ _ _ _ _ i2 i3 h' => ∃ (j : Nat) (e : Er), i = j ∧ j + m = p.funcs.length ∧ Ext h1 h' ∧ eok e ∧ (a1 = ga ∧ n1 = p.globals.length ∧ k1 = gc ∧ a2 = fa ∧ n2 = p.funcs.length ∧ k2 = fc ∧ i2 = (erR e).1 ∧ i3 = (erR e).2) ∧ ckB (glO p) (fnO p) (p.funcs.drop j) e = ckB (glO p) (fnO p) p.funcs e2 ∧ (e = none → e2 = none),
    ⟨p.funcs.length, 0, e2, rfl, by omega, Ext.refl _, he2, ⟨rfl, rfl, rfl, rfl, rfl, rfl, rfl, rfl⟩, rfl, fun h => h⟩, ?_⟩
  unfold K20_4
  rintro m _ ga _ gc fa _ fc a3 n3 k3 i1 c1 _ _ h2 ⟨j, e, rfl, hjm, hx2, hoke, ⟨rfl, rfl, rfl, rfl, rfl, rfl, rfl, rfl⟩, heq, hnn⟩
  refine br_split (fun e3 => ?_) (fun e3 => ?_)
  · have hj : j < p.funcs.length := by have := of_decide_eq_true e3; omega
    obtain ⟨b, o, cs, ha, hr, hrel⟩ := hfu.get hj
    have hmem := List.getElem_mem hj
    have hcj := cntFs_mem hmem
    have hwj := hwf _ hmem
    have h6j : e2 = none → p.funcs[j].params.length ≤ 6 := fun h => h6 h _ hmem
    rw [List.drop_eq_getElem_cons hj, ckB, ckL] at heq
    generalize p.funcs[j] = y at *
    obtain ⟨pa, pc, ba, bc, rfl, hP, hB, hok⟩ := hrel
    simp only [cntF] at hcj
    have hr := row_ext (fun ob => hx2 b ob) hr
    refine ⟨b, o, ha, ⟨by omega, by omega⟩, _, _, _, hr.2.1, b, o, ha, ⟨by omega, by omega⟩, _, _, _, hr.2.1, hr.2.1, rfl, b, o, ha, ⟨by omega, by omega⟩, _, _, _, hr.2.2.1, ?_⟩
    refine Tri.mono (body_r (by omega) (by omega) _ y.body (Nat.le_refl _) hwj ⟨ga, p.globals.length, gc, fa, p.funcs.length, fc, pa, y.params.length, pc, y.params.length, false, e⟩ y.params h2 ba bc
      ⟨rfl, rfl, rfl, hgl.ext (RG_mono _) hx2, hfu.ext (RF_mono _ _ _) hx2, (RStr_str hP).ext hx2, hok, hoke⟩ (hB.ext (RS_mono _ _ _) hx2) (fun h => by have := h6j (hnn h); show y.params.length ≤ 32; omega) (Nat.le_refl _) (by show y.params.length + _ ≤ _; omega)) ?_
    rintro _ h3 ⟨rfl, hx3, hok3, hinv3⟩
    refine ⟨_, _, _, _, _, _, _, _, _, _, _, _, _, rfl, rfl, m - 1, by omega, ⟨j + 1, _, ?_, by omega, hx2.trans hx3, hok3, ⟨rfl, rfl, rfl, rfl, rfl, rfl, rfl, rfl⟩, heq, fun h => hnn ?_⟩, rfl, trivial⟩
    · rw [wrap64 (by omega) (by omega)]; rfl
    · cases e with
      | none => rfl
      | some x => rw [ckSs_err (x := x) false y.body _ rfl] at h; cases h
  · have hj : p.funcs.length ≤ j := by have := of_decide_eq_false e3; omega
    rw [List.drop_eq_nil_of_le hj] at heq
    have heq : e = ckB (glO p) (fnO p) p.funcs e2 := heq
    rw [← heq]
    cases e with
    | none => exact br_neg rfl ⟨rfl, hx1.trans hx2⟩
    | some x =>
      have h0 := hoke x rfl
      have : (erR (some x)).1 = x.1 := by obtain ⟨a, b⟩ := x; cases b <;> rfl
      refine br_pos (by rw [this]; simpa using h0) ⟨?_, hx1.trans hx2⟩
      rw [refV, this]
end
end Go.Proofs.D
namespace Go.Proofs.D
open Go Go.Den Go.Sx
set_option maxRecDepth 100000
attribute [local irreducible] IntKind.wrap Tri parseS
section
variable {p : Pg} {h : PHeap} {ga fa : OA} {gc fc : Nat}

theorem builtin_some (l : Bytes) (h : PHeap) : Tri Tryz.prog 25 [vS l] h fun v h' => (∃ i j : Int, v = vT [vI i, vI j, vB (builtinS l).isSome]) ∧ h' = h := by
  refine Tri.mono (builtin_r l h) ?_
  rintro _ h ⟨rfl, rfl⟩
  cases builtinS l with
  | none => exact ⟨⟨_, _, rfl⟩, rfl⟩
  | some x => exact ⟨⟨_, _, rfl⟩, rfl⟩

theorem check_r (hG : p.globals.length ≤ 100000) (hF : cntFs p.funcs ≤ 100000) (hwf : ∀ f ∈ p.funcs, wfSs f.body) (hgl : At 4 (RG plR) h ga p.globals) (hfu : At 4 (RF plR 7 6) h fa p.funcs) :
    Tri Tryz.prog 20 [vA [vL ga p.globals.length gc, vL fa p.funcs.length fc]] h fun v h' => v = refV (refC p) ∧ Ext h h' := by
  have hfl := cntFs_len p.funcs
  refine T20 ?_
  unfold R20
  refine ⟨IG p h ga gc fa fc, ⟨p.globals.length, 0, [], none, [], rfl, by omega, Ext.refl _, rfl, rfl, LM.nil, (fun x hx => by cases hx), RC.self (x0 p ga gc fa fc none), Nm.nil, rfl⟩, ?_⟩
  rintro m a _ k _ ga _ gc fa _ fc _ _ _ _ _ _ _ h1 ⟨j, gl, e, names, rfl, hjm, hx1, rfl, hn, hM, hoke, ⟨rfl, rfl, rfl, rfl, rfl, rfl, rfl, rfl, rfl, rfl, rfl, rfl, rfl⟩, hnm, hck⟩
  refine br_split (fun e3 => ?_) (fun e3 => ?_)
  · have hj : j < p.globals.length := by have := of_decide_eq_true e3; omega
    obtain ⟨b, o, cs, ha, hr, hrel⟩ := hgl.get hj
    rw [List.drop_eq_getElem_cons hj, ckGs] at hck
    have hrel : cs = [vS p.globals[j].name, vI p.globals[j].size, vI p.globals[j].value] ++ plR p.globals[j].pos := hrel
    subst hrel
    refine ⟨b, o, ha, ⟨by omega, by omega⟩, _, _, _, _, row_ext (fun ob => hx1 b ob) hr, ?_⟩
    refine Tri.mono (builtin_some p.globals[j].name h1) ?_
    rintro _ h2 ⟨⟨_, _, rfl⟩, rfl⟩
    have hG0 : ∀ n, (getT gl n).isSome = names.contains n := fun n => by rw [← hnm n]; simp [getT]
    have six : ∀ e1, eok e1 → e1 = failC (decide (64 ≤ j)) (some p.globals[j].pos) 9 e → br (builtinS p.globals[j].name).isSome
        (K20_6 ga p.globals.length gc fa p.funcs.length fc none 0 0 ((0 : Nat) : Int) false (erR e1).1 (erR e1).2 p.globals[j].pos h2 p.globals[j].size p.globals[j].name a names.length k m (IG p h ga gc fa fc) j ga p.globals.length gc fa p.funcs.length fc)
        (Tri Tryz.prog 63 [vL a names.length k, vS p.globals[j].name] h2 fun v_7 h_10 => ∃ (c6 : Bool), v_7 = vB c6 ∧ br c6
          (K20_6 ga p.globals.length gc fa p.funcs.length fc none 0 0 ((0 : Nat) : Int) false (erR e1).1 (erR e1).2 p.globals[j].pos h_10 p.globals[j].size p.globals[j].name a names.length k m (IG p h ga gc fa fc) j ga p.globals.length gc fa p.funcs.length fc)
          (K20_2 p.globals[j].size ga p.globals.length gc fa p.funcs.length fc none 0 0 ((0 : Nat) : Int) false (erR e1).1 (erR e1).2 p.globals[j].pos h_10 p.globals[j].name a names.length k m (IG p h ga gc fa fc) j ga p.globals.length gc fa p.funcs.length fc)) := by
      intro e1 he1 hee1
      have hcg : ckG j gl p.globals[j] e = failC (decide (256 < p.globals[j].size)) (some p.globals[j].pos) 2 (failC (names.contains p.globals[j].name || (builtinS p.globals[j].name).isSome) (some p.globals[j].pos) 7 e1) := by rw [ckG, hG0, hee1]
      have bad7 : names.contains p.globals[j].name = true ∨ (builtinS p.globals[j].name).isSome = true → K20_6 ga p.globals.length gc fa p.funcs.length fc none 0 0 ((0 : Nat) : Int) false (erR e1).1 (erR e1).2 p.globals[j].pos h2 p.globals[j].size p.globals[j].name a names.length k m (IG p h ga gc fa fc) j ga p.globals.length gc fa p.funcs.length fc := fun hor => by
        unfold K20_6
        have : (names.contains p.globals[j].name || (builtinS p.globals[j].name).isSome) = true := by rcases hor with h | h <;> rw [h] <;> simp
        rw [this] at hcg
        refine Tri.mono (bad_r (x0 p ga gc fa fc e1) he1 7 p.globals[j].pos h2) ?_
        rintro _ h3 ⟨rfl, rfl⟩
        exact ⟨_, _, _, _, _, _, _, _, _, _, _, _, _, rfl, glob_r hG hj hjm hx1 hn hM hoke hnm hck (he1.fail true _ (by decide)) hcg⟩
      refine br_split (fun e4 => bad7 (.inr e4)) (fun e4 => ?_)
      refine Tri.mono (has_r p.globals[j].name (LM.names rfl hM) (by omega)) ?_
      rintro _ h3 ⟨rfl, rfl⟩
      refine ⟨_, rfl, br_split (fun e5 => bad7 (.inl e5)) (fun e5 => ?_)⟩
      rw [e4, e5, show (false || false) = false from rfl, failC_false] at hcg
      exact glob_r hG hj hjm hx1 hn hM hoke hnm hck he1 hcg
    refine ⟨_, _, _, rfl, br_split (fun e4 => ?_) (fun e4 => ?_)⟩
    · have e4 : 64 ≤ j := by have := of_decide_eq_true e4; omega
      refine Tri.mono (bad_r (x0 p ga gc fa fc e) hoke 9 p.globals[j].pos h2) ?_
      rintro _ h3 ⟨rfl, rfl⟩
      exact ⟨_, _, _, _, _, _, _, _, _, _, _, _, _, rfl, six _ (hoke.fail true _ (by decide)) (by rw [decide_eq_true e4]; rfl)⟩
    · have e4 : ¬ 64 ≤ j := by have := of_decide_eq_false e4; omega
      exact six _ hoke (by rw [decide_eq_false e4, failC_false]; rfl)
  have hj : p.globals.length = j := by have := of_decide_eq_false e3; omega
  rw [List.drop_eq_nil_of_le (by omega)] at hck
  have hg1 : gl = (ckGs 0 p.globals [] none).1 := congrArg Prod.fst hck
  have hg2 : e = (ckGs 0 p.globals [] none).2 := congrArg Prod.snd hck
  clear hck e3 hjm
  refine ⟨IF p h ga gc fa fc gl e, ⟨p.funcs.length, 0, [], e, names, rfl, by omega, hx1, rfl, by omega, hM, hoke, RC.self (x0 p ga gc fa fc e), hnm, rfl, rfl⟩, ?_⟩
  rintro m a2 _ k2 _ _ ga _ gc fa _ fc _ _ _ _ _ _ _ h2 ⟨j, fn, e', names', rfl, hjm, hx2, rfl, hn', hM', hoke', ⟨rfl, rfl, rfl, rfl, rfl, rfl, rfl, rfl, rfl, rfl, rfl, rfl, rfl⟩, hnm', rfl, hck⟩
  refine br_split (fun e3 => ?_) (fun e3 => ?_)
  · have hj : j < p.funcs.length := by have := of_decide_eq_true e3; omega
    obtain ⟨b, o, cs, ha, hr, hrel⟩ := hfu.get hj
    have hcj := cntFs_mem (List.getElem_mem hj)
    rw [List.drop_eq_getElem_cons hj, ckFs] at hck
    obtain ⟨pa, pc, ba, bc, rfl, hP, hB, hok⟩ := hrel
    simp only [cntF] at hcj
    refine ⟨b, o, ha, ⟨by omega, by omega⟩, _, _, _, _, _, _, _, _, row_ext (fun ob => hx2 b ob) hr, ?_⟩
    refine Tri.mono (builtin_some p.funcs[j].name h2) ?_
    rintro _ h3 ⟨⟨_, _, rfl⟩, rfl⟩
    refine ⟨_, _, _, rfl, br_split (fun e4 => ?_) (fun e4 => ?_)⟩
    · have e4 : 64 ≤ j := by have := of_decide_eq_true e4; omega
      refine Tri.mono (bad_r (x0 p ga gc fa fc e') hoke' 9 p.funcs[j].pos h3) ?_
      rintro _ h4 ⟨rfl, rfl⟩
      exact ⟨_, _, _, _, _, _, _, _, _, _, _, _, _, rfl, fname_r hG (by omega) hj hjm hx2 hn' hM' hnm' hck (hP.ext RStr_mono hx2) hok (by omega) (hoke'.fail true _ (by decide)) (by rw [decide_eq_true e4]; rfl)⟩
    · have e4 : ¬ 64 ≤ j := by have := of_decide_eq_false e4; omega
      exact fname_r hG (by omega) hj hjm hx2 hn' hM' hnm' hck (hP.ext RStr_mono hx2) hok (by omega) hoke' (by rw [decide_eq_false e4, failC_false]; rfl)
  have hj : p.funcs.length = j := by have := of_decide_eq_false e3; omega
  subst hj
  rw [List.drop_eq_nil_of_le (Nat.le_refl _)] at hck
  have hf2 : e' = (ckFs gl 0 p.funcs [] e).2 := congrArg Prod.snd hck
  rw [List.take_length]
  have hrc : refC p = if e' = none ∧ mainIn p.funcs = false then none else some (ckB (glO p) (fnO p) p.funcs e') := by
    rw [refC, hf2, hg1, hg2]; rfl
  have h6 : e' = none → ∀ f ∈ p.funcs, f.params.length ≤ 6 := fun h => (ckFs_turn p.funcs 0 [] [] e (fun _ => rfl) (by rw [← hf2]; exact h)).2.2
  cases he' : e' with
  | none =>
    refine br_pos rfl (br_split (fun e4 => ?_) (fun e4 => ?_))
    · have e4 : mainIn p.funcs = false := by simpa using e4
      rw [hrc, if_pos ⟨he', e4⟩]
      exact ⟨rfl, hx2⟩
    · have e4 : mainIn p.funcs = true := by simpa using e4
      rw [hrc, if_neg (by rw [e4]; simp), he']
      exact bodies_r hG hF hwf hx2 (hgl.ext (RG_mono _) hx2) (hfu.ext (RF_mono _ _ _) hx2) (fun x hx => by cases hx) (fun _ => h6 he')
  | some x =>
    have h0 := hoke' x he'
    have : (erR (some x)).1 = x.1 := by obtain ⟨a, b⟩ := x; cases b <;> rfl
    rw [hrc, if_neg (by rw [he']; simp), he']
    exact br_neg (by show ((erR (some x)).1 == 0) = false; rw [this]; simpa using h0) (bodies_r hG hF hwf hx2 (hgl.ext (RG_mono _) hx2) (hfu.ext (RF_mono _ _ _) hx2) (he' ▸ hoke') (fun h => by cases h))
end
end Go.Proofs.D
namespace Go.Sx
theorem scanL_pos : ∀ (f k : Nat) (l : Bytes) (o n : Nat), o + l.length ≤ n → (∀ e, scanL f k l o = .error e → e.2 ≤ n) ∧ ∀ ts, scanL f k l o = .ok ts → ∀ t ∈ ts, t.pos ≤ n
  | 0, _, _, _, _, _ => ⟨fun e h => by cases h; exact Nat.zero_le _, fun ts h => by cases h⟩
  | f + 1, k, l, o, n, hn => by
    have hsk := skipN_le false l
    simp only [scanL]
    split
    · refine ⟨(fun e h => by cases h), fun ts h => ?_⟩
      cases h
      intro t ht
      simp at ht; subst ht
      show o + skipN false l ≤ n
      omega
    · rename_i c m hr
      split
      · exact ⟨fun e h => by cases h; show o + skipN false l ≤ n; omega, fun ts h => by cases h⟩
      · have h1 := oneS_nl (l.drop (skipN false l))
        split
        · rename_i e i he
          refine ⟨fun e' h => ?_, fun ts h => by cases h⟩
          cases h
          have := (h1.1 _ _ he).1.1
          rw [List.length_drop] at this
          show o + skipN false l + i ≤ n
          omega
        · rename_i kind len v b he
          have h2 := (h1.2 _ _ _ _ he).nl.1
          rw [List.length_drop] at h2
          have ih := scanL_pos f (k + 1) ((l.drop (skipN false l)).drop len) (o + skipN false l + len) n (by simp only [List.length_drop]; omega)
          split
          · rename_i e2 he2
            exact ⟨fun e' h => by cases h; exact ih.1 _ he2, fun ts h => by cases h⟩
          · rename_i ts2 he2
            refine ⟨(fun e h => by cases h), fun ts h => ?_⟩
            cases h
            intro t ht
            cases ht with
            | head => show o + skipN false l ≤ n; omega
            | tail _ ht => exact ih.2 _ he2 t ht

theorem parseS_pos (s : Bytes) : (∀ e, parseS s = .error e → e.2 ≤ s.length) ∧ ∀ p, parseS s = .ok p → (∀ g ∈ p.globals, g.pos ≤ s.length) ∧ ∀ f ∈ p.funcs, f.pos ≤ s.length ∧ posSs s.length f.body := by
  have hs : (∀ e, scanS s = .error e → e.2 ≤ s.length) ∧ ∀ ts, scanS s = .ok ts → ∀ t ∈ ts, t.pos ≤ s.length := by
    unfold scanS
    split
    · exact ⟨fun e h => by cases h; exact Nat.zero_le _, fun ts h => by cases h⟩
    · exact scanL_pos (s.length + 1) 0 s 0 s.length (by omega)
  unfold parseS
  cases hsc : scanS s with
  | error e => exact ⟨fun e' h => by cases h; exact hs.1 _ hsc, fun p h => by cases h⟩
  | ok ts =>
    have hp := pProg_rp (posCl s.length) (20 * ts.length + 40) ⟨[], []⟩ ts 0 (fun g hg => by cases hg) (fun g hg => by cases hg) (hs.2 _ hsc)
    simp only
    cases hpp : pProg (20 * ts.length + 40) ⟨[], []⟩ ts 0 with
    | error e => exact ⟨fun e' h => by cases h; exact hp.2 _ hpp, fun p h => by cases h⟩
    | ok q =>
      obtain ⟨p, ts', d'⟩ := q
      exact ⟨(fun e h => by cases h), fun p' h => by cases h; exact (hp.1 _ _ _ hpp).1⟩
end Go.Sx
namespace Go.Sx
def erN (n : Nat) (e : Er) : Prop := ∀ c x, e = some (c, x) → c ≠ 0 ∧ ∃ q, x = some q ∧ q ≤ n
section
variable {n : Nat}
theorem erN.none : erN n none := fun c q h => by cases h
theorem erN.at {e : Er} (h : erN n e) {b : Bool} {pos c : Nat} (hp : pos ≤ n) (hc : c ≠ 0 := by decide) : erN n (failC b (some pos) c e) := fun c' q hq => by
  cases e with
  | some x => exact h c' q hq
  | none =>
    simp only [failC] at hq
    split at hq
    · cases hq; exact ⟨hc, _, rfl, hp⟩
    · cases hq
theorem varC_n {gl : Tab} {vis : List Bytes} {nm : Bytes} {arr : Bool} {pos : Nat} {e : Er} (h : erN n e) (hp : pos ≤ n) : erN n (varC gl vis nm arr pos e) := by
  unfold varC; split
  · exact h.at hp
  · exact (h.at hp).at hp
theorem callC_n {fn : Tab} {nm : Bytes} {k pos : Nat} {e : Er} (h : erN n e) (hp : pos ≤ n) : erN n (callC fn nm k pos e) := by
  unfold callC; split
  · exact h.at hp
  · exact (h.at hp).at hp
mutual
theorem ckE_n {gl fn : Tab} {vis : List Bytes} : ∀ (x : E) (e : Er), posE n x → erN n e → erN n (ckE gl fn vis x e)
  | .mk k _ nm _ _ args pos, e, hp, h => by
    rw [ckE]
    refine ckEs_n args _ hp.2 ?_
    split
    · exact varC_n h hp.1
    · split
      · exact callC_n h hp.1
      · exact h
theorem ckEs_n {gl fn : Tab} {vis : List Bytes} : ∀ (l : List E) (e : Er), posEs n l → erN n e → erN n (ckEs gl fn vis l e)
  | [], _, _, h => h
  | x :: l, e, hp, h => ckEs_n l _ hp.2 (ckE_n x e hp.1 h)
end
mutual
theorem ckS_n {gl fn : Tab} : ∀ (lp : Bool) (s : S) (c : CS), posS n s → erN n c.err → erN n (ckS gl fn lp s c).err
  | lp, .mk k nm args body els pos, c, hp, h => by
    have h0 : erN n (ckEs gl fn c.vis args (if k = 2 ∨ k = 3 then varC gl c.vis nm (k == 3) pos c.err else if k = 8 ∨ k = 9 then failC (!lp) (some pos) 10 c.err else c.err)) := by
      refine ckEs_n args _ hp.2.1 ?_
      split
      · exact varC_n h hp.1
      · split
        · exact h.at hp.1
        · exact h
    simp only [ckS]
    split
    · exact (h0.at hp.1).at hp.1
    · split
      · exact ckSs_n lp els _ hp.2.2.2 (ckSs_n lp body _ hp.2.2.1 h0)
      · split
        · exact ckSs_n true body _ hp.2.2.1 h0
        · exact h0
theorem ckSs_n {gl fn : Tab} : ∀ (lp : Bool) (l : List S) (c : CS), posSs n l → erN n c.err → erN n (ckSs gl fn lp l c).err
  | _, [], _, _, h => h
  | lp, s :: l, c, hp, h => by rw [ckSs]; exact ckSs_n lp l _ hp.2 (ckS_n lp s c hp.1 h)
end
theorem ckB_n {gl fn : Tab} : ∀ (l : List F) (e : Er), (∀ f ∈ l, posSs n f.body) → erN n e → erN n (ckB gl fn l e)
  | [], _, _, h => h
  | f :: l, e, hp, h => by rw [ckB, ckL]; exact ckB_n l _ (fun g hg => hp g (List.mem_cons_of_mem _ hg)) (ckSs_n false f.body _ (hp f (List.mem_cons_self ..)) h)
theorem ckGs_n : ∀ (l : List G) (i : Nat) (gl : Tab) (e : Er), (∀ g ∈ l, g.pos ≤ n) → erN n e → erN n (ckGs i l gl e).2
  | [], _, _, _, _, h => h
  | g :: l, i, gl, e, hp, h => by
    have h1 := hp g (List.mem_cons_self ..)
    rw [ckGs]; exact ckGs_n l _ _ _ (fun x hx => hp x (List.mem_cons_of_mem _ hx)) (((h.at h1).at h1).at h1)
theorem ckPs_n {pos : Nat} (hp : pos ≤ n) : ∀ (l seen : List Bytes) (e : Er), erN n e → erN n (ckPs pos seen l e)
  | [], _, _, h => h
  | q :: l, seen, e, h => ckPs_n hp l _ _ (h.at hp)
theorem ckFs_n {gl : Tab} : ∀ (l : List F) (i : Nat) (fn : Tab) (e : Er), (∀ g ∈ l, g.pos ≤ n) → erN n e → erN n (ckFs gl i l fn e).2
  | [], _, _, _, _, h => h
  | g :: l, i, fn, e, hp, h => by
    have h1 := hp g (List.mem_cons_self ..)
    rw [ckFs]; exact ckFs_n l _ _ _ (fun x hx => hp x (List.mem_cons_of_mem _ hx)) (ckPs_n h1 _ _ _ (((h.at h1).at h1).at h1))
theorem refC_n {p : Pg} (hg : ∀ g ∈ p.globals, g.pos ≤ n) (hf : ∀ f ∈ p.funcs, f.pos ≤ n ∧ posSs n f.body) {e : Er} (h : refC p = some e) : erN n e := by
  simp only [refC] at h
  split at h
  · cases h
  · cases h
    exact ckB_n _ _ (fun f h => (hf f h).2) (ckFs_n _ _ _ _ (fun f h => (hf f h).1) (ckGs_n _ _ _ _ hg erN.none))
end
end Go.Sx
namespace Go.Proofs.D
open Go Go.Den Go.Sx
set_option maxRecDepth 100000
attribute [local irreducible] IntKind.wrap Tri parseS checkS refC

theorem checks_tri {h : PHeap} (ht : L.EscTab h) (s : Bytes) : Tri Tryz.prog 4 [vS s] h fun v h' => v = vB true ∧ Ext h h' := by
  refine T4 ?_
  unfold R4
  intro b1 hb1 h1 hh1
  have hx1 := Put.ext hh1 hb1
  refine ⟨s, cell_of (Put.at hh1) 0, ?_⟩
  refine Tri.mono (short_tri s h1) ?_
  rintro _ h1 ⟨rfl, rfl⟩
  refine ⟨_, rfl, _, _, _, Put.at hh1, ⟨by simp, Nat.zero_le _⟩, ?_⟩
  intro h3 hh3
  have hb3 : h3 b1 = some (.cells ⟨[vS (s.take 1500)]⟩ 9 (0, 0)) := Put.at hh3
  have hx3 : Ext h h3 := fun k o hk => by
    have : k ≠ b1 := fun e => by subst e; rw [hb1] at hk; cases hk
    rw [Put.chg hh3 k this]; exact hx1 k o hk
  clear hh1 hh3 hx1 h1
  have hl : (s.take 1500).length ≤ 1000000 := by rw [List.length_take]; omega
  generalize s.take 1500 = t at *
  refine ⟨t, cell_of hb3 0, ?_⟩
  refine Tri.mono (parse_r t h3) ?_
  rintro v4 h4 ⟨hx4, hv4⟩
  have hk4 := known_ok h4 (ht.ext (hx3.trans hx4))
  cases hp : parseS t with
  | error e =>
    rw [hp] at hv4
    have hv4 : v4 = _ := hv4
    have he := parseS_err hp
    refine ⟨_, _, _, _, _, _, _, _, hv4, ?_⟩
    refine Tri.mono hk4 ?_
    rintro _ h5 ⟨rfl, hx5⟩
    refine ⟨_, rfl, br_neg rfl (br_pos (by have : (e.1 : Int) ≠ 0 := by omega
                                           simpa using this) ?_)⟩
    refine Tri.mono (known_ok h5 (ht.ext ((hx3.trans hx4).trans hx5))) ?_
    rintro _ h6 ⟨rfl, hx6⟩
    exact ⟨_, rfl, rfl, ((hx3.trans hx4).trans hx5).trans hx6⟩
  | ok p =>
    rw [hp] at hv4
    obtain ⟨ga, gc, fa, fc, rfl, hG, hF⟩ := hv4
    refine ⟨_, _, _, _, _, _, _, _, rfl, ?_⟩
    refine Tri.mono hk4 ?_
    rintro _ h5 ⟨rfl, hx5⟩
    have hx45 := hx4.trans hx5
    have hx35 := hx3.trans hx45
    refine ⟨_, rfl, br_neg rfl (br_neg rfl ⟨t, cell_of (hx45 _ _ hb3) 0, ?_⟩)⟩
    refine Tri.mono (parse_tri t h5 (ht.ext hx35)) ?_
    rintro v6 h6 ⟨hx6, hv6⟩
    rw [hp] at hv6
    obtain ⟨ga', gc', fa', fc', rfl, hG', hF'⟩ := hv6
    refine ⟨_, _, _, _, _, _, _, _, _, rfl, ?_⟩
    have hwf := parseS_wf hp
    have hcnt := parseS_cnt hp
    have hpos := (parseS_pos t).2 p hp
    refine Tri.mono (check_tri hwf hcnt (hG'.whole (RG_mono _) (Ext.refl _)) (hF'.whole (RF_mono _ _ _) (Ext.refl _))) ?_
    rintro _ h7 ⟨rfl, hx7⟩
    refine ⟨_, _, _, rfl, ?_⟩
    have hx47 : Ext h4 h7 := (hx5.trans hx6).trans hx7
    simp only [cntP] at hcnt
    refine Tri.mono (check_r (by omega) (by omega) hwf (hG.whole (RG_mono _) hx47) (hF.whole (RF_mono _ _ _) hx47)) ?_
    rintro v8 h8 ⟨hv8, hx8⟩
    have hx08 : Ext h h8 := (hx3.trans hx4).trans (hx47.trans hx8)
    have hb8 := hx8 _ _ (hx47 _ _ (hx4 _ _ hb3))
    have hrc := ref_check p
    cases hq : refC p with
    | none =>
      rw [hq] at hv8 hrc
      have hv8 : v8 = vT [vI 0, vI 8, vB true] := hv8
      rw [hrc]
      exact ⟨_, _, _, hv8, br_neg rfl (br_neg rfl (br_pos rfl (br_pos rfl ⟨rfl, hx08⟩)))⟩
    | some e =>
      rw [hq] at hv8 hrc
      have hrc : checkS p = e := hrc
      have hn := refC_n hpos.1 hpos.2 hq
      rw [hrc]
      cases e with
      | none =>
        have hv8 : v8 = vT [vI (-1), vI 0, vB false] := hv8
        exact ⟨_, _, _, hv8, br_neg rfl (br_neg rfl (br_neg rfl (br_pos rfl (br_pos rfl ⟨rfl, hx08⟩))))⟩
      | some x =>
        obtain ⟨c, y⟩ := x
        obtain ⟨hc0, q, rfl, hqn⟩ := hn c y rfl
        have hv8 : v8 = vT [vI (q : Nat), vI (c : Nat), vB false] := hv8
        refine ⟨_, _, _, hv8, br_neg rfl (br_neg (by show (((c : Nat) : Int) != ((c : Nat) : Int)) = false; simp) (br_neg rfl ?_))⟩
        refine br_neg (by have : (c : Int) ≠ 0 := by omega
                          simpa using this) ?_
        refine Tri.mono (place_t (cell_of hb8 0) hl hqn) ?_
        rintro _ h9 ⟨rfl, rfl⟩
        exact ⟨_, rfl, rfl, hx08⟩
end Go.Proofs.D
namespace Go.Fr
open Go Go.Den Go.ChangeShapes Go.RowKit

def Kept (w w' : World) : Prop := w'.os = w.os ∧ w'.output = w.output ∧ w.heap.size ≤ w'.heap.size ∧ ∀ k, k < w.heap.size → w'.heap[k]? = w.heap[k]?

theorem calls_of_tri {P : Program} {f : FuncId} {fn : Func} {args : List Value} {Q : Value → Prop} {h : PHeap} (ht : Tri P f args h fun v h' => Q v ∧ ∀ k o, h k = some o → h' k = some o) (hf : P.funcs[f]? = some fn) (hb : fn.body.isSome = true) (hname : (fn.name == "runtime.NumGoroutine") = false) (w : World) (hs : Sub w h) :
    Calls P f args.toArray w fun e w' => ∃ v, e = .returned v ∧ Q v ∧ Kept w w' := by
  have h1 := ht w hs
  unfold CallR at h1
  have hcall : (callFunc f args.toArray).run P w = .ok (.enter f args.toArray) w := by
    unfold callFunc
    have hname' : ¬ fn.name = "runtime.NumGoroutine" := fun e => by rw [e] at hname; simp at hname
    cases hbb : fn.body with
    | none => rw [hbb] at hb; cases hb
    | some c => simp [program, Sem.run, hf, hname', hbb]
  rw [hcall] at h1
  refine Calls.mono h1 fun e w' he => ?_
  cases e with
  | returned v =>
    obtain ⟨h', ⟨hq, hx⟩, hs', hk⟩ := he
    refine ⟨v, rfl, hq, hk.os, hk.output, hk.size, fun k hk' => ?_⟩
    cases hh : h k with
    | none => exact (hk.out k hk' hh).2
    | some o => rw [hs k o hh, hs' k o (hx k o hh)]
  | _ => exact he.elim

def one (w : World) (b : Nat) : PHeap := fun k => if k = b then w.heap[b]? else none
theorem one_sub (w : World) (b : Nat) : Sub w (one w b) := fun k o hk => by
  unfold one at hk; split at hk
  · rename_i e; subst e; exact hk
  · cases hk
theorem one_cell {w : World} {b i : Nat} {v : Value} (h : w.cell? ⟨b, i, none⟩ = some v) : (one w b).cell b i = some v := by
  unfold World.cell? at h
  unfold PHeap.cell one
  rw [if_pos rfl]
  cases hb : w.heap[b]? with
  | none => simp [hb] at h
  | some o =>
    cases o with
    | cells c t z => simpa [hb] using h
    | _ => simp [hb] at h

theorem Kept.but {w w' : World} (h : Kept w w') (may : MemPlace → Prop) : w.keptBut w' may := by
  obtain ⟨h1, h2, h3, h4⟩ := h
  obtain ⟨_, _, r⟩ := World.keptBut_refl w may
  refine ⟨h1, h2, fun i hi => ?_⟩
  have := r i hi
  rw [h4 i hi]
  exact this

theorem Kept.frozen {w w' : World} (h : Kept w w') (b off : Nat) (hb : b < w.heap.size) : w'.frozen? ⟨b, off, none⟩ = w.frozen? ⟨b, off, none⟩ := by
  simp only [World.frozen?, h.2.2.2 b hb]

section
variable {H : Type} {enc : TypeId × Value → H} {P : Program}

theorem post_kept {f : Func} {s : ChangeSpec} {apart fresh handsOn again : Bool} {W W' : World} {args : Array Value} {v : Value} {ds gs : List (DataW H)} {before pa pv : List MemPlace}
    (hW : DataW.Whole enc P f.params.toList s.vars apart W args.toList ds gs before)
    (hres : ∀ (b : Nat) (sp : Nat → Bool) (hd : Bool), DataW.TrodAll enc P W' b sp hd f.resultTypes.toList (v.resultList f.resultTypes.size) (s.fn H (ds ++ gs)).results [])
    (hargs : ∀ sp : Nat → Bool, (∀ p ∈ before, sp p.block = true) → DataW.TrodAll enc P W' 0 sp true f.params.toList args.toList (s.fn H (ds ++ gs)).args pa)
    (hvars : ∀ sp : Nat → Bool, (∀ p ∈ before, sp p.block = true) → DataW.TrodVars enc P W' sp s.vars (s.fn H (ds ++ gs)).vars pv)
    (hps : before = pa ++ pv) (hk : Kept W W')
    (hok : ∀ (j : Nat) (t : TypeId) (r : Value), f.resultTypes[j]? = some t → (v.resultList f.resultTypes.size)[j]? = some r → Value.okWide P W' .any 0 t r) :
    s.post enc P f apart fresh handsOn again W args v W' := by
  have hlt : ∀ p ∈ before, p.block < W.heap.size := fun p hp => hW.lt p hp
  have hold : ∀ p ∈ before, (fun b => decide (b < W.heap.size)) p.block = true := fun p hp => by simpa using hlt p hp
  refine ⟨ds, gs, before, [], pa, pv, hW, hres _ _ _, hargs _ hold, hvars _ hold, World.keptBut_mono (fun p hp => ⟨hp, ?_⟩) (hk.but _), fun _ => ?_⟩
  · rw [hps, List.mem_append] at hp
    exact Or.inr hp
  · obtain ⟨_, _, _, _, _, hz, hn⟩ := hW
    refine ⟨hok, _, _, ([] ++ pa) ++ pv, ⟨[] ++ pa, pv, trodAll_append (hargs _ (fun _ _ => rfl)) (hres _ _ _), hvars _ (fun _ _ => rfl), rfl, ?_, ?_⟩, ?_⟩
    · intro b off hp
      have hp' : MemPlace.cell b off ∈ before := by rw [hps]; simpa using hp
      rw [hk.frozen b off (hlt _ hp')]
      exact hz b off hp'
    · intro ha
      have := hn ha
      rw [hps] at this
      simpa using this
    · intro p hp _
      rw [hps]
      simpa using hp
end
end Go.Fr
