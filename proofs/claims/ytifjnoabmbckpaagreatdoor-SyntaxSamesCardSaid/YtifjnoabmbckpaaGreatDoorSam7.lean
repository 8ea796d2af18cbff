import Derived.Test.YtifjnoabmbckpaaGreatDoorSam6
namespace Go.Proofs.D
open Go Go.Den
set_option maxRecDepth 100000
set_option maxHeartbeats 4000000
abbrev dxk1 : List CK := [.slice, qi, qi, qi, qi]
abbrev dxk2 : List CK := [.str, qi, qi, qi]
abbrev dxk3 : List CK := [.str, .slice, .slice, qi]
abbrev dxk4 : List CK := [qi, .str, qi, .str, qi]
abbrev dxk5 : List CK := [qi, .str, .slice, .slice, .slice, qi]
abbrev dxk6 : List CK := [qi, .str, .str, qi, .str, .slice, qi]
abbrev o15_13 : Op := .call { callee := (.builtin .append), args := #[(.tmp 71), (.tmp 73)], argTypes := #[30, 30] }
abbrev o15_23 : Op := .call { callee := (.builtin .append), args := #[(.tmp 109), (.tmp 111)], argTypes := #[51, 51] }
abbrev o15_26 : Op := .call { callee := (.builtin .append), args := #[(.tmp 123), (.tmp 125)], argTypes := #[31, 31] }
noncomputable def d15 : DCode := up ⟨[(15, .c (.tup [(false, [.slice]), (false, [qi]), (false, [qi])])), (27, .l [qi]), (30, .l dxk1), (31, .c (.one false [.bool])), (34, .l dxk1), (35, .c (.one false [.bool])), (36, .l dxk1), (37, .c (.one true dxk1)), (39, .l dxk1), (40, .c (.tup [(true, dxk1), (false, [.str]), (false, [qi])])), (46, .l dxk1), (47, .c (.one false [.bool])), (48, .l dxk1), (49, .c (.one true dxk1)), (51, .l dxk1), (52, .c (.tup [(true, dxk1), (false, [qi])])), (56, .l dxk1), (57, .c (.one false [.bool])), (58, .l dxk1), (59, .c (.one true dxk1)), (61, .l dxk1), (62, .c (.tup [(true, dxk1), (false, [qi])])), (66, .l dxk1), (67, .c (.one true dxk1)), (68, .l dxk1), (69, .c (.one true dxk1)), (71, .l [.slice]), (72, .l dxk2), (74, .c (.one false [.slice])), (76, .l dxk1), (77, .c (.one true dxk1)), (79, .l dxk1), (80, .c (.tup [(true, dxk1), (false, [.str]), (false, [qi])])), (86, .l dxk1), (87, .c (.one true dxk1)), (89, .l [qi]), (92, .l dxk1), (93, .c (.one false [.bool])), (97, .l [.slice]), (100, .l dxk1), (101, .c (.one true dxk1)), (103, .l dxk1), (104, .c (.tup [(true, dxk1), (false, [.str]), (false, [qi])])), (109, .l [.slice]), (112, .c (.one false [.slice])), (114, .l dxk1), (115, .c (.one true dxk1)), (117, .l dxk1), (118, .c (.tup [(true, dxk1), (false, [.slice])])), (123, .l [.slice]), (124, .l dxk3), (126, .c (.one false [.slice])), (129, .l [qi]), (134, .l [qi]), (137, .l [qi]), (139, .l [qi]), (140, .l [.slice, .slice])], [], [(26, 105, [], [(8, dxk1), (9, [.slice, .slice])]), (88, 27, [], [(8, dxk1), (11, dxk3)])]⟩ (low Tryz.prog (fun _ => false) (Tryz.f15.body.getD .skip))
theorem low15 : low Tryz.prog (fun _ => false) (Tryz.f15.body.getD .skip) = some (eC d15) := by kernel_rfl
def R15 (l1 : Bs) (h : PHeap) (Q : Value → PHeap → Prop) : Prop :=
 Tri Tryz.prog 31 [vS l1] h fun v_1 h_1 =>
 ∃ (a1 : OA) (n1 dxk1 : Nat) (i1 i2 : Int), v_1 = vT [vL a1 n1 dxk1, vI i1, vI i2] ∧
 br (i2 != 0)
 (Q (vT [vA [vL none 0 0, vL none 0 0], vI i1, vI i2]) h_1)
 (∃ (I_1 : Nat → OA → Nat → Nat → Int → Int → Int → Int → OA → Nat → Nat → OA → Nat → Nat → PHeap → Prop), (∃ (m2 : Nat), I_1 m2 a1 n1 dxk1 (0 : Int) (0 : Int) (0 : Int) (0 : Int) none 0 0 none 0 0 h_1) ∧
 ∀ (m1 : Nat) (a2 : OA) (n2 : Nat) (dxk2 : Nat) (i3 : Int) (i4 : Int) (i5 : Int) (i6 : Int) (a3 : OA) (n3 : Nat) (dxk3 : Nat) (a4 : OA) (n4 : Nat) (dxk4 : Nat) (h_2 : PHeap), I_1 m1 a2 n2 dxk2 i3 i4 i5 i6 a3 n3 dxk3 a4 n4 dxk4 h_2 →
 br (i5 == 0)
 (Tri Tryz.prog 48 [vA [vL a2 n2 dxk2, vI i3, vI i4, vI i5, vI i6], vI 0] h_2 fun v_2 h_3 =>
 ∃ (c1 : Bool), v_2 = vB c1 ∧
 br (!c1)
 (Tri Tryz.prog 49 [vA [vL a2 n2 dxk2, vI i3, vI i4, vI i5, vI i6], vS [118, 97, 114]] h_3 fun v_3 h_4 =>
 ∃ (c2 : Bool), v_3 = vB c2 ∧
 br c2
 (Tri Tryz.prog 50 [vA [vL a2 n2 dxk2, vI i3, vI i4, vI i5, vI i6], vS [118, 97, 114]] h_4 fun v_4 h_5 =>
 ∃ (a5 : OA) (n5 dxk5 : Nat) (i7 i8 i9 i10 : Int), v_4 = vA [vL a5 n5 dxk5, vI i7, vI i8, vI i9, vI i10] ∧
 Tri Tryz.prog 51 [vA [vL a5 n5 dxk5, vI i7, vI i8, vI i9, vI i10]] h_5 fun v_5 h_6 =>
 ∃ (a6 : OA) (n6 dxk6 : Nat) (i11 i12 i13 i14 : Int) (l2 : Bs) (i15 : Int), v_5 = vT [vA [vL a6 n6 dxk6, vI i11, vI i12, vI i13, vI i14], vS l2, vI i15] ∧
 Tri Tryz.prog 49 [vA [vL a6 n6 dxk6, vI i11, vI i12, vI i13, vI i14], vS [61]] h_6 fun v_6 h_7 =>
 ∃ (c3 : Bool), v_6 = vB c3 ∧
 br c3
 (Tri Tryz.prog 50 [vA [vL a6 n6 dxk6, vI i11, vI i12, vI i13, vI i14], vS [61]] h_7 fun v_7 h_8 =>
 ∃ (a7 : OA) (n7 k7 : Nat) (i16 i17 i18 i19 : Int), v_7 = vA [vL a7 n7 k7, vI i16, vI i17, vI i18, vI i19] ∧
 Tri Tryz.prog 52 [vA [vL a7 n7 k7, vI i16, vI i17, vI i18, vI i19]] h_8 fun v_8 h_9 =>
 ∃ (a8 : OA) (n8 k8 : Nat) (i20 i21 i22 i23 i24 : Int), v_8 = vT [vA [vL a8 n8 k8, vI i20, vI i21, vI i22, vI i23], vI i24] ∧
 Tri Tryz.prog 50 [vA [vL a8 n8 k8, vI i20, vI i21, vI i22, vI i23], vS [59]] h_9 fun v_9 h_10 =>
 ∃ (a9 : OA) (n9 k9 : Nat) (i25 i26 i27 i28 : Int), v_9 = vA [vL a9 n9 k9, vI i25, vI i26, vI i27, vI i28] ∧
 ∀ (b1 : Nat), h_10 b1 = none → ∀ (h_11 : PHeap), h_11 = h_10.put b1 (.cells ⟨[vS l2, vI 0, vI i24, vI i15]⟩ 95) →
 Raw Tryz.prog (execOp (rho [(71, vL a3 n3 dxk3), (73, vL (ad b1 0) 1 1)]) (mkO o15_13 30)) h_11 fun v_10 h_12 =>
 ∃ (a10 : OA) (n10 k10 : Nat), v_10 = vL a10 n10 k10 ∧
 ∃ (m3 : Nat), m3 < m1 ∧ I_1 m3 a9 n9 k9 i25 i26 i27 i28 a10 n10 k10 a4 n4 dxk4 h_12 ∧
 tv [vL none 0 0, vL none 0 0] ∧ True)
 (Tri Tryz.prog 49 [vA [vL a6 n6 dxk6, vI i11, vI i12, vI i13, vI i14], vS [91]] h_7 fun v_11 h_13 =>
 ∃ (c4 : Bool), v_11 = vB c4 ∧
 br c4
 (Tri Tryz.prog 50 [vA [vL a6 n6 dxk6, vI i11, vI i12, vI i13, vI i14], vS [91]] h_13 fun v_12 h_14 =>
 ∃ (a11 : OA) (n11 k11 : Nat) (i29 i30 i31 i32 : Int), v_12 = vA [vL a11 n11 k11, vI i29, vI i30, vI i31, vI i32] ∧
 Tri Tryz.prog 52 [vA [vL a11 n11 k11, vI i29, vI i30, vI i31, vI i32]] h_14 fun v_13 h_15 =>
 ∃ (a12 : OA) (n12 k12 : Nat) (i33 i34 i35 i36 i37 : Int), v_13 = vT [vA [vL a12 n12 k12, vI i33, vI i34, vI i35, vI i36], vI i37] ∧
 Tri Tryz.prog 50 [vA [vL a12 n12 k12, vI i33, vI i34, vI i35, vI i36], vS [93]] h_15 fun v_14 h_16 =>
 ∃ (a13 : OA) (n13 k13 : Nat) (i38 i39 i40 i41 : Int), v_14 = vA [vL a13 n13 k13, vI i38, vI i39, vI i40, vI i41] ∧
 Tri Tryz.prog 50 [vA [vL a13 n13 k13, vI i38, vI i39, vI i40, vI i41], vS [59]] h_16 fun v_15 h_17 =>
 ∃ (a14 : OA) (n14 k14 : Nat) (i42 i43 i44 i45 : Int), v_15 = vA [vL a14 n14 k14, vI i42, vI i43, vI i44, vI i45] ∧
 ∀ (b2 : Nat), h_17 b2 = none → ∀ (h_18 : PHeap), h_18 = h_17.put b2 (.cells ⟨[vS l2, vI i37, vI 0, vI i15]⟩ 95) →
 Raw Tryz.prog (execOp (rho [(71, vL a3 n3 dxk3), (73, vL (ad b2 0) 1 1)]) (mkO o15_13 30)) h_18 fun v_16 h_19 =>
 ∃ (a15 : OA) (n15 k15 : Nat), v_16 = vL a15 n15 k15 ∧
 ∃ (m4 : Nat), m4 < m1 ∧ I_1 m4 a14 n14 k14 i42 i43 i44 i45 a15 n15 k15 a4 n4 dxk4 h_19 ∧
 tv [vL none 0 0, vL none 0 0] ∧ True)
 (Tri Tryz.prog 50 [vA [vL a6 n6 dxk6, vI i11, vI i12, vI i13, vI i14], vS [59]] h_13 fun v_17 h_20 =>
 ∃ (a16 : OA) (n16 k16 : Nat) (i46 i47 i48 i49 : Int), v_17 = vA [vL a16 n16 k16, vI i46, vI i47, vI i48, vI i49] ∧
 ∀ (b3 : Nat), h_20 b3 = none → ∀ (h_21 : PHeap), h_21 = h_20.put b3 (.cells ⟨[vS l2, vI 0, vI 0, vI i15]⟩ 95) →
 Raw Tryz.prog (execOp (rho [(71, vL a3 n3 dxk3), (73, vL (ad b3 0) 1 1)]) (mkO o15_13 30)) h_21 fun v_18 h_22 =>
 ∃ (a17 : OA) (n17 k17 : Nat), v_18 = vL a17 n17 k17 ∧
 ∃ (m5 : Nat), m5 < m1 ∧ I_1 m5 a16 n16 k16 i46 i47 i48 i49 a17 n17 k17 a4 n4 dxk4 h_22 ∧
 tv [vL none 0 0, vL none 0 0] ∧ True)))
 (Tri Tryz.prog 50 [vA [vL a2 n2 dxk2, vI i3, vI i4, vI i5, vI i6], vS [102, 117, 110, 99]] h_4 fun v_19 h_23 =>
 ∃ (a18 : OA) (n18 k18 : Nat) (i50 i51 i52 i53 : Int), v_19 = vA [vL a18 n18 k18, vI i50, vI i51, vI i52, vI i53] ∧
 Tri Tryz.prog 51 [vA [vL a18 n18 k18, vI i50, vI i51, vI i52, vI i53]] h_23 fun v_20 h_24 =>
 ∃ (a19 : OA) (n19 k19 : Nat) (i54 i55 i56 i57 : Int) (l3 : Bs) (i58 : Int), v_20 = vT [vA [vL a19 n19 k19, vI i54, vI i55, vI i56, vI i57], vS l3, vI i58] ∧
 Tri Tryz.prog 50 [vA [vL a19 n19 k19, vI i54, vI i55, vI i56, vI i57], vS [40]] h_24 fun v_21 h_25 =>
 ∃ (a20 : OA) (n20 k20 : Nat) (i59 i60 i61 i62 : Int), v_21 = vA [vL a20 n20 k20, vI i59, vI i60, vI i61, vI i62] ∧
 ∃ (I_2 : Nat → OA → Nat → Nat → Int → Int → Int → Int → Bs → OA → Nat → Nat → OA → Nat → Nat → Int → PHeap → Prop), (∃ (m7 : Nat), I_2 m7 a20 n20 k20 i59 i60 i61 i62 l3 none 0 0 none 0 0 i58 h_25) ∧
 ∀ (m6 : Nat) (a21 : OA) (n21 : Nat) (k21 : Nat) (i63 : Int) (i64 : Int) (i65 : Int) (i66 : Int) (l4 : Bs) (a22 : OA) (n22 : Nat) (k22 : Nat) (a23 : OA) (n23 : Nat) (k23 : Nat) (i67 : Int) (h_26 : PHeap), I_2 m6 a21 n21 k21 i63 i64 i65 i66 l4 a22 n22 k22 a23 n23 k23 i67 h_26 →
 br (i65 == 0)
 (Tri Tryz.prog 49 [vA [vL a21 n21 k21, vI i63, vI i64, vI i65, vI i66], vS [41]] h_26 fun v_22 h_27 =>
 ∃ (c5 : Bool), v_22 = vB c5 ∧
 br (!c5)
 (br (decide (((n22 : Nat) : Int) > 0))
 (Tri Tryz.prog 50 [vA [vL a21 n21 k21, vI i63, vI i64, vI i65, vI i66], vS [44]] h_27 fun v_23 h_28 =>
 ∃ (a24 : OA) (n24 k24 : Nat) (i68 i69 i70 i71 : Int), v_23 = vA [vL a24 n24 k24, vI i68, vI i69, vI i70, vI i71] ∧
 Tri Tryz.prog 51 [vA [vL a24 n24 k24, vI i68, vI i69, vI i70, vI i71]] h_28 fun v_24 h_29 =>
 ∃ (a25 : OA) (n25 k25 : Nat) (i72 i73 i74 i75 : Int) (l5 : Bs) (i76 : Int), v_24 = vT [vA [vL a25 n25 k25, vI i72, vI i73, vI i74, vI i75], vS l5, vI i76] ∧
 ∀ (b4 : Nat), h_29 b4 = none → ∀ (h_30 : PHeap), h_30 = h_29.put b4 (.cells ⟨[vS l5]⟩ 9) →
 Raw Tryz.prog (execOp (rho [(109, vL a22 n22 k22), (111, vL (ad b4 0) 1 1)]) (mkO o15_23 51)) h_30 fun v_25 h_31 =>
 ∃ (a26 : OA) (n26 k26 : Nat), v_25 = vL a26 n26 k26 ∧
 ∃ (m8 : Nat), m8 < m6 ∧ I_2 m8 a25 n25 k25 i72 i73 i74 i75 l4 a26 n26 k26 a23 n23 k23 i67 h_31 ∧
 tv [vL a3 n3 dxk3, vL a4 n4 dxk4] ∧ tv [vL none 0 0, vL none 0 0] ∧ True)
 (Tri Tryz.prog 51 [vA [vL a21 n21 k21, vI i63, vI i64, vI i65, vI i66]] h_27 fun v_26 h_32 =>
 ∃ (a27 : OA) (n27 k27 : Nat) (i77 i78 i79 i80 : Int) (l6 : Bs) (i81 : Int), v_26 = vT [vA [vL a27 n27 k27, vI i77, vI i78, vI i79, vI i80], vS l6, vI i81] ∧
 ∀ (b5 : Nat), h_32 b5 = none → ∀ (h_33 : PHeap), h_33 = h_32.put b5 (.cells ⟨[vS l6]⟩ 9) →
 Raw Tryz.prog (execOp (rho [(109, vL a22 n22 k22), (111, vL (ad b5 0) 1 1)]) (mkO o15_23 51)) h_33 fun v_27 h_34 =>
 ∃ (a28 : OA) (n28 k28 : Nat), v_27 = vL a28 n28 k28 ∧
 ∃ (m9 : Nat), m9 < m6 ∧ I_2 m9 a27 n27 k27 i77 i78 i79 i80 l4 a28 n28 k28 a23 n23 k23 i67 h_34 ∧
 tv [vL a3 n3 dxk3, vL a4 n4 dxk4] ∧ tv [vL none 0 0, vL none 0 0] ∧ True))
 (Tri Tryz.prog 50 [vA [vL a21 n21 k21, vI i63, vI i64, vI i65, vI i66], vS [41]] h_27 fun v_28 h_35 =>
 ∃ (a29 : OA) (n29 k29 : Nat) (i82 i83 i84 i85 : Int), v_28 = vA [vL a29 n29 k29, vI i82, vI i83, vI i84, vI i85] ∧
 Tri Tryz.prog 53 [vA [vL a29 n29 k29, vI i82, vI i83, vI i84, vI i85]] h_35 fun v_29 h_36 =>
 ∃ (a30 : OA) (n30 k30 : Nat) (i86 i87 i88 i89 : Int) (a31 : OA) (n31 k31 : Nat), v_29 = vT [vA [vL a30 n30 k30, vI i86, vI i87, vI i88, vI i89], vL a31 n31 k31] ∧
 ∀ (b6 : Nat), h_36 b6 = none → ∀ (h_37 : PHeap), h_37 = h_36.put b6 (.cells ⟨[vS l4, vL a22 n22 k22, vL a31 n31 k31, vI i67]⟩ 103) →
 Raw Tryz.prog (execOp (rho [(123, vL a4 n4 dxk4), (125, vL (ad b6 0) 1 1)]) (mkO o15_26 31)) h_37 fun v_30 h_38 =>
 ∃ (a32 : OA) (n32 k32 : Nat), v_30 = vL a32 n32 k32 ∧
 ∃ (m10 : Nat), m10 < m1 ∧ I_1 m10 a30 n30 k30 i86 i87 i88 i89 a3 n3 dxk3 a32 n32 k32 h_38 ∧
 tv [vL none 0 0, vL none 0 0] ∧ True))
 (Tri Tryz.prog 50 [vA [vL a21 n21 k21, vI i63, vI i64, vI i65, vI i66], vS [41]] h_26 fun v_31 h_39 =>
 ∃ (a33 : OA) (n33 k33 : Nat) (i90 i91 i92 i93 : Int), v_31 = vA [vL a33 n33 k33, vI i90, vI i91, vI i92, vI i93] ∧
 Tri Tryz.prog 53 [vA [vL a33 n33 k33, vI i90, vI i91, vI i92, vI i93]] h_39 fun v_32 h_40 =>
 ∃ (a34 : OA) (n34 k34 : Nat) (i94 i95 i96 i97 : Int) (a35 : OA) (n35 k35 : Nat), v_32 = vT [vA [vL a34 n34 k34, vI i94, vI i95, vI i96, vI i97], vL a35 n35 k35] ∧
 ∀ (b7 : Nat), h_40 b7 = none → ∀ (h_41 : PHeap), h_41 = h_40.put b7 (.cells ⟨[vS l4, vL a22 n22 k22, vL a35 n35 k35, vI i67]⟩ 103) →
 Raw Tryz.prog (execOp (rho [(123, vL a4 n4 dxk4), (125, vL (ad b7 0) 1 1)]) (mkO o15_26 31)) h_41 fun v_33 h_42 =>
 ∃ (a36 : OA) (n36 k36 : Nat), v_33 = vL a36 n36 k36 ∧
 ∃ (m11 : Nat), m11 < m1 ∧ I_1 m11 a34 n34 k34 i94 i95 i96 i97 a3 n3 dxk3 a36 n36 k36 h_42 ∧
 tv [vL none 0 0, vL none 0 0] ∧ True)))
 (br (i5 != 0)
 (∃ (b8 o1 : Nat), a1 = some ⟨b8, o1, none⟩ ∧ (0 ≤ i6 ∧ i6 < n1) ∧
 ∃ (i98 : Int), h_3.cell b8 ((o1 + (i6).toNat * 5) + 4) = some (vI i98) ∧
 (tv [vI i5]) ∧
 (h_3.cell b8 ((o1 + (i6).toNat * 5) + 4) = some (vI i98)) ∧
 (tv [vI i6]) ∧
 Q (vT [vA [vL none 0 0, vL none 0 0], vI i98, vI i5]) h_3)
 (Q (vT [vA [vL a3 n3 dxk3, vL a4 n4 dxk4], vI 0, vI 0]) h_3)))
 (br (i5 != 0)
 (∃ (b9 o2 : Nat), a1 = some ⟨b9, o2, none⟩ ∧ (0 ≤ i6 ∧ i6 < n1) ∧
 ∃ (i99 : Int), h_2.cell b9 ((o2 + (i6).toNat * 5) + 4) = some (vI i99) ∧
 (tv [vI i5]) ∧
 (h_2.cell b9 ((o2 + (i6).toNat * 5) + 4) = some (vI i99)) ∧
 (tv [vI i6]) ∧
 Q (vT [vA [vL none 0 0, vL none 0 0], vI i99, vI i5]) h_2)
 (Q (vT [vA [vL a3 n3 dxk3, vL a4 n4 dxk4], vI 0, vI 0]) h_2)))
theorem T15 {l1 : Bs} {h : PHeap} {Q : Value → PHeap → Prop} (hR : R15 l1 h Q) : Tri Tryz.prog 15 [vS l1] h Q :=
 tri_of_dn mixed Tryz.func15 rfl (by kernel_rfl) low15 (rs := [.cell 2 true 2, .tmp 3, .tmp 4]) (by kernel_rfl) rfl (Eq.mpr (by kernel_rfl : dnF Tryz.prog Tryz.f15.ntmps d15 [.cell 2 true 2, .tmp 3, .tmp 4] [vS l1] h Q = R15 l1 h Q) hR)
noncomputable def d27 : DCode := up ⟨[(27, .l [.slice]), (35, .l [.slice]), (38, .l [.str])], [], [(17, 29, [(4, qi)], []), (23, 22, [(5, qi)], [])]⟩ (low Tryz.prog (fun _ => false) (Tryz.f27.body.getD .skip))
theorem low27 : low Tryz.prog (fun _ => false) (Tryz.f27.body.getD .skip) = some (eC d27) := by kernel_rfl
def R27 (l1 : Bs) (h : PHeap) (Q : Value → PHeap → Prop) : Prop :=
 ∀ (b1 : Nat), h b1 = none → ∀ (h_1 : PHeap), h_1 = h.put b1 (.cells ⟨[vS [124, 124]]⟩ 9) →
 ∀ (b2 : Nat), h_1 b2 = none → ∀ (h_2 : PHeap), h_2 = h_1.put b2 (.cells ⟨[vS [38, 38]]⟩ 9) →
 ∀ (b3 : Nat), h_2 b3 = none → ∀ (h_3 : PHeap), h_3 = h_2.put b3 (.cells ⟨[vS [124]]⟩ 9) →
 ∀ (b4 : Nat), h_3 b4 = none → ∀ (h_4 : PHeap), h_4 = h_3.put b4 (.cells ⟨[vS [94]]⟩ 9) →
 ∀ (b5 : Nat), h_4 b5 = none → ∀ (h_5 : PHeap), h_5 = h_4.put b5 (.cells ⟨[vS [38]]⟩ 9) →
 ∀ (b6 : Nat), h_5 b6 = none → ∀ (h_6 : PHeap), h_6 = h_5.put b6 (.cells ⟨[vS [61, 61], vS [33, 61]]⟩ 9) →
 ∀ (b7 : Nat), h_6 b7 = none → ∀ (h_7 : PHeap), h_7 = h_6.put b7 (.cells ⟨[vS [60], vS [60, 61], vS [62], vS [62, 61]]⟩ 9) →
 ∀ (b8 : Nat), h_7 b8 = none → ∀ (h_8 : PHeap), h_8 = h_7.put b8 (.cells ⟨[vS [60, 60], vS [62, 62]]⟩ 9) →
 ∀ (b9 : Nat), h_8 b9 = none → ∀ (h_9 : PHeap), h_9 = h_8.put b9 (.cells ⟨[vS [43], vS [45]]⟩ 9) →
 ∀ (b10 : Nat), h_9 b10 = none → ∀ (h_10 : PHeap), h_10 = h_9.put b10 (.cells ⟨[vS [42], vS [47], vS [37]]⟩ 9) →
 ∀ (b11 : Nat), h_10 b11 = none → ∀ (h_11 : PHeap), h_11 = h_10.put b11 (.cells ⟨[vL (ad b1 0) 1 1, vL (ad b2 0) 1 1, vL (ad b3 0) 1 1, vL (ad b4 0) 1 1, vL (ad b5 0) 1 1, vL (ad b6 0) 2 2, vL (ad b7 0) 4 4, vL (ad b8 0) 2 2, vL (ad b9 0) 2 2, vL (ad b10 0) 3 3]⟩ 51) →
 ∃ (I_1 : Nat → Int → PHeap → Prop), (∃ (m2 : Nat), I_1 m2 (0 : Int) h_11) ∧
 ∀ (m1 : Nat) (i1 : Int) (h_12 : PHeap), I_1 m1 i1 h_12 →
 br (decide (i1 < 10))
 (∃ (I_2 : Nat → Int → PHeap → Prop), (∃ (m4 : Nat), I_2 m4 (0 : Int) h_12) ∧
 ∀ (m3 : Nat) (i2 : Int) (h_13 : PHeap), I_2 m3 i2 h_13 →
 ∃ (b12 o1 : Nat), (ad b11 0) = some ⟨b12, o1, none⟩ ∧ (0 ≤ i1 ∧ i1 < (10 : Nat)) ∧
 ∃ (a1 : OA) (n1 dxk1 : Nat), h_13.cell b12 (o1 + (i1).toNat * 1) = some (vL a1 n1 dxk1) ∧
 br (decide (i2 < ((n1 : Nat) : Int)))
 (∃ (b13 o2 : Nat), (ad b11 0) = some ⟨b13, o2, none⟩ ∧ (0 ≤ i1 ∧ i1 < (10 : Nat)) ∧
 ∃ (a2 : OA) (n2 dxk2 : Nat), h_13.cell b13 (o2 + (i1).toNat * 1) = some (vL a2 n2 dxk2) ∧
 ∃ (b14 o3 : Nat), a2 = some ⟨b14, o3, none⟩ ∧ (0 ≤ i2 ∧ i2 < n2) ∧
 ∃ (l2 : Bs), h_13.cell b14 (o3 + (i2).toNat * 1) = some (vS l2) ∧
 br (l2 == l1)
 (Q (vI (IntKind.i64.wrap (i1 + 1))) h_13)
 (∃ (m5 : Nat), m5 < m3 ∧ I_2 m5 (IntKind.i64.wrap (i2 + 1)) h_13 ∧
 True))
 (∃ (m6 : Nat), m6 < m1 ∧ I_1 m6 (IntKind.i64.wrap (i1 + 1)) h_13 ∧
 True))
 (Q (vI 0) h_12)
theorem T27 {l1 : Bs} {h : PHeap} {Q : Value → PHeap → Prop} (hR : R27 l1 h Q) : Tri Tryz.prog 27 [vS l1] h Q :=
 tri_of_dn mixed Tryz.func27 rfl (by kernel_rfl) low27 (rs := [.tmp 2]) (by kernel_rfl) rfl (Eq.mpr (by kernel_rfl : dnF Tryz.prog Tryz.f27.ntmps d27 [.tmp 2] [vS l1] h Q = R27 l1 h Q) hR)
noncomputable def d48 : DCode := up ⟨[(6, .l [qi]), (10, .l [.slice]), (12, .l [qi]), (15, .l [qi])], [], []⟩ (low Tryz.prog (fun _ => false) (Tryz.f48.body.getD .skip))
theorem low48 : low Tryz.prog (fun _ => false) (Tryz.f48.body.getD .skip) = some (eC d48) := by kernel_rfl
def R48 (a1 : OA) (n1 : Nat) (dxk1 : Nat) (i1 : Int) (i2 : Int) (i3 : Int) (i4 : Int) (i5 : Int) (h : PHeap) (Q : Value → PHeap → Prop) : Prop :=
 br (i3 == 0)
 (∃ (b1 o1 : Nat), a1 = some ⟨b1, o1, none⟩ ∧ (0 ≤ i1 ∧ i1 < n1) ∧
 ∃ (i6 : Int), h.cell b1 (o1 + (i1).toNat * 5) = some (vI i6) ∧
 Q (vB (i6 == i5)) h)
 (Q (vB false) h)
theorem T48 {a1 : OA} {n1 : Nat} {dxk1 : Nat} {i1 : Int} {i2 : Int} {i3 : Int} {i4 : Int} {i5 : Int} {h : PHeap} {Q : Value → PHeap → Prop} (hR : R48 a1 n1 dxk1 i1 i2 i3 i4 i5 h Q) : Tri Tryz.prog 48 [vA [vL a1 n1 dxk1, vI i1, vI i2, vI i3, vI i4], vI i5] h Q :=
 tri_of_dn mixed Tryz.func48 rfl (by kernel_rfl) low48 (rs := [.tmp 4]) (by kernel_rfl) rfl (Eq.mpr (by kernel_rfl : dnF Tryz.prog Tryz.f48.ntmps d48 [.tmp 4] [vA [vL a1 n1 dxk1, vI i1, vI i2, vI i3, vI i4], vI i5] h Q = R48 a1 n1 dxk1 i1 i2 i3 i4 i5 h Q) hR)
noncomputable def d49 : DCode := up ⟨[(7, .l [.slice]), (9, .l [qi]), (11, .l dxk4), (13, .l [qi]), (17, .l [qi]), (21, .l [qi]), (27, .l [.str])], [], []⟩ (low Tryz.prog (fun _ => false) (Tryz.f49.body.getD .skip))
theorem low49 : low Tryz.prog (fun _ => false) (Tryz.f49.body.getD .skip) = some (eC d49) := by kernel_rfl
def R49 (a1 : OA) (n1 : Nat) (dxk1 : Nat) (i1 : Int) (i2 : Int) (i3 : Int) (i4 : Int) (l1 : Bs) (h : PHeap) (Q : Value → PHeap → Prop) : Prop :=
 ∃ (b1 o1 : Nat), a1 = some ⟨b1, o1, none⟩ ∧ (0 ≤ i1 ∧ i1 < n1) ∧
 ∃ (i5 : Int) (l2 : Bs) (i6 : Int) (l3 : Bs) (i7 : Int), h.row b1 (o1 + (i1).toNat * 5) [vI i5, vS l2, vI i6, vS l3, vI i7] ∧
 br (i3 == 0)
 (br (i5 == 5)
 (Q (vB (l2 == l1)) h)
 (br (i5 == 4)
 (Q (vB (l2 == l1)) h)
 (Q (vB false) h)))
 (Q (vB false) h)
theorem T49 {a1 : OA} {n1 : Nat} {dxk1 : Nat} {i1 : Int} {i2 : Int} {i3 : Int} {i4 : Int} {l1 : Bs} {h : PHeap} {Q : Value → PHeap → Prop} (hR : R49 a1 n1 dxk1 i1 i2 i3 i4 l1 h Q) : Tri Tryz.prog 49 [vA [vL a1 n1 dxk1, vI i1, vI i2, vI i3, vI i4], vS l1] h Q :=
 tri_of_dn mixed Tryz.func49 rfl (by kernel_rfl) low49 (rs := [.tmp 4]) (by kernel_rfl) rfl (Eq.mpr (by kernel_rfl : dnF Tryz.prog Tryz.f49.ntmps d49 [.tmp 4] [vA [vL a1 n1 dxk1, vI i1, vI i2, vI i3, vI i4], vS l1] h Q = R49 a1 n1 dxk1 i1 i2 i3 i4 l1 h Q) hR)
noncomputable def d50 : DCode := up ⟨[(5, .l dxk1), (7, .c (.one false [.bool])), (9, .l dxk1), (10, .c (.one true dxk1)), (17, .l [qi]), (19, .l dxk1), (20, .c (.one true dxk1)), (22, .l [qi]), (30, .l [qi]), (34, .l [qi]), (37, .l dxk1)], [], []⟩ (low Tryz.prog (fun _ => false) (Tryz.f50.body.getD .skip))
theorem low50 : low Tryz.prog (fun _ => false) (Tryz.f50.body.getD .skip) = some (eC d50) := by kernel_rfl
def R50 (a1 : OA) (n1 : Nat) (dxk1 : Nat) (i1 : Int) (i2 : Int) (i3 : Int) (i4 : Int) (l1 : Bs) (h : PHeap) (Q : Value → PHeap → Prop) : Prop :=
 Tri Tryz.prog 49 [vA [vL a1 n1 dxk1, vI i1, vI i2, vI i3, vI i4], vS l1] h fun v_1 h_1 =>
 ∃ (c1 : Bool), v_1 = vB c1 ∧
 br (!c1)
 (Tri Tryz.prog 95 [vA [vL a1 n1 dxk1, vI i1, vI i2, vI i3, vI i4], vI 30] h_1 fun v_2 h_2 =>
 ∃ (a2 : OA) (n2 dxk2 : Nat) (i5 i6 i7 i8 : Int), v_2 = vA [vL a2 n2 dxk2, vI i5, vI i6, vI i7, vI i8] ∧
 Q (vA [vL a2 n2 dxk2, vI i5, vI i6, vI i7, vI i8]) h_2)
 (br (l1 == [40])
 (br (i2 == 32)
 (Tri Tryz.prog 95 [vA [vL a1 n1 dxk1, vI i1, vI i2, vI i3, vI i4], vI 9] h_1 fun v_3 h_3 =>
 ∃ (a3 : OA) (n3 dxk3 : Nat) (i9 i10 i11 i12 : Int), v_3 = vA [vL a3 n3 dxk3, vI i9, vI i10, vI i11, vI i12] ∧
 Q (vA [vL a3 n3 dxk3, vI i9, vI i10, vI i11, vI i12]) h_3)
 (Q (vA [vL a1 n1 dxk1, vI (IntKind.i64.wrap (i1 + 1)), vI (IntKind.i64.wrap (i2 + 1)), vI i3, vI i4]) h_1))
 (br (l1 == [91])
 (br (i2 == 32)
 (Tri Tryz.prog 95 [vA [vL a1 n1 dxk1, vI i1, vI i2, vI i3, vI i4], vI 9] h_1 fun v_4 h_4 =>
 ∃ (a4 : OA) (n4 dxk4 : Nat) (i13 i14 i15 i16 : Int), v_4 = vA [vL a4 n4 dxk4, vI i13, vI i14, vI i15, vI i16] ∧
 Q (vA [vL a4 n4 dxk4, vI i13, vI i14, vI i15, vI i16]) h_4)
 (Q (vA [vL a1 n1 dxk1, vI (IntKind.i64.wrap (i1 + 1)), vI (IntKind.i64.wrap (i2 + 1)), vI i3, vI i4]) h_1))
 (br (l1 == [123])
 (br (i2 == 32)
 (Tri Tryz.prog 95 [vA [vL a1 n1 dxk1, vI i1, vI i2, vI i3, vI i4], vI 9] h_1 fun v_5 h_5 =>
 ∃ (a5 : OA) (n5 dxk5 : Nat) (i17 i18 i19 i20 : Int), v_5 = vA [vL a5 n5 dxk5, vI i17, vI i18, vI i19, vI i20] ∧
 Q (vA [vL a5 n5 dxk5, vI i17, vI i18, vI i19, vI i20]) h_5)
 (Q (vA [vL a1 n1 dxk1, vI (IntKind.i64.wrap (i1 + 1)), vI (IntKind.i64.wrap (i2 + 1)), vI i3, vI i4]) h_1))
 (br (l1 == [41])
 (Q (vA [vL a1 n1 dxk1, vI (IntKind.i64.wrap (i1 + 1)), vI (IntKind.i64.wrap (i2 - 1)), vI i3, vI i4]) h_1)
 (br (l1 == [93])
 (Q (vA [vL a1 n1 dxk1, vI (IntKind.i64.wrap (i1 + 1)), vI (IntKind.i64.wrap (i2 - 1)), vI i3, vI i4]) h_1)
 (br (l1 == [125])
 (Q (vA [vL a1 n1 dxk1, vI (IntKind.i64.wrap (i1 + 1)), vI (IntKind.i64.wrap (i2 - 1)), vI i3, vI i4]) h_1)
 (Q (vA [vL a1 n1 dxk1, vI (IntKind.i64.wrap (i1 + 1)), vI i2, vI i3, vI i4]) h_1)))))))
theorem T50 {a1 : OA} {n1 : Nat} {dxk1 : Nat} {i1 : Int} {i2 : Int} {i3 : Int} {i4 : Int} {l1 : Bs} {h : PHeap} {Q : Value → PHeap → Prop} (hR : R50 a1 n1 dxk1 i1 i2 i3 i4 l1 h Q) : Tri Tryz.prog 50 [vA [vL a1 n1 dxk1, vI i1, vI i2, vI i3, vI i4], vS l1] h Q :=
 tri_of_dn mixed Tryz.func50 rfl (by kernel_rfl) low50 (rs := [.cell 4 true 5]) (by kernel_rfl) rfl (Eq.mpr (by kernel_rfl : dnF Tryz.prog Tryz.f50.ntmps d50 [.cell 4 true 5] [vA [vL a1 n1 dxk1, vI i1, vI i2, vI i3, vI i4], vS l1] h Q = R50 a1 n1 dxk1 i1 i2 i3 i4 l1 h Q) hR)
noncomputable def d51 : DCode := up ⟨[(6, .l dxk1), (7, .c (.one false [.bool])), (9, .l dxk1), (10, .c (.one true dxk1)), (12, .l [.slice]), (14, .l [qi]), (16, .l dxk4), (18, .l [qi]), (21, .l dxk1), (23, .l [.str]), (25, .l [qi])], [], []⟩ (low Tryz.prog (fun _ => false) (Tryz.f51.body.getD .skip))
theorem low51 : low Tryz.prog (fun _ => false) (Tryz.f51.body.getD .skip) = some (eC d51) := by kernel_rfl
def R51 (a1 : OA) (n1 : Nat) (dxk1 : Nat) (i1 : Int) (i2 : Int) (i3 : Int) (i4 : Int) (h : PHeap) (Q : Value → PHeap → Prop) : Prop :=
 Tri Tryz.prog 48 [vA [vL a1 n1 dxk1, vI i1, vI i2, vI i3, vI i4], vI 1] h fun v_1 h_1 =>
 ∃ (c1 : Bool), v_1 = vB c1 ∧
 br (!c1)
 (Tri Tryz.prog 95 [vA [vL a1 n1 dxk1, vI i1, vI i2, vI i3, vI i4], vI 30] h_1 fun v_2 h_2 =>
 ∃ (a2 : OA) (n2 dxk2 : Nat) (i5 i6 i7 i8 : Int), v_2 = vA [vL a2 n2 dxk2, vI i5, vI i6, vI i7, vI i8] ∧
 Q (vT [vA [vL a2 n2 dxk2, vI i5, vI i6, vI i7, vI i8], vS [], vI 0]) h_2)
 (∃ (b1 o1 : Nat), a1 = some ⟨b1, o1, none⟩ ∧ (0 ≤ i1 ∧ i1 < n1) ∧
 ∃ (i9 : Int) (l1 : Bs) (i10 : Int) (l2 : Bs) (i11 : Int), h_1.row b1 (o1 + (i1).toNat * 5) [vI i9, vS l1, vI i10, vS l2, vI i11] ∧
 (tv [vI i11]) ∧
 (tv [vS l1]) ∧
 Q (vT [vA [vL a1 n1 dxk1, vI (IntKind.i64.wrap (i1 + 1)), vI i2, vI i3, vI i4], vS l1, vI i11]) h_1)
theorem T51 {a1 : OA} {n1 : Nat} {dxk1 : Nat} {i1 : Int} {i2 : Int} {i3 : Int} {i4 : Int} {h : PHeap} {Q : Value → PHeap → Prop} (hR : R51 a1 n1 dxk1 i1 i2 i3 i4 h Q) : Tri Tryz.prog 51 [vA [vL a1 n1 dxk1, vI i1, vI i2, vI i3, vI i4]] h Q :=
 tri_of_dn mixed Tryz.func51 rfl (by kernel_rfl) low51 (rs := [.cell 2 true 5, .tmp 3, .tmp 4]) (by kernel_rfl) rfl (Eq.mpr (by kernel_rfl : dnF Tryz.prog Tryz.f51.ntmps d51 [.cell 2 true 5, .tmp 3, .tmp 4] [vA [vL a1 n1 dxk1, vI i1, vI i2, vI i3, vI i4]] h Q = R51 a1 n1 dxk1 i1 i2 i3 i4 h Q) hR)
noncomputable def d52 : DCode := up ⟨[(5, .l dxk1), (6, .c (.one false [.bool])), (8, .l dxk1), (9, .c (.one true dxk1)), (11, .l [.slice]), (13, .l [qi]), (16, .l [qi]), (18, .l [qi]), (21, .l dxk1)], [], []⟩ (low Tryz.prog (fun _ => false) (Tryz.f52.body.getD .skip))
theorem low52 : low Tryz.prog (fun _ => false) (Tryz.f52.body.getD .skip) = some (eC d52) := by kernel_rfl
def R52 (a1 : OA) (n1 : Nat) (dxk1 : Nat) (i1 : Int) (i2 : Int) (i3 : Int) (i4 : Int) (h : PHeap) (Q : Value → PHeap → Prop) : Prop :=
 Tri Tryz.prog 48 [vA [vL a1 n1 dxk1, vI i1, vI i2, vI i3, vI i4], vI 2] h fun v_1 h_1 =>
 ∃ (c1 : Bool), v_1 = vB c1 ∧
 br (!c1)
 (Tri Tryz.prog 95 [vA [vL a1 n1 dxk1, vI i1, vI i2, vI i3, vI i4], vI 30] h_1 fun v_2 h_2 =>
 ∃ (a2 : OA) (n2 dxk2 : Nat) (i5 i6 i7 i8 : Int), v_2 = vA [vL a2 n2 dxk2, vI i5, vI i6, vI i7, vI i8] ∧
 Q (vT [vA [vL a2 n2 dxk2, vI i5, vI i6, vI i7, vI i8], vI 0]) h_2)
 (∃ (b1 o1 : Nat), a1 = some ⟨b1, o1, none⟩ ∧ (0 ≤ i1 ∧ i1 < n1) ∧
 ∃ (i9 : Int), h_1.cell b1 ((o1 + (i1).toNat * 5) + 2) = some (vI i9) ∧
 Q (vT [vA [vL a1 n1 dxk1, vI (IntKind.i64.wrap (i1 + 1)), vI i2, vI i3, vI i4], vI i9]) h_1)
theorem T52 {a1 : OA} {n1 : Nat} {dxk1 : Nat} {i1 : Int} {i2 : Int} {i3 : Int} {i4 : Int} {h : PHeap} {Q : Value → PHeap → Prop} (hR : R52 a1 n1 dxk1 i1 i2 i3 i4 h Q) : Tri Tryz.prog 52 [vA [vL a1 n1 dxk1, vI i1, vI i2, vI i3, vI i4]] h Q :=
 tri_of_dn mixed Tryz.func52 rfl (by kernel_rfl) low52 (rs := [.cell 2 true 5, .tmp 3]) (by kernel_rfl) rfl (Eq.mpr (by kernel_rfl : dnF Tryz.prog Tryz.f52.ntmps d52 [.cell 2 true 5, .tmp 3] [vA [vL a1 n1 dxk1, vI i1, vI i2, vI i3, vI i4]] h Q = R52 a1 n1 dxk1 i1 i2 i3 i4 h Q) hR)
abbrev o53_4 : Op := .call { callee := (.builtin .append), args := #[(.tmp 21), (.tmp 23)], argTypes := #[101, 101] }
noncomputable def d53 : DCode := up ⟨[(6, .l dxk1), (7, .c (.one true dxk1)), (9, .l [qi]), (12, .l dxk1), (13, .c (.one false [.bool])), (17, .l dxk1), (18, .c (.tup [(true, dxk1), (true, dxk5)])), (22, .l dxk5), (24, .c (.one false [.slice])), (25, .l dxk1), (26, .c (.one true dxk1))], [], [(8, 19, [(4, .slice)], [(1, dxk1)])]⟩ (low Tryz.prog (fun _ => false) (Tryz.f53.body.getD .skip))
theorem low53 : low Tryz.prog (fun _ => false) (Tryz.f53.body.getD .skip) = some (eC d53) := by kernel_rfl
def R53 (a1 : OA) (n1 : Nat) (dxk1 : Nat) (i1 : Int) (i2 : Int) (i3 : Int) (i4 : Int) (h : PHeap) (Q : Value → PHeap → Prop) : Prop :=
 Tri Tryz.prog 50 [vA [vL a1 n1 dxk1, vI i1, vI i2, vI i3, vI i4], vS [123]] h fun v_1 h_1 =>
 ∃ (a2 : OA) (n2 dxk2 : Nat) (i5 i6 i7 i8 : Int), v_1 = vA [vL a2 n2 dxk2, vI i5, vI i6, vI i7, vI i8] ∧
 ∃ (I_1 : Nat → OA → Nat → Nat → OA → Nat → Nat → Int → Int → Int → Int → PHeap → Prop), (∃ (m2 : Nat), I_1 m2 none 0 0 a2 n2 dxk2 i5 i6 i7 i8 h_1) ∧
 ∀ (m1 : Nat) (a3 : OA) (n3 : Nat) (dxk3 : Nat) (a4 : OA) (n4 : Nat) (dxk4 : Nat) (i9 : Int) (i10 : Int) (i11 : Int) (i12 : Int) (h_2 : PHeap), I_1 m1 a3 n3 dxk3 a4 n4 dxk4 i9 i10 i11 i12 h_2 →
 br (i11 == 0)
 (Tri Tryz.prog 49 [vA [vL a4 n4 dxk4, vI i9, vI i10, vI i11, vI i12], vS [125]] h_2 fun v_2 h_3 =>
 ∃ (c1 : Bool), v_2 = vB c1 ∧
 br (!c1)
 (Tri Tryz.prog 96 [vA [vL a4 n4 dxk4, vI i9, vI i10, vI i11, vI i12]] h_3 fun v_3 h_4 =>
 ∃ (a5 : OA) (n5 dxk5 : Nat) (i13 i14 i15 i16 i17 : Int) (l1 : Bs) (a6 : OA) (n6 dxk6 : Nat) (a7 : OA) (n7 k7 : Nat) (a8 : OA) (n8 k8 : Nat) (i18 : Int), v_3 = vT [vA [vL a5 n5 dxk5, vI i13, vI i14, vI i15, vI i16], vA [vI i17, vS l1, vL a6 n6 dxk6, vL a7 n7 k7, vL a8 n8 k8, vI i18]] ∧
 ∀ (b1 : Nat), h_4 b1 = none → ∀ (h_5 : PHeap), h_5 = h_4.put b1 (.cells ⟨[vI i17, vS l1, vL a6 n6 dxk6, vL a7 n7 k7, vL a8 n8 k8, vI i18]⟩ 174) →
 Raw Tryz.prog (execOp (rho [(21, vL a3 n3 dxk3), (23, vL (ad b1 0) 1 1)]) (mkO o53_4 101)) h_5 fun v_4 h_6 =>
 ∃ (a9 : OA) (n9 k9 : Nat), v_4 = vL a9 n9 k9 ∧
 ∃ (m3 : Nat), m3 < m1 ∧ I_1 m3 a9 n9 k9 a5 n5 dxk5 i13 i14 i15 i16 h_6 ∧
 tv [vL none 0 0, vI 0, vI 0, vI 0, vI 0] ∧ True)
 (Tri Tryz.prog 50 [vA [vL a4 n4 dxk4, vI i9, vI i10, vI i11, vI i12], vS [125]] h_3 fun v_5 h_7 =>
 ∃ (a10 : OA) (n10 k10 : Nat) (i19 i20 i21 i22 : Int), v_5 = vA [vL a10 n10 k10, vI i19, vI i20, vI i21, vI i22] ∧
 Q (vT [vA [vL a10 n10 k10, vI i19, vI i20, vI i21, vI i22], vL a3 n3 dxk3]) h_7))
 (Tri Tryz.prog 50 [vA [vL a4 n4 dxk4, vI i9, vI i10, vI i11, vI i12], vS [125]] h_2 fun v_6 h_8 =>
 ∃ (a11 : OA) (n11 k11 : Nat) (i23 i24 i25 i26 : Int), v_6 = vA [vL a11 n11 k11, vI i23, vI i24, vI i25, vI i26] ∧
 Q (vT [vA [vL a11 n11 k11, vI i23, vI i24, vI i25, vI i26], vL a3 n3 dxk3]) h_8)
theorem T53 {a1 : OA} {n1 : Nat} {dxk1 : Nat} {i1 : Int} {i2 : Int} {i3 : Int} {i4 : Int} {h : PHeap} {Q : Value → PHeap → Prop} (hR : R53 a1 n1 dxk1 i1 i2 i3 i4 h Q) : Tri Tryz.prog 53 [vA [vL a1 n1 dxk1, vI i1, vI i2, vI i3, vI i4]] h Q :=
 tri_of_dn mixed Tryz.func53 rfl (by kernel_rfl) low53 (rs := [.cell 2 true 5, .tmp 3]) (by kernel_rfl) rfl (Eq.mpr (by kernel_rfl : dnF Tryz.prog Tryz.f53.ntmps d53 [.cell 2 true 5, .tmp 3] [vA [vL a1 n1 dxk1, vI i1, vI i2, vI i3, vI i4]] h Q = R53 a1 n1 dxk1 i1 i2 i3 i4 h Q) hR)
noncomputable def d95 : DCode := up ⟨[(6, .l [qi]), (10, .l [qi]), (13, .l dxk1)], [], []⟩ (low Tryz.prog (fun _ => false) (Tryz.f95.body.getD .skip))
theorem low95 : low Tryz.prog (fun _ => false) (Tryz.f95.body.getD .skip) = some (eC d95) := by kernel_rfl
def R95 (a1 : OA) (n1 : Nat) (dxk1 : Nat) (i1 : Int) (i2 : Int) (i3 : Int) (i4 : Int) (i5 : Int) (h : PHeap) (Q : Value → PHeap → Prop) : Prop :=
 br (i3 == 0)
 (Q (vA [vL a1 n1 dxk1, vI i1, vI i2, vI i5, vI i1]) h)
 (Q (vA [vL a1 n1 dxk1, vI i1, vI i2, vI i3, vI i4]) h)
theorem T95 {a1 : OA} {n1 : Nat} {dxk1 : Nat} {i1 : Int} {i2 : Int} {i3 : Int} {i4 : Int} {i5 : Int} {h : PHeap} {Q : Value → PHeap → Prop} (hR : R95 a1 n1 dxk1 i1 i2 i3 i4 i5 h Q) : Tri Tryz.prog 95 [vA [vL a1 n1 dxk1, vI i1, vI i2, vI i3, vI i4], vI i5] h Q :=
 tri_of_dn mixed Tryz.func95 rfl (by kernel_rfl) low95 (rs := [.cell 4 true 5]) (by kernel_rfl) rfl (Eq.mpr (by kernel_rfl : dnF Tryz.prog Tryz.f95.ntmps d95 [.cell 4 true 5] [vA [vL a1 n1 dxk1, vI i1, vI i2, vI i3, vI i4], vI i5] h Q = R95 a1 n1 dxk1 i1 i2 i3 i4 i5 h Q) hR)
abbrev o96_30 : Op := .call { callee := (.builtin .append), args := #[(.tmp 78), (.tmp 80)], argTypes := #[172, 172] }
noncomputable def d96 : DCode := up ⟨[(10, .l [.slice]), (12, .l [qi]), (14, .l dxk4), (16, .l [qi]), (84, .l dxk1), (85, .c (.one false [.bool])), (87, .l dxk1), (88, .c (.one true dxk1)), (90, .l dxk1), (91, .c (.tup [(true, dxk1), (false, [.str]), (false, [qi])])), (96, .l dxk1), (97, .c (.one false [.bool])), (98, .l dxk1), (99, .c (.one true dxk1)), (101, .l dxk1), (102, .c (.tup [(true, dxk1), (true, dxk6)])), (105, .l dxk6), (109, .l dxk1), (110, .c (.one false [.bool])), (112, .l dxk1), (113, .c (.one true dxk1)), (115, .l dxk1), (116, .c (.tup [(true, dxk1), (true, dxk6)])), (119, .l dxk6), (123, .l dxk1), (124, .c (.tup [(true, dxk1), (false, [.slice])])), (128, .l dxk1), (129, .c (.one false [.bool])), (130, .l dxk1), (131, .c (.one true dxk1)), (132, .l dxk1), (133, .c (.one false [.bool])), (135, .l dxk1), (136, .c (.tup [(true, dxk1), (true, dxk5)])), (139, .l dxk5), (143, .l dxk1), (144, .c (.tup [(true, dxk1), (false, [.slice])])), (148, .l dxk1), (149, .l dxk5), (151, .l dxk1), (152, .c (.one false [.bool])), (154, .l dxk1), (155, .c (.one true dxk1)), (157, .l dxk1), (158, .c (.tup [(true, dxk1), (true, dxk6)])), (161, .l dxk6), (165, .l dxk1), (166, .c (.tup [(true, dxk1), (false, [.slice])])), (170, .l dxk1), (171, .l dxk5), (173, .l dxk1), (174, .c (.one false [.bool])), (176, .l dxk1), (177, .c (.one true dxk1)), (178, .l dxk1), (179, .c (.one false [.bool])), (183, .l [qi]), (187, .l dxk1), (188, .c (.tup [(true, dxk1), (true, dxk6)])), (191, .l dxk6), (195, .l dxk1), (196, .c (.one false [.bool])), (198, .l dxk1), (199, .c (.one true dxk1)), (201, .l dxk1), (202, .c (.one false [.bool])), (204, .l dxk1), (205, .c (.one true dxk1)), (19, .l dxk1), (20, .c (.tup [(true, dxk1), (false, [.str]), (false, [qi])])), (37, .l dxk1), (38, .c (.one false [.bool])), (41, .l dxk1), (42, .c (.tup [(true, dxk1), (false, [.slice])])), (46, .l [.str]), (49, .l [qi]), (55, .l dxk1), (56, .c (.one false [.bool])), (58, .l dxk1), (59, .c (.one true dxk1)), (61, .l dxk1), (62, .c (.tup [(true, dxk1), (true, dxk6)])), (65, .l dxk6), (68, .l dxk1), (69, .c (.one true dxk1)), (70, .l dxk1), (71, .c (.one true dxk1)), (73, .l dxk1), (74, .c (.tup [(true, dxk1), (true, dxk6)])), (78, .l [.slice]), (79, .l dxk6), (81, .c (.one false [.slice])), (26, .l dxk1), (27, .c (.one true dxk1)), (29, .l dxk1), (30, .c (.tup [(true, dxk1), (true, dxk6)])), (33, .l dxk6), (206, .l dxk1), (207, .c (.one true dxk1)), (208, .l dxk5)], [], []⟩ (low Tryz.prog (fun _ => false) (Tryz.f96.body.getD .skip))
theorem low96 : low Tryz.prog (fun _ => false) (Tryz.f96.body.getD .skip) = some (eC d96) := by kernel_rfl
def R96 (a1 : OA) (n1 : Nat) (dxk1 : Nat) (i1 : Int) (i2 : Int) (i3 : Int) (i4 : Int) (h : PHeap) (Q : Value → PHeap → Prop) : Prop :=
 ∃ (b1 o1 : Nat), a1 = some ⟨b1, o1, none⟩ ∧ (0 ≤ i1 ∧ i1 < n1) ∧
 ∃ (i5 : Int) (l1 : Bs) (i6 : Int) (l2 : Bs) (i7 : Int), h.row b1 (o1 + (i1).toNat * 5) [vI i5, vS l1, vI i6, vS l2, vI i7] ∧
 Tri Tryz.prog 49 [vA [vL a1 n1 dxk1, vI i1, vI i2, vI i3, vI i4], vS [118, 97, 114]] h fun v_1 h_1 =>
 ∃ (c1 : Bool), v_1 = vB c1 ∧
 br c1
 (Tri Tryz.prog 50 [vA [vL a1 n1 dxk1, vI i1, vI i2, vI i3, vI i4], vS [118, 97, 114]] h_1 fun v_2 h_2 =>
 ∃ (a2 : OA) (n2 dxk2 : Nat) (i8 i9 i10 i11 : Int), v_2 = vA [vL a2 n2 dxk2, vI i8, vI i9, vI i10, vI i11] ∧
 Tri Tryz.prog 51 [vA [vL a2 n2 dxk2, vI i8, vI i9, vI i10, vI i11]] h_2 fun v_3 h_3 =>
 ∃ (a3 : OA) (n3 dxk3 : Nat) (i12 i13 i14 i15 : Int) (l3 : Bs) (i16 : Int), v_3 = vT [vA [vL a3 n3 dxk3, vI i12, vI i13, vI i14, vI i15], vS l3, vI i16] ∧
 Tri Tryz.prog 49 [vA [vL a3 n3 dxk3, vI i12, vI i13, vI i14, vI i15], vS [61]] h_3 fun v_4 h_4 =>
 ∃ (c2 : Bool), v_4 = vB c2 ∧
 br c2
 (Tri Tryz.prog 50 [vA [vL a3 n3 dxk3, vI i12, vI i13, vI i14, vI i15], vS [61]] h_4 fun v_5 h_5 =>
 ∃ (a4 : OA) (n4 dxk4 : Nat) (i17 i18 i19 i20 : Int), v_5 = vA [vL a4 n4 dxk4, vI i17, vI i18, vI i19, vI i20] ∧
 Tri Tryz.prog 142 [vA [vL a4 n4 dxk4, vI i17, vI i18, vI i19, vI i20], vI 1] h_5 fun v_6 h_6 =>
 ∃ (a5 : OA) (n5 dxk5 : Nat) (i21 i22 i23 i24 i25 : Int) (l4 l5 : Bs) (i26 : Int) (l6 : Bs) (a6 : OA) (n6 dxk6 : Nat) (i27 : Int), v_6 = vT [vA [vL a5 n5 dxk5, vI i21, vI i22, vI i23, vI i24], vA [vI i25, vS l4, vS l5, vI i26, vS l6, vL a6 n6 dxk6, vI i27]] ∧
 ∀ (b2 : Nat), h_6 b2 = none → ∀ (h_7 : PHeap), h_7 = h_6.put b2 (.cells ⟨[vI i25, vS l4, vS l5, vI i26, vS l6, vL a6 n6 dxk6, vI i27]⟩ 186) →
 Tri Tryz.prog 50 [vA [vL a5 n5 dxk5, vI i21, vI i22, vI i23, vI i24], vS [59]] h_7 fun v_7 h_8 =>
 ∃ (a7 : OA) (n7 k7 : Nat) (i28 i29 i30 i31 : Int), v_7 = vA [vL a7 n7 k7, vI i28, vI i29, vI i30, vI i31] ∧
 (tv [vI 1, vS l3, vL (ad b2 0) 1 1, vL none 0 0, vL none 0 0, vI i7]) ∧
 (tv [vI 1, vS l3, vL (ad b2 0) 1 1, vL none 0 0, vL none 0 0, vI i7]) ∧
 Q (vT [vA [vL a7 n7 k7, vI i28, vI i29, vI i30, vI i31], vA [vI 1, vS l3, vL (ad b2 0) 1 1, vL none 0 0, vL none 0 0, vI i7]]) h_8)
 (Tri Tryz.prog 50 [vA [vL a3 n3 dxk3, vI i12, vI i13, vI i14, vI i15], vS [59]] h_4 fun v_8 h_9 =>
 ∃ (a8 : OA) (n8 k8 : Nat) (i32 i33 i34 i35 : Int), v_8 = vA [vL a8 n8 k8, vI i32, vI i33, vI i34, vI i35] ∧
 (tv [vI 1, vS l3, vL none 0 0, vL none 0 0, vL none 0 0, vI i7]) ∧
 (tv [vI 1, vS l3, vL none 0 0, vL none 0 0, vL none 0 0, vI i7]) ∧
 Q (vT [vA [vL a8 n8 k8, vI i32, vI i33, vI i34, vI i35], vA [vI 1, vS l3, vL none 0 0, vL none 0 0, vL none 0 0, vI i7]]) h_9))
 (Tri Tryz.prog 49 [vA [vL a1 n1 dxk1, vI i1, vI i2, vI i3, vI i4], vS [105, 102]] h_1 fun v_9 h_10 =>
 ∃ (c3 : Bool), v_9 = vB c3 ∧
 br c3
 (Tri Tryz.prog 50 [vA [vL a1 n1 dxk1, vI i1, vI i2, vI i3, vI i4], vS [105, 102]] h_10 fun v_10 h_11 =>
 ∃ (a9 : OA) (n9 k9 : Nat) (i36 i37 i38 i39 : Int), v_10 = vA [vL a9 n9 k9, vI i36, vI i37, vI i38, vI i39] ∧
 Tri Tryz.prog 143 [vA [vL a9 n9 k9, vI i36, vI i37, vI i38, vI i39]] h_11 fun v_11 h_12 =>
 ∃ (a10 : OA) (n10 k10 : Nat) (i40 i41 i42 i43 i44 : Int) (l7 l8 : Bs) (i45 : Int) (l9 : Bs) (a11 : OA) (n11 k11 : Nat) (i46 : Int), v_11 = vT [vA [vL a10 n10 k10, vI i40, vI i41, vI i42, vI i43], vA [vI i44, vS l7, vS l8, vI i45, vS l9, vL a11 n11 k11, vI i46]] ∧
 ∀ (b3 : Nat), h_12 b3 = none → ∀ (h_13 : PHeap), h_13 = h_12.put b3 (.cells ⟨[vI i44, vS l7, vS l8, vI i45, vS l9, vL a11 n11 k11, vI i46]⟩ 186) →
 Tri Tryz.prog 53 [vA [vL a10 n10 k10, vI i40, vI i41, vI i42, vI i43]] h_13 fun v_12 h_14 =>
 ∃ (a12 : OA) (n12 k12 : Nat) (i47 i48 i49 i50 : Int) (a13 : OA) (n13 k13 : Nat), v_12 = vT [vA [vL a12 n12 k12, vI i47, vI i48, vI i49, vI i50], vL a13 n13 k13] ∧
 Tri Tryz.prog 49 [vA [vL a12 n12 k12, vI i47, vI i48, vI i49, vI i50], vS [101, 108, 115, 101]] h_14 fun v_13 h_15 =>
 ∃ (c4 : Bool), v_13 = vB c4 ∧
 br c4
 (Tri Tryz.prog 50 [vA [vL a12 n12 k12, vI i47, vI i48, vI i49, vI i50], vS [101, 108, 115, 101]] h_15 fun v_14 h_16 =>
 ∃ (a14 : OA) (n14 k14 : Nat) (i51 i52 i53 i54 : Int), v_14 = vA [vL a14 n14 k14, vI i51, vI i52, vI i53, vI i54] ∧
 Tri Tryz.prog 49 [vA [vL a14 n14 k14, vI i51, vI i52, vI i53, vI i54], vS [105, 102]] h_16 fun v_15 h_17 =>
 ∃ (c5 : Bool), v_15 = vB c5 ∧
 br c5
 (Tri Tryz.prog 96 [vA [vL a14 n14 k14, vI i51, vI i52, vI i53, vI i54]] h_17 fun v_16 h_18 =>
 ∃ (a15 : OA) (n15 k15 : Nat) (i55 i56 i57 i58 i59 : Int) (l10 : Bs) (a16 : OA) (n16 k16 : Nat) (a17 : OA) (n17 k17 : Nat) (a18 : OA) (n18 k18 : Nat) (i60 : Int), v_16 = vT [vA [vL a15 n15 k15, vI i55, vI i56, vI i57, vI i58], vA [vI i59, vS l10, vL a16 n16 k16, vL a17 n17 k17, vL a18 n18 k18, vI i60]] ∧
 ∀ (b4 : Nat), h_18 b4 = none → ∀ (h_19 : PHeap), h_19 = h_18.put b4 (.cells ⟨[vI i59, vS l10, vL a16 n16 k16, vL a17 n17 k17, vL a18 n18 k18, vI i60]⟩ 174) →
 (tv [vI 5, vS [], vL (ad b3 0) 1 1, vL a13 n13 k13, vL (ad b4 0) 1 1, vI i7]) ∧
 Q (vT [vA [vL a15 n15 k15, vI i55, vI i56, vI i57, vI i58], vA [vI 5, vS [], vL (ad b3 0) 1 1, vL a13 n13 k13, vL (ad b4 0) 1 1, vI i7]]) h_19)
 (Tri Tryz.prog 53 [vA [vL a14 n14 k14, vI i51, vI i52, vI i53, vI i54]] h_17 fun v_17 h_20 =>
 ∃ (a19 : OA) (n19 k19 : Nat) (i61 i62 i63 i64 : Int) (a20 : OA) (n20 k20 : Nat), v_17 = vT [vA [vL a19 n19 k19, vI i61, vI i62, vI i63, vI i64], vL a20 n20 k20] ∧
 (tv [vI 5, vS [], vL (ad b3 0) 1 1, vL a13 n13 k13, vL a20 n20 k20, vI i7]) ∧
 Q (vT [vA [vL a19 n19 k19, vI i61, vI i62, vI i63, vI i64], vA [vI 5, vS [], vL (ad b3 0) 1 1, vL a13 n13 k13, vL a20 n20 k20, vI i7]]) h_20))
 ((tv [vI 5, vS [], vL (ad b3 0) 1 1, vL a13 n13 k13, vL none 0 0, vI i7]) ∧
 Q (vT [vA [vL a12 n12 k12, vI i47, vI i48, vI i49, vI i50], vA [vI 5, vS [], vL (ad b3 0) 1 1, vL a13 n13 k13, vL none 0 0, vI i7]]) h_15))
 (Tri Tryz.prog 49 [vA [vL a1 n1 dxk1, vI i1, vI i2, vI i3, vI i4], vS [119, 104, 105, 108, 101]] h_10 fun v_18 h_21 =>
 ∃ (c6 : Bool), v_18 = vB c6 ∧
 br c6
 (Tri Tryz.prog 50 [vA [vL a1 n1 dxk1, vI i1, vI i2, vI i3, vI i4], vS [119, 104, 105, 108, 101]] h_21 fun v_19 h_22 =>
 ∃ (a21 : OA) (n21 k21 : Nat) (i65 i66 i67 i68 : Int), v_19 = vA [vL a21 n21 k21, vI i65, vI i66, vI i67, vI i68] ∧
 Tri Tryz.prog 143 [vA [vL a21 n21 k21, vI i65, vI i66, vI i67, vI i68]] h_22 fun v_20 h_23 =>
 ∃ (a22 : OA) (n22 k22 : Nat) (i69 i70 i71 i72 i73 : Int) (l11 l12 : Bs) (i74 : Int) (l13 : Bs) (a23 : OA) (n23 k23 : Nat) (i75 : Int), v_20 = vT [vA [vL a22 n22 k22, vI i69, vI i70, vI i71, vI i72], vA [vI i73, vS l11, vS l12, vI i74, vS l13, vL a23 n23 k23, vI i75]] ∧
 ∀ (b5 : Nat), h_23 b5 = none → ∀ (h_24 : PHeap), h_24 = h_23.put b5 (.cells ⟨[vI i73, vS l11, vS l12, vI i74, vS l13, vL a23 n23 k23, vI i75]⟩ 186) →
 Tri Tryz.prog 53 [vA [vL a22 n22 k22, vI i69, vI i70, vI i71, vI i72]] h_24 fun v_21 h_25 =>
 ∃ (a24 : OA) (n24 k24 : Nat) (i76 i77 i78 i79 : Int) (a25 : OA) (n25 k25 : Nat), v_21 = vT [vA [vL a24 n24 k24, vI i76, vI i77, vI i78, vI i79], vL a25 n25 k25] ∧
 (tv [vI 6, vS [], vL (ad b5 0) 1 1, vL a25 n25 k25, vL none 0 0, vI i7]) ∧
 Q (vT [vA [vL a24 n24 k24, vI i76, vI i77, vI i78, vI i79], vA [vI 6, vS [], vL (ad b5 0) 1 1, vL a25 n25 k25, vL none 0 0, vI i7]]) h_25)
 (Tri Tryz.prog 49 [vA [vL a1 n1 dxk1, vI i1, vI i2, vI i3, vI i4], vS [114, 101, 116, 117, 114, 110]] h_21 fun v_22 h_26 =>
 ∃ (c7 : Bool), v_22 = vB c7 ∧
 br c7
 (Tri Tryz.prog 50 [vA [vL a1 n1 dxk1, vI i1, vI i2, vI i3, vI i4], vS [114, 101, 116, 117, 114, 110]] h_26 fun v_23 h_27 =>
 ∃ (a26 : OA) (n26 k26 : Nat) (i80 i81 i82 i83 : Int), v_23 = vA [vL a26 n26 k26, vI i80, vI i81, vI i82, vI i83] ∧
 Tri Tryz.prog 49 [vA [vL a26 n26 k26, vI i80, vI i81, vI i82, vI i83], vS [59]] h_27 fun v_24 h_28 =>
 ∃ (c8 : Bool), v_24 = vB c8 ∧
 br (!c8)
 (br (i82 == 0)
 (Tri Tryz.prog 142 [vA [vL a26 n26 k26, vI i80, vI i81, vI i82, vI i83], vI 1] h_28 fun v_25 h_29 =>
 ∃ (a27 : OA) (n27 k27 : Nat) (i84 i85 i86 i87 i88 : Int) (l14 l15 : Bs) (i89 : Int) (l16 : Bs) (a28 : OA) (n28 k28 : Nat) (i90 : Int), v_25 = vT [vA [vL a27 n27 k27, vI i84, vI i85, vI i86, vI i87], vA [vI i88, vS l14, vS l15, vI i89, vS l16, vL a28 n28 k28, vI i90]] ∧
 ∀ (b6 : Nat), h_29 b6 = none → ∀ (h_30 : PHeap), h_30 = h_29.put b6 (.cells ⟨[vI i88, vS l14, vS l15, vI i89, vS l16, vL a28 n28 k28, vI i90]⟩ 186) →
 Tri Tryz.prog 50 [vA [vL a27 n27 k27, vI i84, vI i85, vI i86, vI i87], vS [59]] h_30 fun v_26 h_31 =>
 ∃ (a29 : OA) (n29 k29 : Nat) (i91 i92 i93 i94 : Int), v_26 = vA [vL a29 n29 k29, vI i91, vI i92, vI i93, vI i94] ∧
 (tv [vI 7, vS [], vL (ad b6 0) 1 1, vL none 0 0, vL none 0 0, vI i7]) ∧
 (tv [vI 7, vS [], vL (ad b6 0) 1 1, vL none 0 0, vL none 0 0, vI i7]) ∧
 Q (vT [vA [vL a29 n29 k29, vI i91, vI i92, vI i93, vI i94], vA [vI 7, vS [], vL (ad b6 0) 1 1, vL none 0 0, vL none 0 0, vI i7]]) h_31)
 (Tri Tryz.prog 50 [vA [vL a26 n26 k26, vI i80, vI i81, vI i82, vI i83], vS [59]] h_28 fun v_27 h_32 =>
 ∃ (a30 : OA) (n30 k30 : Nat) (i95 i96 i97 i98 : Int), v_27 = vA [vL a30 n30 k30, vI i95, vI i96, vI i97, vI i98] ∧
 (tv [vI 7, vS [], vL none 0 0, vL none 0 0, vL none 0 0, vI i7]) ∧
 (tv [vI 7, vS [], vL none 0 0, vL none 0 0, vL none 0 0, vI i7]) ∧
 Q (vT [vA [vL a30 n30 k30, vI i95, vI i96, vI i97, vI i98], vA [vI 7, vS [], vL none 0 0, vL none 0 0, vL none 0 0, vI i7]]) h_32))
 (Tri Tryz.prog 50 [vA [vL a26 n26 k26, vI i80, vI i81, vI i82, vI i83], vS [59]] h_28 fun v_28 h_33 =>
 ∃ (a31 : OA) (n31 k31 : Nat) (i99 i100 i101 i102 : Int), v_28 = vA [vL a31 n31 k31, vI i99, vI i100, vI i101, vI i102] ∧
 (tv [vI 7, vS [], vL none 0 0, vL none 0 0, vL none 0 0, vI i7]) ∧
 (tv [vI 7, vS [], vL none 0 0, vL none 0 0, vL none 0 0, vI i7]) ∧
 Q (vT [vA [vL a31 n31 k31, vI i99, vI i100, vI i101, vI i102], vA [vI 7, vS [], vL none 0 0, vL none 0 0, vL none 0 0, vI i7]]) h_33))
 (Tri Tryz.prog 49 [vA [vL a1 n1 dxk1, vI i1, vI i2, vI i3, vI i4], vS [98, 114, 101, 97, 107]] h_26 fun v_29 h_34 =>
 ∃ (c9 : Bool), v_29 = vB c9 ∧
 br c9
 (Tri Tryz.prog 50 [vA [vL a1 n1 dxk1, vI i1, vI i2, vI i3, vI i4], vS [98, 114, 101, 97, 107]] h_34 fun v_30 h_35 =>
 ∃ (a32 : OA) (n32 k32 : Nat) (i103 i104 i105 i106 : Int), v_30 = vA [vL a32 n32 k32, vI i103, vI i104, vI i105, vI i106] ∧
 Tri Tryz.prog 50 [vA [vL a32 n32 k32, vI i103, vI i104, vI i105, vI i106], vS [59]] h_35 fun v_31 h_36 =>
 ∃ (a33 : OA) (n33 k33 : Nat) (i107 i108 i109 i110 : Int), v_31 = vA [vL a33 n33 k33, vI i107, vI i108, vI i109, vI i110] ∧
 (tv [vI 8, vS [], vL none 0 0, vL none 0 0, vL none 0 0, vI i7]) ∧
 (tv [vI 8, vS [], vL none 0 0, vL none 0 0, vL none 0 0, vI i7]) ∧
 Q (vT [vA [vL a33 n33 k33, vI i107, vI i108, vI i109, vI i110], vA [vI 8, vS [], vL none 0 0, vL none 0 0, vL none 0 0, vI i7]]) h_36)
 (Tri Tryz.prog 49 [vA [vL a1 n1 dxk1, vI i1, vI i2, vI i3, vI i4], vS [99, 111, 110, 116, 105, 110, 117, 101]] h_34 fun v_32 h_37 =>
 ∃ (c10 : Bool), v_32 = vB c10 ∧
 br c10
 (Tri Tryz.prog 50 [vA [vL a1 n1 dxk1, vI i1, vI i2, vI i3, vI i4], vS [99, 111, 110, 116, 105, 110, 117, 101]] h_37 fun v_33 h_38 =>
 ∃ (a34 : OA) (n34 k34 : Nat) (i111 i112 i113 i114 : Int), v_33 = vA [vL a34 n34 k34, vI i111, vI i112, vI i113, vI i114] ∧
 Tri Tryz.prog 50 [vA [vL a34 n34 k34, vI i111, vI i112, vI i113, vI i114], vS [59]] h_38 fun v_34 h_39 =>
 ∃ (a35 : OA) (n35 k35 : Nat) (i115 i116 i117 i118 : Int), v_34 = vA [vL a35 n35 k35, vI i115, vI i116, vI i117, vI i118] ∧
 (tv [vI 9, vS [], vL none 0 0, vL none 0 0, vL none 0 0, vI i7]) ∧
 (tv [vI 9, vS [], vL none 0 0, vL none 0 0, vL none 0 0, vI i7]) ∧
 Q (vT [vA [vL a35 n35 k35, vI i115, vI i116, vI i117, vI i118], vA [vI 9, vS [], vL none 0 0, vL none 0 0, vL none 0 0, vI i7]]) h_39)
 (Tri Tryz.prog 51 [vA [vL a1 n1 dxk1, vI i1, vI i2, vI i3, vI i4]] h_37 fun v_35 h_40 =>
 ∃ (a36 : OA) (n36 k36 : Nat) (i119 i120 i121 i122 : Int) (l17 : Bs) (i123 : Int), v_35 = vT [vA [vL a36 n36 k36, vI i119, vI i120, vI i121, vI i122], vS l17, vI i123] ∧
 Tri Tryz.prog 49 [vA [vL a36 n36 k36, vI i119, vI i120, vI i121, vI i122], vS [40]] h_40 fun v_36 h_41 =>
 ∃ (c11 : Bool), v_36 = vB c11 ∧
 br c11
 (Tri Tryz.prog 144 [vA [vL a36 n36 k36, vI i119, vI i120, vI i121, vI i122]] h_41 fun v_37 h_42 =>
 ∃ (a37 : OA) (n37 k37 : Nat) (i124 i125 i126 i127 : Int) (a38 : OA) (n38 k38 : Nat), v_37 = vT [vA [vL a37 n37 k37, vI i124, vI i125, vI i126, vI i127], vL a38 n38 k38] ∧
 ∀ (b7 : Nat), h_42 b7 = none → ∀ (h_43 : PHeap), h_43 = h_42.put b7 (.cells ⟨[vI 5, vS [], vS l17, vI 0, vS [], vL a38 n38 k38, vI i7]⟩ 186) →
 Tri Tryz.prog 50 [vA [vL a37 n37 k37, vI i124, vI i125, vI i126, vI i127], vS [59]] h_43 fun v_38 h_44 =>
 ∃ (a39 : OA) (n39 k39 : Nat) (i128 i129 i130 i131 : Int), v_38 = vA [vL a39 n39 k39, vI i128, vI i129, vI i130, vI i131] ∧
 (tv [vI 4, vS [], vL (ad b7 0) 1 1, vL none 0 0, vL none 0 0, vI i7]) ∧
 (tv [vI 4, vS [], vL (ad b7 0) 1 1, vL none 0 0, vL none 0 0, vI i7]) ∧
 Q (vT [vA [vL a39 n39 k39, vI i128, vI i129, vI i130, vI i131], vA [vI 4, vS [], vL (ad b7 0) 1 1, vL none 0 0, vL none 0 0, vI i7]]) h_44)
 (Tri Tryz.prog 49 [vA [vL a36 n36 k36, vI i119, vI i120, vI i121, vI i122], vS [91]] h_41 fun v_39 h_45 =>
 ∃ (c12 : Bool), v_39 = vB c12 ∧
 br c12
 (Tri Tryz.prog 50 [vA [vL a36 n36 k36, vI i119, vI i120, vI i121, vI i122], vS [91]] h_45 fun v_40 h_46 =>
 ∃ (a40 : OA) (n40 k40 : Nat) (i132 i133 i134 i135 : Int), v_40 = vA [vL a40 n40 k40, vI i132, vI i133, vI i134, vI i135] ∧
 Tri Tryz.prog 142 [vA [vL a40 n40 k40, vI i132, vI i133, vI i134, vI i135], vI 1] h_46 fun v_41 h_47 =>
 ∃ (a41 : OA) (n41 k41 : Nat) (i136 i137 i138 i139 i140 : Int) (l18 l19 : Bs) (i141 : Int) (l20 : Bs) (a42 : OA) (n42 k42 : Nat) (i142 : Int), v_41 = vT [vA [vL a41 n41 k41, vI i136, vI i137, vI i138, vI i139], vA [vI i140, vS l18, vS l19, vI i141, vS l20, vL a42 n42 k42, vI i142]] ∧
 ∀ (b8 : Nat), h_47 b8 = none → ∀ (h_48 : PHeap), h_48 = h_47.put b8 (.cells ⟨[vI i140, vS l18, vS l19, vI i141, vS l20, vL a42 n42 k42, vI i142]⟩ 186) →
 Tri Tryz.prog 50 [vA [vL a41 n41 k41, vI i136, vI i137, vI i138, vI i139], vS [93]] h_48 fun v_42 h_49 =>
 ∃ (a43 : OA) (n43 k43 : Nat) (i143 i144 i145 i146 : Int), v_42 = vA [vL a43 n43 k43, vI i143, vI i144, vI i145, vI i146] ∧
 Tri Tryz.prog 50 [vA [vL a43 n43 k43, vI i143, vI i144, vI i145, vI i146], vS [61]] h_49 fun v_43 h_50 =>
 ∃ (a44 : OA) (n44 k44 : Nat) (i147 i148 i149 i150 : Int), v_43 = vA [vL a44 n44 k44, vI i147, vI i148, vI i149, vI i150] ∧
 Tri Tryz.prog 142 [vA [vL a44 n44 k44, vI i147, vI i148, vI i149, vI i150], vI 1] h_50 fun v_44 h_51 =>
 ∃ (a45 : OA) (n45 k45 : Nat) (i151 i152 i153 i154 i155 : Int) (l21 l22 : Bs) (i156 : Int) (l23 : Bs) (a46 : OA) (n46 k46 : Nat) (i157 : Int), v_44 = vT [vA [vL a45 n45 k45, vI i151, vI i152, vI i153, vI i154], vA [vI i155, vS l21, vS l22, vI i156, vS l23, vL a46 n46 k46, vI i157]] ∧
 ∀ (b9 : Nat), h_51 b9 = none → ∀ (h_52 : PHeap), h_52 = h_51.put b9 (.cells ⟨[vI i155, vS l21, vS l22, vI i156, vS l23, vL a46 n46 k46, vI i157]⟩ 186) →
 Raw Tryz.prog (execOp (rho [(78, vL (ad b8 0) 1 1), (80, vL (ad b9 0) 1 1)]) (mkO o96_30 172)) h_52 fun v_45 h_53 =>
 ∃ (a47 : OA) (n47 k47 : Nat), v_45 = vL a47 n47 k47 ∧
 Tri Tryz.prog 50 [vA [vL a45 n45 k45, vI i151, vI i152, vI i153, vI i154], vS [59]] h_53 fun v_46 h_54 =>
 ∃ (a48 : OA) (n48 k48 : Nat) (i158 i159 i160 i161 : Int), v_46 = vA [vL a48 n48 k48, vI i158, vI i159, vI i160, vI i161] ∧
 (tv [vI 3, vS l17, vL a47 n47 k47, vL none 0 0, vL none 0 0, vI i7]) ∧
 (tv [vI 3, vS l17, vL a47 n47 k47, vL none 0 0, vL none 0 0, vI i7]) ∧
 Q (vT [vA [vL a48 n48 k48, vI i158, vI i159, vI i160, vI i161], vA [vI 3, vS l17, vL a47 n47 k47, vL none 0 0, vL none 0 0, vI i7]]) h_54)
 (Tri Tryz.prog 50 [vA [vL a36 n36 k36, vI i119, vI i120, vI i121, vI i122], vS [61]] h_45 fun v_47 h_55 =>
 ∃ (a49 : OA) (n49 k49 : Nat) (i162 i163 i164 i165 : Int), v_47 = vA [vL a49 n49 k49, vI i162, vI i163, vI i164, vI i165] ∧
 Tri Tryz.prog 142 [vA [vL a49 n49 k49, vI i162, vI i163, vI i164, vI i165], vI 1] h_55 fun v_48 h_56 =>
 ∃ (a50 : OA) (n50 k50 : Nat) (i166 i167 i168 i169 i170 : Int) (l24 l25 : Bs) (i171 : Int) (l26 : Bs) (a51 : OA) (n51 k51 : Nat) (i172 : Int), v_48 = vT [vA [vL a50 n50 k50, vI i166, vI i167, vI i168, vI i169], vA [vI i170, vS l24, vS l25, vI i171, vS l26, vL a51 n51 k51, vI i172]] ∧
 ∀ (b10 : Nat), h_56 b10 = none → ∀ (h_57 : PHeap), h_57 = h_56.put b10 (.cells ⟨[vI i170, vS l24, vS l25, vI i171, vS l26, vL a51 n51 k51, vI i172]⟩ 186) →
 Tri Tryz.prog 50 [vA [vL a50 n50 k50, vI i166, vI i167, vI i168, vI i169], vS [59]] h_57 fun v_49 h_58 =>
 ∃ (a52 : OA) (n52 k52 : Nat) (i173 i174 i175 i176 : Int), v_49 = vA [vL a52 n52 k52, vI i173, vI i174, vI i175, vI i176] ∧
 (tv [vI 2, vS l17, vL (ad b10 0) 1 1, vL none 0 0, vL none 0 0, vI i7]) ∧
 (tv [vI 2, vS l17, vL (ad b10 0) 1 1, vL none 0 0, vL none 0 0, vI i7]) ∧
 Q (vT [vA [vL a52 n52 k52, vI i173, vI i174, vI i175, vI i176], vA [vI 2, vS l17, vL (ad b10 0) 1 1, vL none 0 0, vL none 0 0, vI i7]]) h_58))))))))
theorem T96 {a1 : OA} {n1 : Nat} {dxk1 : Nat} {i1 : Int} {i2 : Int} {i3 : Int} {i4 : Int} {h : PHeap} {Q : Value → PHeap → Prop} (hR : R96 a1 n1 dxk1 i1 i2 i3 i4 h Q) : Tri Tryz.prog 96 [vA [vL a1 n1 dxk1, vI i1, vI i2, vI i3, vI i4]] h Q :=
 tri_of_dn mixed Tryz.func96 rfl (by kernel_rfl) low96 (rs := [.cell 2 true 5, .cell 3 true 6]) (by kernel_rfl) rfl (Eq.mpr (by kernel_rfl : dnF Tryz.prog Tryz.f96.ntmps d96 [.cell 2 true 5, .cell 3 true 6] [vA [vL a1 n1 dxk1, vI i1, vI i2, vI i3, vI i4]] h Q = R96 a1 n1 dxk1 i1 i2 i3 i4 h Q) hR)
noncomputable def d142 : DCode := up ⟨[(11, .l dxk1), (12, .c (.tup [(true, dxk1), (true, dxk6)])), (16, .l dxk1), (19, .c (.tup [(true, dxk1), (true, dxk6)])), (23, .l [qi]), (27, .l [.slice]), (29, .l [qi]), (32, .l [qi]), (37, .l [.slice]), (39, .l [qi]), (42, .l [.str]), (43, .c (.one false [qi])), (48, .l [.slice]), (50, .l [qi]), (52, .l dxk4), (54, .l [qi]), (58, .l dxk1), (61, .c (.tup [(true, dxk1), (true, dxk6)])), (65, .l [.str]), (66, .l dxk6), (67, .l dxk6), (70, .l [qi]), (72, .l dxk1), (73, .l dxk6)], [], [(22, 52, [], [(2, dxk1), (6, dxk6)])]⟩ (low Tryz.prog (fun _ => false) (Tryz.f142.body.getD .skip))
theorem low142 : low Tryz.prog (fun _ => false) (Tryz.f142.body.getD .skip) = some (eC d142) := by kernel_rfl
def R142 (a1 : OA) (n1 : Nat) (dxk1 : Nat) (i1 : Int) (i2 : Int) (i3 : Int) (i4 : Int) (i5 : Int) (h : PHeap) (Q : Value → PHeap → Prop) : Prop :=
 br (decide (i5 > 10))
 (Tri Tryz.prog 174 [vA [vL a1 n1 dxk1, vI i1, vI i2, vI i3, vI i4]] h fun v_1 h_1 =>
 ∃ (a2 : OA) (n2 dxk2 : Nat) (i6 i7 i8 i9 i10 : Int) (l1 l2 : Bs) (i11 : Int) (l3 : Bs) (a3 : OA) (n3 dxk3 : Nat) (i12 : Int), v_1 = vT [vA [vL a2 n2 dxk2, vI i6, vI i7, vI i8, vI i9], vA [vI i10, vS l1, vS l2, vI i11, vS l3, vL a3 n3 dxk3, vI i12]] ∧
 Q (vT [vA [vL a2 n2 dxk2, vI i6, vI i7, vI i8, vI i9], vA [vI i10, vS l1, vS l2, vI i11, vS l3, vL a3 n3 dxk3, vI i12]]) h_1)
 (Tri Tryz.prog 142 [vA [vL a1 n1 dxk1, vI i1, vI i2, vI i3, vI i4], vI (IntKind.i64.wrap (i5 + 1))] h fun v_2 h_2 =>
 ∃ (a4 : OA) (n4 dxk4 : Nat) (i13 i14 i15 i16 i17 : Int) (l4 l5 : Bs) (i18 : Int) (l6 : Bs) (a5 : OA) (n5 dxk5 : Nat) (i19 : Int), v_2 = vT [vA [vL a4 n4 dxk4, vI i13, vI i14, vI i15, vI i16], vA [vI i17, vS l4, vS l5, vI i18, vS l6, vL a5 n5 dxk5, vI i19]] ∧
 ∃ (I_1 : Nat → OA → Nat → Nat → Int → Int → Int → Int → Int → Bs → Bs → Int → Bs → OA → Nat → Nat → Int → PHeap → Prop), (∃ (m2 : Nat), I_1 m2 a4 n4 dxk4 i13 i14 i15 i16 i17 l4 l5 i18 l6 a5 n5 dxk5 i19 h_2) ∧
 ∀ (m1 : Nat) (a6 : OA) (n6 : Nat) (dxk6 : Nat) (i20 : Int) (i21 : Int) (i22 : Int) (i23 : Int) (i24 : Int) (l7 : Bs) (l8 : Bs) (i25 : Int) (l9 : Bs) (a7 : OA) (n7 : Nat) (k7 : Nat) (i26 : Int) (h_3 : PHeap), I_1 m1 a6 n6 dxk6 i20 i21 i22 i23 i24 l7 l8 i25 l9 a7 n7 k7 i26 h_3 →
 br (i22 == 0)
 (∃ (b1 o1 : Nat), a6 = some ⟨b1, o1, none⟩ ∧ (0 ≤ i20 ∧ i20 < n6) ∧
 ∃ (i27 : Int), h_3.cell b1 (o1 + (i20).toNat * 5) = some (vI i27) ∧
 br (i27 == 5)
 (∃ (b2 o2 : Nat), a6 = some ⟨b2, o2, none⟩ ∧ (0 ≤ i20 ∧ i20 < n6) ∧
 ∃ (l10 : Bs), h_3.cell b2 ((o2 + (i20).toNat * 5) + 1) = some (vS l10) ∧
 Tri Tryz.prog 27 [vS l10] h_3 fun v_3 h_4 =>
 ∃ (i28 : Int), v_3 = vI i28 ∧
 br (i28 == i5)
 (∃ (b3 o3 : Nat), a6 = some ⟨b3, o3, none⟩ ∧ (0 ≤ i20 ∧ i20 < n6) ∧
 ∃ (i29 : Int) (l11 : Bs) (i30 : Int) (l12 : Bs) (i31 : Int), h_4.row b3 (o3 + (i20).toNat * 5) [vI i29, vS l11, vI i30, vS l12, vI i31] ∧
 Tri Tryz.prog 142 [vA [vL a6 n6 dxk6, vI (IntKind.i64.wrap (i20 + 1)), vI i21, vI i22, vI i23], vI (IntKind.i64.wrap (i5 + 1))] h_4 fun v_4 h_5 =>
 ∃ (a8 : OA) (n8 k8 : Nat) (i32 i33 i34 i35 i36 : Int) (l13 l14 : Bs) (i37 : Int) (l15 : Bs) (a9 : OA) (n9 k9 : Nat) (i38 : Int), v_4 = vT [vA [vL a8 n8 k8, vI i32, vI i33, vI i34, vI i35], vA [vI i36, vS l13, vS l14, vI i37, vS l15, vL a9 n9 k9, vI i38]] ∧
 ∀ (b4 : Nat), h_5 b4 = none → ∀ (h_6 : PHeap), h_6 = h_5.put b4 (.cells ⟨[vI i24, vS l7, vS l8, vI i25, vS l9, vL a7 n7 k7, vI i26, vI i36, vS l13, vS l14, vI i37, vS l15, vL a9 n9 k9, vI i38]⟩ 186) →
 ∃ (m3 : Nat), m3 < m1 ∧ I_1 m3 a8 n8 k8 i32 i33 i34 i35 (7 : Int) l11 [] (0 : Int) [] (ad b4 0) 2 2 i31 h_6 ∧
 tv [vI 0, vS [], vS [], vI 0, vS [], vL none 0 0, vI 0] ∧ tv [vL none 0 0, vI 0, vI 0, vI 0, vI 0] ∧ True)
 ((tv [vI i24, vS l7, vS l8, vI i25, vS l9, vL a7 n7 k7, vI i26]) ∧
 Q (vT [vA [vL a6 n6 dxk6, vI i20, vI i21, vI i22, vI i23], vA [vI i24, vS l7, vS l8, vI i25, vS l9, vL a7 n7 k7, vI i26]]) h_4))
 ((tv [vI i24, vS l7, vS l8, vI i25, vS l9, vL a7 n7 k7, vI i26]) ∧
 Q (vT [vA [vL a6 n6 dxk6, vI i20, vI i21, vI i22, vI i23], vA [vI i24, vS l7, vS l8, vI i25, vS l9, vL a7 n7 k7, vI i26]]) h_3))
 ((tv [vI i24, vS l7, vS l8, vI i25, vS l9, vL a7 n7 k7, vI i26]) ∧
 Q (vT [vA [vL a6 n6 dxk6, vI i20, vI i21, vI i22, vI i23], vA [vI i24, vS l7, vS l8, vI i25, vS l9, vL a7 n7 k7, vI i26]]) h_3))
theorem T142 {a1 : OA} {n1 : Nat} {dxk1 : Nat} {i1 : Int} {i2 : Int} {i3 : Int} {i4 : Int} {i5 : Int} {h : PHeap} {Q : Value → PHeap → Prop} (hR : R142 a1 n1 dxk1 i1 i2 i3 i4 i5 h Q) : Tri Tryz.prog 142 [vA [vL a1 n1 dxk1, vI i1, vI i2, vI i3, vI i4], vI i5] h Q :=
 tri_of_dn mixed Tryz.func142 rfl (by kernel_rfl) low142 (rs := [.cell 4 true 5, .cell 5 true 7]) (by kernel_rfl) rfl (Eq.mpr (by kernel_rfl : dnF Tryz.prog Tryz.f142.ntmps d142 [.cell 4 true 5, .cell 5 true 7] [vA [vL a1 n1 dxk1, vI i1, vI i2, vI i3, vI i4], vI i5] h Q = R142 a1 n1 dxk1 i1 i2 i3 i4 i5 h Q) hR)
noncomputable def d143 : DCode := up ⟨[(5, .l dxk1), (6, .c (.one true dxk1)), (8, .l dxk1), (9, .c (.tup [(true, dxk1), (true, dxk6)])), (12, .l dxk1), (13, .c (.one true dxk1)), (14, .l dxk6)], [], []⟩ (low Tryz.prog (fun _ => false) (Tryz.f143.body.getD .skip))
theorem low143 : low Tryz.prog (fun _ => false) (Tryz.f143.body.getD .skip) = some (eC d143) := by kernel_rfl
def R143 (a1 : OA) (n1 : Nat) (dxk1 : Nat) (i1 : Int) (i2 : Int) (i3 : Int) (i4 : Int) (h : PHeap) (Q : Value → PHeap → Prop) : Prop :=
 Tri Tryz.prog 50 [vA [vL a1 n1 dxk1, vI i1, vI i2, vI i3, vI i4], vS [40]] h fun v_1 h_1 =>
 ∃ (a2 : OA) (n2 dxk2 : Nat) (i5 i6 i7 i8 : Int), v_1 = vA [vL a2 n2 dxk2, vI i5, vI i6, vI i7, vI i8] ∧
 Tri Tryz.prog 142 [vA [vL a2 n2 dxk2, vI i5, vI i6, vI i7, vI i8], vI 1] h_1 fun v_2 h_2 =>
 ∃ (a3 : OA) (n3 dxk3 : Nat) (i9 i10 i11 i12 i13 : Int) (l1 l2 : Bs) (i14 : Int) (l3 : Bs) (a4 : OA) (n4 dxk4 : Nat) (i15 : Int), v_2 = vT [vA [vL a3 n3 dxk3, vI i9, vI i10, vI i11, vI i12], vA [vI i13, vS l1, vS l2, vI i14, vS l3, vL a4 n4 dxk4, vI i15]] ∧
 Tri Tryz.prog 50 [vA [vL a3 n3 dxk3, vI i9, vI i10, vI i11, vI i12], vS [41]] h_2 fun v_3 h_3 =>
 ∃ (a5 : OA) (n5 dxk5 : Nat) (i16 i17 i18 i19 : Int), v_3 = vA [vL a5 n5 dxk5, vI i16, vI i17, vI i18, vI i19] ∧
 (tv [vI i13, vS l1, vS l2, vI i14, vS l3, vL a4 n4 dxk4, vI i15]) ∧
 (tv [vI i13, vS l1, vS l2, vI i14, vS l3, vL a4 n4 dxk4, vI i15]) ∧
 Q (vT [vA [vL a5 n5 dxk5, vI i16, vI i17, vI i18, vI i19], vA [vI i13, vS l1, vS l2, vI i14, vS l3, vL a4 n4 dxk4, vI i15]]) h_3
theorem T143 {a1 : OA} {n1 : Nat} {dxk1 : Nat} {i1 : Int} {i2 : Int} {i3 : Int} {i4 : Int} {h : PHeap} {Q : Value → PHeap → Prop} (hR : R143 a1 n1 dxk1 i1 i2 i3 i4 h Q) : Tri Tryz.prog 143 [vA [vL a1 n1 dxk1, vI i1, vI i2, vI i3, vI i4]] h Q :=
 tri_of_dn mixed Tryz.func143 rfl (by kernel_rfl) low143 (rs := [.cell 2 true 5, .cell 3 true 7]) (by kernel_rfl) rfl (Eq.mpr (by kernel_rfl : dnF Tryz.prog Tryz.f143.ntmps d143 [.cell 2 true 5, .cell 3 true 7] [vA [vL a1 n1 dxk1, vI i1, vI i2, vI i3, vI i4]] h Q = R143 a1 n1 dxk1 i1 i2 i3 i4 h Q) hR)
abbrev o144_4 : Op := .call { callee := (.builtin .append), args := #[(.tmp 21), (.tmp 23)], argTypes := #[172, 172] }
abbrev o144_7 : Op := .call { callee := (.builtin .append), args := #[(.tmp 34), (.tmp 36)], argTypes := #[172, 172] }
noncomputable def d144 : DCode := up ⟨[(6, .l dxk1), (7, .c (.one true dxk1)), (8, .l dxk1), (9, .c (.one false [.bool])), (13, .l [qi]), (17, .l dxk1), (18, .c (.tup [(true, dxk1), (true, dxk6)])), (22, .l dxk6), (24, .c (.one false [.slice])), (25, .l dxk1), (26, .c (.one false [.bool])), (27, .l dxk1), (28, .c (.one true dxk1)), (30, .l dxk1), (31, .c (.tup [(true, dxk1), (true, dxk6)])), (35, .l dxk6), (37, .c (.one false [.slice])), (38, .l dxk1), (39, .c (.one true dxk1))], [], [(25, 14, [(4, .slice)], [(1, dxk1), (5, dxk6)])]⟩ (low Tryz.prog (fun _ => false) (Tryz.f144.body.getD .skip))
theorem low144 : low Tryz.prog (fun _ => false) (Tryz.f144.body.getD .skip) = some (eC d144) := by kernel_rfl
def R144 (a1 : OA) (n1 : Nat) (dxk1 : Nat) (i1 : Int) (i2 : Int) (i3 : Int) (i4 : Int) (h : PHeap) (Q : Value → PHeap → Prop) : Prop :=
 Tri Tryz.prog 50 [vA [vL a1 n1 dxk1, vI i1, vI i2, vI i3, vI i4], vS [40]] h fun v_1 h_1 =>
 ∃ (a2 : OA) (n2 dxk2 : Nat) (i5 i6 i7 i8 : Int), v_1 = vA [vL a2 n2 dxk2, vI i5, vI i6, vI i7, vI i8] ∧
 Tri Tryz.prog 49 [vA [vL a2 n2 dxk2, vI i5, vI i6, vI i7, vI i8], vS [41]] h_1 fun v_2 h_2 =>
 ∃ (c1 : Bool), v_2 = vB c1 ∧
 br (!c1)
 (br (i7 == 0)
 (Tri Tryz.prog 142 [vA [vL a2 n2 dxk2, vI i5, vI i6, vI i7, vI i8], vI 1] h_2 fun v_3 h_3 =>
 ∃ (a3 : OA) (n3 dxk3 : Nat) (i9 i10 i11 i12 i13 : Int) (l1 l2 : Bs) (i14 : Int) (l3 : Bs) (a4 : OA) (n4 dxk4 : Nat) (i15 : Int), v_3 = vT [vA [vL a3 n3 dxk3, vI i9, vI i10, vI i11, vI i12], vA [vI i13, vS l1, vS l2, vI i14, vS l3, vL a4 n4 dxk4, vI i15]] ∧
 ∀ (b1 : Nat), h_3 b1 = none → ∀ (h_4 : PHeap), h_4 = h_3.put b1 (.cells ⟨[vI i13, vS l1, vS l2, vI i14, vS l3, vL a4 n4 dxk4, vI i15]⟩ 186) →
 Raw Tryz.prog (execOp (rho [(21, vL none 0 0), (23, vL (ad b1 0) 1 1)]) (mkO o144_4 172)) h_4 fun v_4 h_5 =>
 ∃ (a5 : OA) (n5 dxk5 : Nat), v_4 = vL a5 n5 dxk5 ∧
 ∃ (I_1 : Nat → OA → Nat → Nat → OA → Nat → Nat → Int → Int → Int → Int → Int → Bs → Bs → Int → Bs → OA → Nat → Nat → Int → PHeap → Prop), (∃ (m2 : Nat), I_1 m2 a5 n5 dxk5 a3 n3 dxk3 i9 i10 i11 i12 i13 l1 l2 i14 l3 a4 n4 dxk4 i15 h_5) ∧
 ∀ (m1 : Nat) (a6 : OA) (n6 : Nat) (dxk6 : Nat) (a7 : OA) (n7 : Nat) (k7 : Nat) (i16 : Int) (i17 : Int) (i18 : Int) (i19 : Int) (i20 : Int) (l4 : Bs) (l5 : Bs) (i21 : Int) (l6 : Bs) (a8 : OA) (n8 : Nat) (k8 : Nat) (i22 : Int) (h_6 : PHeap), I_1 m1 a6 n6 dxk6 a7 n7 k7 i16 i17 i18 i19 i20 l4 l5 i21 l6 a8 n8 k8 i22 h_6 →
 Tri Tryz.prog 49 [vA [vL a7 n7 k7, vI i16, vI i17, vI i18, vI i19], vS [44]] h_6 fun v_5 h_7 =>
 ∃ (c2 : Bool), v_5 = vB c2 ∧
 br c2
 (Tri Tryz.prog 50 [vA [vL a7 n7 k7, vI i16, vI i17, vI i18, vI i19], vS [44]] h_7 fun v_6 h_8 =>
 ∃ (a9 : OA) (n9 k9 : Nat) (i23 i24 i25 i26 : Int), v_6 = vA [vL a9 n9 k9, vI i23, vI i24, vI i25, vI i26] ∧
 Tri Tryz.prog 142 [vA [vL a9 n9 k9, vI i23, vI i24, vI i25, vI i26], vI 1] h_8 fun v_7 h_9 =>
 ∃ (a10 : OA) (n10 k10 : Nat) (i27 i28 i29 i30 i31 : Int) (l7 l8 : Bs) (i32 : Int) (l9 : Bs) (a11 : OA) (n11 k11 : Nat) (i33 : Int), v_7 = vT [vA [vL a10 n10 k10, vI i27, vI i28, vI i29, vI i30], vA [vI i31, vS l7, vS l8, vI i32, vS l9, vL a11 n11 k11, vI i33]] ∧
 ∀ (b2 : Nat), h_9 b2 = none → ∀ (h_10 : PHeap), h_10 = h_9.put b2 (.cells ⟨[vI i31, vS l7, vS l8, vI i32, vS l9, vL a11 n11 k11, vI i33]⟩ 186) →
 Raw Tryz.prog (execOp (rho [(34, vL a6 n6 dxk6), (36, vL (ad b2 0) 1 1)]) (mkO o144_7 172)) h_10 fun v_8 h_11 =>
 ∃ (a12 : OA) (n12 k12 : Nat), v_8 = vL a12 n12 k12 ∧
 ∃ (m3 : Nat), m3 < m1 ∧ I_1 m3 a12 n12 k12 a10 n10 k10 i27 i28 i29 i30 i31 l7 l8 i32 l9 a11 n11 k11 i33 h_11 ∧
 tv [vL none 0 0, vI 0, vI 0, vI 0, vI 0] ∧ True)
 (Tri Tryz.prog 50 [vA [vL a7 n7 k7, vI i16, vI i17, vI i18, vI i19], vS [41]] h_7 fun v_9 h_12 =>
 ∃ (a13 : OA) (n13 k13 : Nat) (i34 i35 i36 i37 : Int), v_9 = vA [vL a13 n13 k13, vI i34, vI i35, vI i36, vI i37] ∧
 Q (vT [vA [vL a13 n13 k13, vI i34, vI i35, vI i36, vI i37], vL a6 n6 dxk6]) h_12))
 (Tri Tryz.prog 50 [vA [vL a2 n2 dxk2, vI i5, vI i6, vI i7, vI i8], vS [41]] h_2 fun v_10 h_13 =>
 ∃ (a14 : OA) (n14 k14 : Nat) (i38 i39 i40 i41 : Int), v_10 = vA [vL a14 n14 k14, vI i38, vI i39, vI i40, vI i41] ∧
 Q (vT [vA [vL a14 n14 k14, vI i38, vI i39, vI i40, vI i41], vL none 0 0]) h_13))
 (Tri Tryz.prog 50 [vA [vL a2 n2 dxk2, vI i5, vI i6, vI i7, vI i8], vS [41]] h_2 fun v_11 h_14 =>
 ∃ (a15 : OA) (n15 k15 : Nat) (i42 i43 i44 i45 : Int), v_11 = vA [vL a15 n15 k15, vI i42, vI i43, vI i44, vI i45] ∧
 Q (vT [vA [vL a15 n15 k15, vI i42, vI i43, vI i44, vI i45], vL none 0 0]) h_14)
theorem T144 {a1 : OA} {n1 : Nat} {dxk1 : Nat} {i1 : Int} {i2 : Int} {i3 : Int} {i4 : Int} {h : PHeap} {Q : Value → PHeap → Prop} (hR : R144 a1 n1 dxk1 i1 i2 i3 i4 h Q) : Tri Tryz.prog 144 [vA [vL a1 n1 dxk1, vI i1, vI i2, vI i3, vI i4]] h Q :=
 tri_of_dn mixed Tryz.func144 rfl (by kernel_rfl) low144 (rs := [.cell 2 true 5, .tmp 3]) (by kernel_rfl) rfl (Eq.mpr (by kernel_rfl : dnF Tryz.prog Tryz.f144.ntmps d144 [.cell 2 true 5, .tmp 3] [vA [vL a1 n1 dxk1, vI i1, vI i2, vI i3, vI i4]] h Q = R144 a1 n1 dxk1 i1 i2 i3 i4 h Q) hR)
noncomputable def d174 : DCode := up ⟨[(6, .l dxk1), (7, .c (.one false [.bool])), (9, .l dxk1), (10, .c (.one false [.bool])), (13, .l dxk1), (14, .c (.one false [.bool])), (17, .l [.slice]), (19, .l [qi]), (21, .l dxk4), (23, .l [qi]), (27, .l dxk1), (28, .c (.tup [(true, dxk1), (true, dxk6)])), (31, .l dxk1), (33, .l [.str]), (34, .l dxk6), (37, .l [qi]), (39, .l dxk1), (40, .c (.tup [(true, dxk1), (true, dxk6)]))], [], []⟩ (low Tryz.prog (fun _ => false) (Tryz.f174.body.getD .skip))
theorem low174 : low Tryz.prog (fun _ => false) (Tryz.f174.body.getD .skip) = some (eC d174) := by kernel_rfl
def R174 (a1 : OA) (n1 : Nat) (dxk1 : Nat) (i1 : Int) (i2 : Int) (i3 : Int) (i4 : Int) (h : PHeap) (Q : Value → PHeap → Prop) : Prop :=
 Tri Tryz.prog 49 [vA [vL a1 n1 dxk1, vI i1, vI i2, vI i3, vI i4], vS [45]] h fun v_1 h_1 =>
 ∃ (c1 : Bool), v_1 = vB c1 ∧
 br c1
 (∃ (b1 o1 : Nat), a1 = some ⟨b1, o1, none⟩ ∧ (0 ≤ i1 ∧ i1 < n1) ∧
 ∃ (i5 : Int) (l1 : Bs) (i6 : Int) (l2 : Bs) (i7 : Int), h_1.row b1 (o1 + (i1).toNat * 5) [vI i5, vS l1, vI i6, vS l2, vI i7] ∧
 Tri Tryz.prog 174 [vA [vL a1 n1 dxk1, vI (IntKind.i64.wrap (i1 + 1)), vI i2, vI i3, vI i4]] h_1 fun v_2 h_2 =>
 ∃ (a2 : OA) (n2 dxk2 : Nat) (i8 i9 i10 i11 i12 : Int) (l3 l4 : Bs) (i13 : Int) (l5 : Bs) (a3 : OA) (n3 dxk3 : Nat) (i14 : Int), v_2 = vT [vA [vL a2 n2 dxk2, vI i8, vI i9, vI i10, vI i11], vA [vI i12, vS l3, vS l4, vI i13, vS l5, vL a3 n3 dxk3, vI i14]] ∧
 (∀ (b2 : Nat), h_2 b2 = none → ∀ (h_3 : PHeap), h_3 = h_2.put b2 (.cells ⟨[vI i12, vS l3, vS l4, vI i13, vS l5, vL a3 n3 dxk3, vI i14]⟩ 186) →
 (tv [vI i7]) ∧
 (tv [vS l1]) ∧
 (tv [vL a2 n2 dxk2, vI i8, vI i9, vI i10, vI i11]) ∧
 (tv [vI i7]) ∧
 (tv [vS l1]) ∧
 Q (vT [vA [vL a2 n2 dxk2, vI i8, vI i9, vI i10, vI i11], vA [vI 6, vS l1, vS [], vI 0, vS [], vL (ad b2 0) 1 1, vI i7]]) h_3) ∧
 ((tv [vI i7]) ∧
 (tv [vI i12, vS l3, vS l4, vI i13, vS l5, vL a3 n3 dxk3, vI i14]) ∧
 (tv [vS l1]) ∧
 ∀ (b3 : Nat), h_2 b3 = none → ∀ (h_4 : PHeap), h_4 = h_2.put b3 (.cells ⟨[vI i12, vS l3, vS l4, vI i13, vS l5, vL a3 n3 dxk3, vI i14]⟩ 186) →
 (tv [vI i7]) ∧
 (tv [vS l1]) ∧
 Q (vT [vA [vL a2 n2 dxk2, vI i8, vI i9, vI i10, vI i11], vA [vI 6, vS l1, vS [], vI 0, vS [], vL (ad b3 0) 1 1, vI i7]]) h_4))
 (Tri Tryz.prog 49 [vA [vL a1 n1 dxk1, vI i1, vI i2, vI i3, vI i4], vS [33]] h_1 fun v_3 h_5 =>
 ∃ (c2 : Bool), v_3 = vB c2 ∧
 br c2
 (∃ (b4 o2 : Nat), a1 = some ⟨b4, o2, none⟩ ∧ (0 ≤ i1 ∧ i1 < n1) ∧
 ∃ (i15 : Int) (l6 : Bs) (i16 : Int) (l7 : Bs) (i17 : Int), h_5.row b4 (o2 + (i1).toNat * 5) [vI i15, vS l6, vI i16, vS l7, vI i17] ∧
 Tri Tryz.prog 174 [vA [vL a1 n1 dxk1, vI (IntKind.i64.wrap (i1 + 1)), vI i2, vI i3, vI i4]] h_5 fun v_4 h_6 =>
 ∃ (a4 : OA) (n4 dxk4 : Nat) (i18 i19 i20 i21 i22 : Int) (l8 l9 : Bs) (i23 : Int) (l10 : Bs) (a5 : OA) (n5 dxk5 : Nat) (i24 : Int), v_4 = vT [vA [vL a4 n4 dxk4, vI i18, vI i19, vI i20, vI i21], vA [vI i22, vS l8, vS l9, vI i23, vS l10, vL a5 n5 dxk5, vI i24]] ∧
 (∀ (b5 : Nat), h_6 b5 = none → ∀ (h_7 : PHeap), h_7 = h_6.put b5 (.cells ⟨[vI i22, vS l8, vS l9, vI i23, vS l10, vL a5 n5 dxk5, vI i24]⟩ 186) →
 (tv [vI i17]) ∧
 (tv [vS l6]) ∧
 (tv [vL a4 n4 dxk4, vI i18, vI i19, vI i20, vI i21]) ∧
 (tv [vI i17]) ∧
 (tv [vS l6]) ∧
 Q (vT [vA [vL a4 n4 dxk4, vI i18, vI i19, vI i20, vI i21], vA [vI 6, vS l6, vS [], vI 0, vS [], vL (ad b5 0) 1 1, vI i17]]) h_7) ∧
 ((tv [vI i17]) ∧
 (tv [vI i22, vS l8, vS l9, vI i23, vS l10, vL a5 n5 dxk5, vI i24]) ∧
 (tv [vS l6]) ∧
 ∀ (b6 : Nat), h_6 b6 = none → ∀ (h_8 : PHeap), h_8 = h_6.put b6 (.cells ⟨[vI i22, vS l8, vS l9, vI i23, vS l10, vL a5 n5 dxk5, vI i24]⟩ 186) →
 (tv [vI i17]) ∧
 (tv [vS l6]) ∧
 Q (vT [vA [vL a4 n4 dxk4, vI i18, vI i19, vI i20, vI i21], vA [vI 6, vS l6, vS [], vI 0, vS [], vL (ad b6 0) 1 1, vI i17]]) h_8))
 (Tri Tryz.prog 49 [vA [vL a1 n1 dxk1, vI i1, vI i2, vI i3, vI i4], vS [126]] h_5 fun v_5 h_9 =>
 ∃ (c3 : Bool), v_5 = vB c3 ∧
 br c3
 (∃ (b7 o3 : Nat), a1 = some ⟨b7, o3, none⟩ ∧ (0 ≤ i1 ∧ i1 < n1) ∧
 ∃ (i25 : Int) (l11 : Bs) (i26 : Int) (l12 : Bs) (i27 : Int), h_9.row b7 (o3 + (i1).toNat * 5) [vI i25, vS l11, vI i26, vS l12, vI i27] ∧
 Tri Tryz.prog 174 [vA [vL a1 n1 dxk1, vI (IntKind.i64.wrap (i1 + 1)), vI i2, vI i3, vI i4]] h_9 fun v_6 h_10 =>
 ∃ (a6 : OA) (n6 dxk6 : Nat) (i28 i29 i30 i31 i32 : Int) (l13 l14 : Bs) (i33 : Int) (l15 : Bs) (a7 : OA) (n7 k7 : Nat) (i34 : Int), v_6 = vT [vA [vL a6 n6 dxk6, vI i28, vI i29, vI i30, vI i31], vA [vI i32, vS l13, vS l14, vI i33, vS l15, vL a7 n7 k7, vI i34]] ∧
 (∀ (b8 : Nat), h_10 b8 = none → ∀ (h_11 : PHeap), h_11 = h_10.put b8 (.cells ⟨[vI i32, vS l13, vS l14, vI i33, vS l15, vL a7 n7 k7, vI i34]⟩ 186) →
 (tv [vI i27]) ∧
 (tv [vS l11]) ∧
 (tv [vL a6 n6 dxk6, vI i28, vI i29, vI i30, vI i31]) ∧
 (tv [vI i27]) ∧
 (tv [vS l11]) ∧
 Q (vT [vA [vL a6 n6 dxk6, vI i28, vI i29, vI i30, vI i31], vA [vI 6, vS l11, vS [], vI 0, vS [], vL (ad b8 0) 1 1, vI i27]]) h_11) ∧
 ((tv [vI i27]) ∧
 (tv [vI i32, vS l13, vS l14, vI i33, vS l15, vL a7 n7 k7, vI i34]) ∧
 (tv [vS l11]) ∧
 ∀ (b9 : Nat), h_10 b9 = none → ∀ (h_12 : PHeap), h_12 = h_10.put b9 (.cells ⟨[vI i32, vS l13, vS l14, vI i33, vS l15, vL a7 n7 k7, vI i34]⟩ 186) →
 (tv [vI i27]) ∧
 (tv [vS l11]) ∧
 Q (vT [vA [vL a6 n6 dxk6, vI i28, vI i29, vI i30, vI i31], vA [vI 6, vS l11, vS [], vI 0, vS [], vL (ad b9 0) 1 1, vI i27]]) h_12))
 (Tri Tryz.prog 194 [vA [vL a1 n1 dxk1, vI i1, vI i2, vI i3, vI i4]] h_9 fun v_7 h_13 =>
 ∃ (a8 : OA) (n8 k8 : Nat) (i35 i36 i37 i38 i39 : Int) (l16 l17 : Bs) (i40 : Int) (l18 : Bs) (a9 : OA) (n9 k9 : Nat) (i41 : Int), v_7 = vT [vA [vL a8 n8 k8, vI i35, vI i36, vI i37, vI i38], vA [vI i39, vS l16, vS l17, vI i40, vS l18, vL a9 n9 k9, vI i41]] ∧
 Q (vT [vA [vL a8 n8 k8, vI i35, vI i36, vI i37, vI i38], vA [vI i39, vS l16, vS l17, vI i40, vS l18, vL a9 n9 k9, vI i41]]) h_13)))
theorem T174 {a1 : OA} {n1 : Nat} {dxk1 : Nat} {i1 : Int} {i2 : Int} {i3 : Int} {i4 : Int} {h : PHeap} {Q : Value → PHeap → Prop} (hR : R174 a1 n1 dxk1 i1 i2 i3 i4 h Q) : Tri Tryz.prog 174 [vA [vL a1 n1 dxk1, vI i1, vI i2, vI i3, vI i4]] h Q :=
 tri_of_dn mixed Tryz.func174 rfl (by kernel_rfl) low174 (rs := [.cell 2 true 5, .cell 3 true 7]) (by kernel_rfl) rfl (Eq.mpr (by kernel_rfl : dnF Tryz.prog Tryz.f174.ntmps d174 [.cell 2 true 5, .cell 3 true 7] [vA [vL a1 n1 dxk1, vI i1, vI i2, vI i3, vI i4]] h Q = R174 a1 n1 dxk1 i1 i2 i3 i4 h Q) hR)
noncomputable def d194 : DCode := up ⟨[(11, .l [.slice]), (13, .l [qi]), (15, .l dxk4), (17, .l dxk1), (18, .c (.one false [.bool])), (20, .l [qi]), (23, .l dxk1), (25, .l [qi]), (27, .l [qi]), (30, .l dxk1), (31, .c (.one false [.bool])), (33, .l [qi]), (36, .l dxk1), (38, .l [.str]), (40, .l [qi]), (43, .l dxk1), (44, .c (.one false [.bool])), (45, .l dxk1), (46, .c (.one true dxk1)), (48, .l dxk1), (49, .c (.tup [(true, dxk1), (true, dxk6)])), (52, .l dxk1), (53, .c (.one true dxk1)), (54, .l dxk6), (56, .l dxk1), (57, .c (.tup [(true, dxk1), (false, [.str]), (false, [qi])])), (61, .l dxk1), (62, .c (.one false [.bool])), (64, .l dxk1), (65, .c (.tup [(true, dxk1), (false, [.slice])])), (68, .l dxk1), (73, .l dxk1), (74, .c (.one false [.bool])), (75, .l dxk1), (76, .c (.one true dxk1)), (78, .l dxk1), (79, .c (.tup [(true, dxk1), (true, dxk6)])), (82, .l dxk1), (83, .c (.one true dxk1)), (85, .l dxk6), (89, .l dxk1)], [], []⟩ (low Tryz.prog (fun _ => false) (Tryz.f194.body.getD .skip))
theorem low194 : low Tryz.prog (fun _ => false) (Tryz.f194.body.getD .skip) = some (eC d194) := by kernel_rfl
def R194 (a1 : OA) (n1 : Nat) (dxk1 : Nat) (i1 : Int) (i2 : Int) (i3 : Int) (i4 : Int) (h : PHeap) (Q : Value → PHeap → Prop) : Prop :=
 ∃ (b1 o1 : Nat), a1 = some ⟨b1, o1, none⟩ ∧ (0 ≤ i1 ∧ i1 < n1) ∧
 ∃ (i5 : Int) (l1 : Bs) (i6 : Int) (l2 : Bs) (i7 : Int), h.row b1 (o1 + (i1).toNat * 5) [vI i5, vS l1, vI i6, vS l2, vI i7] ∧
 Tri Tryz.prog 48 [vA [vL a1 n1 dxk1, vI i1, vI i2, vI i3, vI i4], vI 2] h fun v_1 h_1 =>
 ∃ (c1 : Bool), v_1 = vB c1 ∧
 br c1
 ((tv [vI i7]) ∧
 (tv [vI i6]) ∧
 Q (vT [vA [vL a1 n1 dxk1, vI (IntKind.i64.wrap (i1 + 1)), vI i2, vI i3, vI i4], vA [vI 1, vS [], vS [], vI i6, vS [], vL none 0 0, vI i7]]) h_1)
 (Tri Tryz.prog 48 [vA [vL a1 n1 dxk1, vI i1, vI i2, vI i3, vI i4], vI 3] h_1 fun v_2 h_2 =>
 ∃ (c2 : Bool), v_2 = vB c2 ∧
 br c2
 ((tv [vI i7]) ∧
 (tv [vS l2]) ∧
 Q (vT [vA [vL a1 n1 dxk1, vI (IntKind.i64.wrap (i1 + 1)), vI i2, vI i3, vI i4], vA [vI 2, vS [], vS [], vI 0, vS l2, vL none 0 0, vI i7]]) h_2)
 (Tri Tryz.prog 49 [vA [vL a1 n1 dxk1, vI i1, vI i2, vI i3, vI i4], vS [40]] h_2 fun v_3 h_3 =>
 ∃ (c3 : Bool), v_3 = vB c3 ∧
 br c3
 (Tri Tryz.prog 50 [vA [vL a1 n1 dxk1, vI i1, vI i2, vI i3, vI i4], vS [40]] h_3 fun v_4 h_4 =>
 ∃ (a2 : OA) (n2 dxk2 : Nat) (i8 i9 i10 i11 : Int), v_4 = vA [vL a2 n2 dxk2, vI i8, vI i9, vI i10, vI i11] ∧
 Tri Tryz.prog 142 [vA [vL a2 n2 dxk2, vI i8, vI i9, vI i10, vI i11], vI 1] h_4 fun v_5 h_5 =>
 ∃ (a3 : OA) (n3 dxk3 : Nat) (i12 i13 i14 i15 i16 : Int) (l3 l4 : Bs) (i17 : Int) (l5 : Bs) (a4 : OA) (n4 dxk4 : Nat) (i18 : Int), v_5 = vT [vA [vL a3 n3 dxk3, vI i12, vI i13, vI i14, vI i15], vA [vI i16, vS l3, vS l4, vI i17, vS l5, vL a4 n4 dxk4, vI i18]] ∧
 Tri Tryz.prog 50 [vA [vL a3 n3 dxk3, vI i12, vI i13, vI i14, vI i15], vS [41]] h_5 fun v_6 h_6 =>
 ∃ (a5 : OA) (n5 dxk5 : Nat) (i19 i20 i21 i22 : Int), v_6 = vA [vL a5 n5 dxk5, vI i19, vI i20, vI i21, vI i22] ∧
 (tv [vI i16, vS l3, vS l4, vI i17, vS l5, vL a4 n4 dxk4, vI i18]) ∧
 (tv [vI i16, vS l3, vS l4, vI i17, vS l5, vL a4 n4 dxk4, vI i18]) ∧
 Q (vT [vA [vL a5 n5 dxk5, vI i19, vI i20, vI i21, vI i22], vA [vI i16, vS l3, vS l4, vI i17, vS l5, vL a4 n4 dxk4, vI i18]]) h_6)
 (Tri Tryz.prog 51 [vA [vL a1 n1 dxk1, vI i1, vI i2, vI i3, vI i4]] h_3 fun v_7 h_7 =>
 ∃ (a6 : OA) (n6 dxk6 : Nat) (i23 i24 i25 i26 : Int) (l6 : Bs) (i27 : Int), v_7 = vT [vA [vL a6 n6 dxk6, vI i23, vI i24, vI i25, vI i26], vS l6, vI i27] ∧
 Tri Tryz.prog 49 [vA [vL a6 n6 dxk6, vI i23, vI i24, vI i25, vI i26], vS [40]] h_7 fun v_8 h_8 =>
 ∃ (c4 : Bool), v_8 = vB c4 ∧
 br c4
 (Tri Tryz.prog 144 [vA [vL a6 n6 dxk6, vI i23, vI i24, vI i25, vI i26]] h_8 fun v_9 h_9 =>
 ∃ (a7 : OA) (n7 k7 : Nat) (i28 i29 i30 i31 : Int) (a8 : OA) (n8 k8 : Nat), v_9 = vT [vA [vL a7 n7 k7, vI i28, vI i29, vI i30, vI i31], vL a8 n8 k8] ∧
 Q (vT [vA [vL a7 n7 k7, vI i28, vI i29, vI i30, vI i31], vA [vI 5, vS [], vS l6, vI 0, vS [], vL a8 n8 k8, vI i27]]) h_9)
 (Tri Tryz.prog 49 [vA [vL a6 n6 dxk6, vI i23, vI i24, vI i25, vI i26], vS [91]] h_8 fun v_10 h_10 =>
 ∃ (c5 : Bool), v_10 = vB c5 ∧
 br c5
 (Tri Tryz.prog 50 [vA [vL a6 n6 dxk6, vI i23, vI i24, vI i25, vI i26], vS [91]] h_10 fun v_11 h_11 =>
 ∃ (a9 : OA) (n9 k9 : Nat) (i32 i33 i34 i35 : Int), v_11 = vA [vL a9 n9 k9, vI i32, vI i33, vI i34, vI i35] ∧
 Tri Tryz.prog 142 [vA [vL a9 n9 k9, vI i32, vI i33, vI i34, vI i35], vI 1] h_11 fun v_12 h_12 =>
 ∃ (a10 : OA) (n10 k10 : Nat) (i36 i37 i38 i39 i40 : Int) (l7 l8 : Bs) (i41 : Int) (l9 : Bs) (a11 : OA) (n11 k11 : Nat) (i42 : Int), v_12 = vT [vA [vL a10 n10 k10, vI i36, vI i37, vI i38, vI i39], vA [vI i40, vS l7, vS l8, vI i41, vS l9, vL a11 n11 k11, vI i42]] ∧
 (Tri Tryz.prog 50 [vA [vL a10 n10 k10, vI i36, vI i37, vI i38, vI i39], vS [93]] h_12 fun v_13 h_13 =>
 ∃ (a12 : OA) (n12 k12 : Nat) (i43 i44 i45 i46 : Int), v_13 = vA [vL a12 n12 k12, vI i43, vI i44, vI i45, vI i46] ∧
 (tv [vI i40, vS l7, vS l8, vI i41, vS l9, vL a11 n11 k11, vI i42]) ∧
 (∀ (b2 : Nat), h_13 b2 = none → ∀ (h_14 : PHeap), h_14 = h_13.put b2 (.cells ⟨[vI i40, vS l7, vS l8, vI i41, vS l9, vL a11 n11 k11, vI i42]⟩ 186) →
 Q (vT [vA [vL a12 n12 k12, vI i43, vI i44, vI i45, vI i46], vA [vI 4, vS [], vS l6, vI 0, vS [], vL (ad b2 0) 1 1, vI i27]]) h_14) ∧
 ((tv [vI i40, vS l7, vS l8, vI i41, vS l9, vL a11 n11 k11, vI i42]) ∧
 ∀ (b3 : Nat), h_13 b3 = none → ∀ (h_15 : PHeap), h_15 = h_13.put b3 (.cells ⟨[vI i40, vS l7, vS l8, vI i41, vS l9, vL a11 n11 k11, vI i42]⟩ 186) →
 Q (vT [vA [vL a12 n12 k12, vI i43, vI i44, vI i45, vI i46], vA [vI 4, vS [], vS l6, vI 0, vS [], vL (ad b3 0) 1 1, vI i27]]) h_15)) ∧
 (∀ (b4 : Nat), h_12 b4 = none → ∀ (h_16 : PHeap), h_16 = h_12.put b4 (.cells ⟨[vI i40, vS l7, vS l8, vI i41, vS l9, vL a11 n11 k11, vI i42]⟩ 186) →
 (tv [vL a10 n10 k10, vI i36, vI i37, vI i38, vI i39]) ∧
 Tri Tryz.prog 50 [vA [vL a10 n10 k10, vI i36, vI i37, vI i38, vI i39], vS [93]] h_16 fun v_14 h_17 =>
 ∃ (a13 : OA) (n13 k13 : Nat) (i47 i48 i49 i50 : Int), v_14 = vA [vL a13 n13 k13, vI i47, vI i48, vI i49, vI i50] ∧
 Q (vT [vA [vL a13 n13 k13, vI i47, vI i48, vI i49, vI i50], vA [vI 4, vS [], vS l6, vI 0, vS [], vL (ad b4 0) 1 1, vI i27]]) h_17))
 (Q (vT [vA [vL a6 n6 dxk6, vI i23, vI i24, vI i25, vI i26], vA [vI 3, vS [], vS l6, vI 0, vS [], vL none 0 0, vI i27]]) h_10)))))
theorem T194 {a1 : OA} {n1 : Nat} {dxk1 : Nat} {i1 : Int} {i2 : Int} {i3 : Int} {i4 : Int} {h : PHeap} {Q : Value → PHeap → Prop} (hR : R194 a1 n1 dxk1 i1 i2 i3 i4 h Q) : Tri Tryz.prog 194 [vA [vL a1 n1 dxk1, vI i1, vI i2, vI i3, vI i4]] h Q :=
 tri_of_dn mixed Tryz.func194 rfl (by kernel_rfl) low194 (rs := [.cell 2 true 5, .cell 3 true 7]) (by kernel_rfl) rfl (Eq.mpr (by kernel_rfl : dnF Tryz.prog Tryz.f194.ntmps d194 [.cell 2 true 5, .cell 3 true 7] [vA [vL a1 n1 dxk1, vI i1, vI i2, vI i3, vI i4]] h Q = R194 a1 n1 dxk1 i1 i2 i3 i4 h Q) hR)
end Go.Proofs.D
namespace Go.Proofs.D
open Go Go.Den Go.Sx
set_option maxRecDepth 100000
attribute [local irreducible] IntKind.wrap Tri marks words
def levT : List (List Bytes) := [[[124, 124]], [[38, 38]], [[124]], [[94]], [[38]], [[61, 61], [33, 61]], [[60], [60, 61], [62], [62, 61]], [[60, 60], [62, 62]], [[43], [45]], [[42], [47], [37]]]
theorem levT_ok : ∀ (i : Fin 10) (j : Fin (levT[i.1]'i.2).length), levelS ((levT[i.1]'i.2)[j.1]'j.2) = i.1 + 1 := by decide
theorem levT_at {n k : Nat} {row : List Bytes} {l : Bytes} (h1 : levT[n]? = some row) (h2 : row[k]? = some l) : levelS l = n + 1 := by
 obtain ⟨hn, e1⟩ := List.getElem?_eq_some_iff.1 h1
 subst e1
 obtain ⟨hk, e2⟩ := List.getElem?_eq_some_iff.1 h2
 subst e2
 exact levT_ok ⟨n, hn⟩ ⟨k, hk⟩
theorem levT_none {op : Bytes} (h : ∀ n, n < 10 → ∀ row, levT[n]? = some row → op ∉ row) : levelS op = 0 := by
 have e : ∀ n row l, n < 10 → levT[n]? = some row → l ∈ row → (op == l) = false := fun n row l hn hr hl => by
  cases hh : op == l with
  | false => rfl
  | true =>
    have : op = l := by simpa using hh
    exact absurd (this ▸ hl) (h n hn row hr)
 have e0 := e 0 _ [124, 124] (by decide) rfl (by decide)
 have e1 := e 1 _ [38, 38] (by decide) rfl (by decide)
 have e2 := e 2 _ [124] (by decide) rfl (by decide)
 have e3 := e 3 _ [94] (by decide) rfl (by decide)
 have e4 := e 4 _ [38] (by decide) rfl (by decide)
 have e5 := e 5 _ [61, 61] (by decide) rfl (by decide)
 have e6 := e 5 _ [33, 61] (by decide) rfl (by decide)
 have e7 := e 6 _ [60] (by decide) rfl (by decide)
 have e8 := e 6 _ [60, 61] (by decide) rfl (by decide)
 have e9 := e 6 _ [62] (by decide) rfl (by decide)
 have ea := e 6 _ [62, 61] (by decide) rfl (by decide)
 have eb := e 7 _ [60, 60] (by decide) rfl (by decide)
 have ec := e 7 _ [62, 62] (by decide) rfl (by decide)
 have ed := e 8 _ [43] (by decide) rfl (by decide)
 have ee := e 8 _ [45] (by decide) rfl (by decide)
 have ef := e 9 _ [42] (by decide) rfl (by decide)
 have eg := e 9 _ [47] (by decide) rfl (by decide)
 have eh := e 9 _ [37] (by decide) rfl (by decide)
 simp only [levelS, e0, e1, e2, e3, e4, e5, e6, e7, e8, e9, ea, eb, ec, ed, ee, ef, eg, eh]; rfl
def StrB (h : PHeap) (b : Nat) (L : List Bytes) : Prop := ∀ (k : Nat) (l : Bytes), L[k]? = some l → h.cell b k = some (vS l)
theorem StrB.put {h h1 : PHeap} {b : Nat} {L : List Bytes} {t : TypeId} (hh : h1 = h.put b (.cells ⟨L.map fun l => vS l⟩ t)) : StrB h1 b L := fun k l hk => by
 rw [cell_of (Put.at hh), List.getElem?_map, hk]; rfl
theorem StrB.ext {h h' : PHeap} {b : Nat} {L : List Bytes} (x : Ext h h') (hs : StrB h b L) : StrB h' b L := fun k l hk => cell_ext (fun ob => x b ob) (hs k l hk)
theorem level_r (op : Bytes) (h : PHeap) : Tri Tryz.prog 27 [vS op] h fun v h' => v = vI (levelS op) ∧ Ext h h' := by
 refine T27 ?_
 unfold R27
 intro b1 hb1 h1 hh1 b2 hb2 h2 hh2 b3 hb3 h3 hh3 b4 hb4 h4 hh4 b5 hb5 h5 hh5 b6 hb6 h6 hh6 b7 hb7 h7 hh7 b8 hb8 h8 hh8 b9 hb9 h9 hh9 b10 hb10 h10 hh10 b11 hb11 h11 hh11
 have x11 := Put.ext hh11 hb11
 have x10 := (Put.ext hh10 hb10).trans x11
 have x9 := (Put.ext hh9 hb9).trans x10
 have x8 := (Put.ext hh8 hb8).trans x9
 have x7 := (Put.ext hh7 hb7).trans x8
 have x6 := (Put.ext hh6 hb6).trans x7
 have x5 := (Put.ext hh5 hb5).trans x6
 have x4 := (Put.ext hh4 hb4).trans x5
 have x3 := (Put.ext hh3 hb3).trans x4
 have x2 := (Put.ext hh2 hb2).trans x3
 have x1 := (Put.ext hh1 hb1).trans x2
 have hrow : ∀ n, n < 10 → ∃ b row, levT[n]? = some row ∧ h11.cell b11 n = some (vL (ad b 0) row.length row.length) ∧ row.length ≤ 4 ∧ StrB h11 b row := by
  intro n hn
  have hc : ∀ o, h11.cell b11 o = _ := fun o => cell_of (Put.at hh11) o
  have hcase : n = 0 ∨ n = 1 ∨ n = 2 ∨ n = 3 ∨ n = 4 ∨ n = 5 ∨ n = 6 ∨ n = 7 ∨ n = 8 ∨ n = 9 := by omega
  rcases hcase with rfl | rfl | rfl | rfl | rfl | rfl | rfl | rfl | rfl | rfl
  · exact ⟨b1, _, rfl, hc 0, by decide, (StrB.put (t := 9) hh1).ext x2⟩
  · exact ⟨b2, _, rfl, hc 1, by decide, (StrB.put (t := 9) hh2).ext x3⟩
  · exact ⟨b3, _, rfl, hc 2, by decide, (StrB.put (t := 9) hh3).ext x4⟩
  · exact ⟨b4, _, rfl, hc 3, by decide, (StrB.put (t := 9) hh4).ext x5⟩
  · exact ⟨b5, _, rfl, hc 4, by decide, (StrB.put (t := 9) hh5).ext x6⟩
  · exact ⟨b6, _, rfl, hc 5, by decide, (StrB.put (t := 9) hh6).ext x7⟩
  · exact ⟨b7, _, rfl, hc 6, by decide, (StrB.put (t := 9) hh7).ext x8⟩
  · exact ⟨b8, _, rfl, hc 7, by decide, (StrB.put (t := 9) hh8).ext x9⟩
  · exact ⟨b9, _, rfl, hc 8, by decide, (StrB.put (t := 9) hh9).ext x10⟩
  · exact ⟨b10, _, rfl, hc 9, by decide, (StrB.put (t := 9) hh10).ext x11⟩
 clear hh1 hh2 hh3 hh4 hh5 hh6 hh7 hh8 hh9 hh10 hh11
 refine ⟨fun m i h' => h' = h11 ∧ ∃ n : Nat, i = n ∧ n + m = 10 ∧ ∀ j, j < n → ∀ row, levT[j]? = some row → op ∉ row, ⟨10, rfl, 0, rfl, rfl, fun j hj => by omega⟩, ?_⟩
 rintro m _ h11 ⟨rfl, n, rfl, hnm, hno⟩
 refine br_split (fun e => ?_) (fun e => ?_)
 · have hn : n < 10 := by
    have := of_decide_eq_true e
    omega
   obtain ⟨b, row, hr, hc, hr4, hs⟩ := hrow n hn
   have hc' : h11.cell b11 (0 + ((n : Int)).toNat * 1) = some (vL (ad b 0) row.length row.length) := by simpa using hc
   refine ⟨fun m' k h' => h' = h11 ∧ ∃ q : Nat, k = q ∧ q + m' = row.length ∧ ∀ j, j < q → row[j]? ≠ some op, ⟨row.length, rfl, 0, rfl, by omega, fun j hj => by omega⟩, ?_⟩
   rintro m' _ h11 ⟨rfl, q, rfl, hqm, hnq⟩
   refine ⟨b11, 0, rfl, ⟨by omega, by omega⟩, _, _, _, hc', br_split (fun e2 => ?_) (fun e2 => ?_)⟩
   · have hq : q < row.length := by
      have := of_decide_eq_true e2
      omega
     have hg : row[q]? = some row[q] := List.getElem?_eq_getElem hq
     have hcq : h11.cell b (0 + ((q : Int)).toNat * 1) = some (vS row[q]) := by simpa using hs q _ hg
     refine ⟨b11, 0, rfl, ⟨by omega, by omega⟩, _, _, _, hc', b, 0, rfl, ⟨by omega, by omega⟩, _, hcq, br_split (fun e3 => ?_) (fun e3 => ?_)⟩
     · have e3 : row[q] = op := by simpa using e3
       refine ⟨?_, x1⟩
       rw [e3] at hg
       rw [levT_at hr hg, wrap64 (by omega) (by omega)]; rfl
     · have e3 : row[q] ≠ op := by simpa using e3
       refine ⟨m' - 1, by omega, ⟨rfl, q + 1, ?_, by omega, fun j hj => ?_⟩, trivial⟩
       · rw [wrap64 (by omega) (by omega)]; rfl
       · by_cases hh : j = q
         · subst hh; rw [hg]; simpa using e3
         · exact hnq j (by omega)
   · have hq : q = row.length := by
      have := of_decide_eq_false e2
      omega
     refine ⟨m - 1, by omega, ⟨rfl, n + 1, ?_, by omega, fun j hj row' hr' => ?_⟩, trivial⟩
     · rw [wrap64 (by omega) (by omega)]; rfl
     · by_cases hh : j = n
       · subst hh
         rw [hr] at hr'; injection hr' with hr'; subst hr'
         intro hm
         obtain ⟨i, hi, hie⟩ := List.getElem_of_mem hm
         exact hnq i (by omega) (by rw [List.getElem?_eq_getElem hi, hie])
       · exact hno j (by omega) row' hr'
 · have hn : n = 10 := by
    have := of_decide_eq_false e
    omega
   refine ⟨?_, x1⟩
   rw [levT_none fun j hj => hno j (by omega)]; rfl
structure XC where
 ta : Option Addr
 tn : Nat
 tc : Nat
 i : Int
 op : Int
 err : Int
 bad : Int
def XC.l (x : XC) : List Value := [vL x.ta x.tn x.tc, vI x.i, vI x.op, vI x.err, vI x.bad]
structure QK where
 tb : Nat
 tc : Nat
 all : List Tok
structure QK.In (K : QK) (h : PHeap) : Prop where
 rows : At 5 RT h (ad K.tb 0) K.all
 len : K.all.length ≤ 100000
theorem QK.In.ext {K : QK} {h h' : PHeap} (hI : K.In h) (x : Ext h h') : K.In h' := ⟨hI.rows.ext RT_mono x, hI.len⟩
def XS {α : Type} (K : QK) (x : XC) (r : R α) : Prop :=
 (x.ta = ad K.tb 0 ∧ x.tn = K.all.length ∧ x.tc = K.tc) ∧ ∃ j : Nat, x.i = j ∧ j < K.all.length ∧ match r with
  | .error e => e.1 ≠ 0 ∧ x.err = e.1 ∧ ∃ (b : Nat) (t : Tok), x.bad = b ∧ K.all[b]? = some t ∧ t.pos = e.2
  | .ok (_, ts, d) => x.err = 0 ∧ ts = K.all.drop j ∧ Ended ts ∧ x.op = d ∧ ((ts.length : Int) - 1000000 ≤ d ∧ d ≤ 32)
def XX {α : Type} (K : QK) (x : XC) (r : R α) (rel : α → Prop) : Prop := XS K x r ∧ ∀ y ts d, r = .ok (y, ts, d) → rel y
section
variable {α β γ : Type} {K : QK} {x x' : XC} {r : R α} {h : PHeap}
theorem XS.unit {y : α} {z : β} {ts : List Tok} {d : Int} (hx : XS K x (.ok (y, ts, d) : R α)) : XS K x (.ok (z, ts, d) : R β) := hx
theorem XS.tok (hx : XS K x r) (hI : K.In h) : ∃ t : Tok, x.ta = some ⟨K.tb, 0, none⟩ ∧ (0 ≤ x.i ∧ x.i < (x.tn : Int)) ∧ h.row K.tb (0 + x.i.toNat * 5) (tokR t) ∧ ∀ y ts d, r = .ok (y, ts, d) → t = hd ts := by
 obtain ⟨⟨h1, h2, h3⟩, j, hj, hlt, hst⟩ := hx
 rcases hI.rows with hn | ⟨b, o, ha, hrow⟩
 · rw [hn] at hlt; simp at hlt
 · injection ha with ha; injection ha with ha hb
   subst ha; subst hb
   obtain ⟨cs, hr, hc⟩ := hrow j K.all[j] (List.getElem?_eq_getElem hlt)
   refine ⟨K.all[j], h1, ⟨by omega, by omega⟩, ?_, fun y ts d he => ?_⟩
   · rw [hj, Int.toNat_natCast, ← hc]; exact hr
   · subst he
     obtain ⟨_, hts, _⟩ := hst
     rw [hts, hd, List.headD_eq_head?_getD, List.head?_drop, List.getElem?_eq_getElem hlt]; rfl
theorem XS.err0 (hx : XS K x r) : (x.err == 0) = okR r := by
 obtain ⟨_, j, _, _, hst⟩ := hx
 match r, hst with
 | .error e, hst => rw [hst.2.1]; exact err_ne hst.1
 | .ok (y, ts, d), hst => rw [hst.1]; rfl
theorem XS.adv {y : α} {z : β} {ts : List Tok} {d d' : Int} (hx : XS K x (.ok (y, ts, d) : R α)) (hI : K.In h) (hk : (hd ts).kind ≠ 0) (h1 : (ts.length : Int) - 1 - 1000000 ≤ d') (h2 : d' ≤ 32) :
 XS K ⟨x.ta, x.tn, x.tc, IntKind.i64.wrap (x.i + 1), d', x.err, x.bad⟩ (.ok (z, ts.tail, d') : R β) := by
 obtain ⟨g, j, hj, hlt, e1, e2, e3, e4, e5⟩ := hx
 have hlen := hI.len
 obtain ⟨t1, t2, t3⟩ := e3.tail hk
 have hl : ts.length = K.all.length - j := by rw [e2, List.length_drop]
 refine ⟨g, j + 1, ?_, by omega, e1, ?_, t1, rfl, ?_, h2⟩
 · rw [hj, wrap64 (by omega) (by omega)]; rfl
 · rw [e2, List.tail_drop]
 · rw [List.length_tail]; omega
theorem XS.low {y : α} {ts : List Tok} {d : Int} (hx : XS K x (.ok (y, ts, d) : R α)) (hk : (hd ts).kind ≠ 0) : (ts.length : Int) - 1 - 1000000 ≤ d - 1 ∧ d ≤ 32 ∧ x.op = d ∧ x.err = 0 ∧ 0 < (ts.length : Int) ∧ (ts.length : Int) - 1000000 ≤ d := by
 obtain ⟨g, j, hj, hlt, e1, e2, e3, e4, e5⟩ := hx
 have := len_pos e3
 omega
theorem kind_r (hx : XS K x r) (hI : K.In h) (k : Nat) : Tri Tryz.prog 48 [vA x.l, vI k] h fun v h' => v = vB (isKr r k) ∧ h' = h := by
 refine T48 ?_
 unfold R48
 obtain ⟨t, ht1, ht2, ht3, ht4⟩ := hx.tok hI
 have he := hx.err0
 refine br_split (fun e => ?_) (fun e => ?_)
 · obtain ⟨y, ts, d, rfl⟩ := okR_true (he.symm.trans e)
   have := ht4 _ _ _ rfl
   subst this
   refine ⟨K.tb, 0, ht1, ht2, _, ht3.1, ?_, rfl⟩
   rw [kind_beq]; rfl
 · obtain ⟨y, rfl⟩ := okR_false (he.symm.trans e)
   exact ⟨rfl, rfl⟩
theorem isw_r (hx : XS K x r) (hI : K.In h) (t : Bytes) : Tri Tryz.prog 49 [vA x.l, vS t] h fun v h' => v = vB (isTr r t) ∧ h' = h := by
 refine T49 ?_
 unfold R49
 obtain ⟨tk, ht1, ht2, ht3, ht4⟩ := hx.tok hI
 have he := hx.err0
 refine ⟨K.tb, 0, ht1, ht2, _, _, _, _, _, ht3, br_split (fun e => ?_) (fun e => ?_)⟩
 · obtain ⟨y, ts, d, rfl⟩ := okR_true (he.symm.trans e)
   have := ht4 _ _ _ rfl
   subst this
   have c5 : ((((hd ts).kind : Nat) : Int) == 5) = ((hd ts).kind == 5) := kind_beq _ 5
   have c4 : ((((hd ts).kind : Nat) : Int) == 4) = ((hd ts).kind == 4) := kind_beq _ 4
   refine br_split (fun e1 => ?_) (fun e1 => br_split (fun e2 => ?_) (fun e2 => ?_))
   · rw [c5] at e1
     refine ⟨?_, rfl⟩
     simp [isTr, isT, e1]
   · rw [c5] at e1; rw [c4] at e2
     refine ⟨?_, rfl⟩
     simp [isTr, isT, e1, e2]
   · rw [c5] at e1; rw [c4] at e2
     refine ⟨?_, rfl⟩
     simp [isTr, isT, e1, e2]
 · obtain ⟨y, rfl⟩ := okR_false (he.symm.trans e)
   exact ⟨rfl, rfl⟩
theorem failw_r (hx : XS K x r) (hI : K.In h) (e : Nat) (h0 : e ≠ 0) : Tri Tryz.prog 95 [vA x.l, vI e] h fun v h' => h' = h ∧ ∃ x' : XC, v = vA x'.l ∧ XS K x' (failR r e : R β) := by
 refine T95 ?_
 unfold R95
 have he := hx.err0
 refine br_split (fun e1 => ?_) (fun e1 => ?_)
 · obtain ⟨y, ts, d, rfl⟩ := okR_true (he.symm.trans e1)
   obtain ⟨g, j, hj, hlt, g1, g2, g3, g4, g5⟩ := hx
   refine ⟨rfl, ⟨x.ta, x.tn, x.tc, x.i, x.op, e, x.i⟩, rfl, g, j, hj, hlt, h0, rfl, j, K.all[j], hj, List.getElem?_eq_getElem hlt, ?_⟩
   rw [g2, hd, List.headD_eq_head?_getD, List.head?_drop, List.getElem?_eq_getElem hlt]; rfl
 · obtain ⟨y, rfl⟩ := okR_false (he.symm.trans e1)
   exact ⟨rfl, x, rfl, hx⟩
theorem takew_r (hx : XS K x r) (hI : K.In h) (t : Bytes) : Tri Tryz.prog 50 [vA x.l, vS t] h fun v h' => h' = h ∧ ∃ x' : XC, v = vA x'.l ∧ XS K x' (bindR r fun _ ts d => takeT t ts d) := by
 refine T50 ?_
 unfold R50
 refine Tri.mono (isw_r hx hI t) ?_
 rintro _ h ⟨rfl, rfl⟩
 refine ⟨_, rfl, br_split (fun e => ?_) (fun e => ?_)⟩
 · refine Tri.mono (failw_r (β := Unit) hx hI 30 (by decide)) ?_
   rintro _ h ⟨rfl, x', rfl, hx'⟩
   refine ⟨_, _, _, _, _, _, _, rfl, rfl, x', rfl, ?_⟩
   match r, e, hx' with
   | .error e', e, hx' => exact hx'
   | .ok (y, ts, d), e, hx' =>
     have e : isT ts t = false := by simpa [isTr] using e
     simp only [bindR_ok, takeT, e]; exact hx'
 · match r, e, hx with
   | .error e', e, hx => simp [isTr] at e
   | .ok (y, ts, d), e, hx =>
     have e : isT ts t = true := by simpa [isTr] using e
     have hk := isT_kind e
     have hlo := hx.low hk
     have opn : ∀ {t' : Bytes}, isT ts t' = true → opens t' = true → br (x.op == 32)
      (Tri Tryz.prog 95 [vA [vL x.ta x.tn x.tc, vI x.i, vI x.op, vI x.err, vI x.bad], vI 9] h fun v_3 h_3 =>
       ∃ (Ta2 : Option Addr) (Tn2 Tc2 : Nat) (I_2 Open2 Err2 Bad2 : Int), v_3 = vA [vL Ta2 Tn2 Tc2, vI I_2, vI Open2, vI Err2, vI Bad2] ∧
       h_3 = h ∧ ∃ x' : XC, vA [vL Ta2 Tn2 Tc2, vI I_2, vI Open2, vI Err2, vI Bad2] = vA x'.l ∧ XS K x' (bindR (.ok (y, ts, d) : R α) fun _ ts d => takeT t' ts d))
      (h = h ∧ ∃ x' : XC, vA [vL x.ta x.tn x.tc, vI (IntKind.i64.wrap (x.i + 1)), vI (IntKind.i64.wrap (x.op + 1)), vI x.err, vI x.bad] = vA x'.l ∧ XS K x' (bindR (.ok (y, ts, d) : R α) fun _ ts d => takeT t' ts d)) := by
      intro t' g1 g2
      refine br_split (fun e1 => ?_) (fun e1 => ?_)
      · have h32 : d = 32 := by
         have : x.op = 32 := by simpa using e1
         omega
        refine Tri.mono (failw_r (β := Unit) hx hI 9 (by decide)) ?_
        rintro _ h ⟨rfl, x', rfl, hx'⟩
        refine ⟨_, _, _, _, _, _, _, rfl, rfl, x', rfl, ?_⟩
        simp only [bindR_ok, takeT, g1, g2, h32]; exact hx'
      · have h32 : d ≠ 32 := by
         have : ¬ x.op = 32 := by simpa using e1
         omega
        refine ⟨rfl, ⟨x.ta, x.tn, x.tc, IntKind.i64.wrap (x.i + 1), d + 1, x.err, x.bad⟩, ?_, ?_⟩
        · rw [hlo.2.2.1, wrap64 (n := d + 1) (by omega) (by omega)]; rfl
        · have := hx.adv (z := ()) hI hk (d' := d + 1) (by omega) (by omega)
          simp only [bindR_ok, takeT, g1, g2, if_neg h32]; exact this
     have cls : ∀ {t' : Bytes}, isT ts t' = true → opens t' = false → closes t' = true →
      (h = h ∧ ∃ x' : XC, vA [vL x.ta x.tn x.tc, vI (IntKind.i64.wrap (x.i + 1)), vI (IntKind.i64.wrap (x.op - 1)), vI x.err, vI x.bad] = vA x'.l ∧ XS K x' (bindR (.ok (y, ts, d) : R α) fun _ ts d => takeT t' ts d)) := by
      intro t' g1 g2 g3
      refine ⟨rfl, ⟨x.ta, x.tn, x.tc, IntKind.i64.wrap (x.i + 1), d - 1, x.err, x.bad⟩, ?_, ?_⟩
      · rw [hlo.2.2.1, wrap64 (n := d - 1) (by omega) (by omega)]; rfl
      · have := hx.adv (z := ()) hI hk (d' := d - 1) (by omega) (by omega)
        simp only [bindR_ok, takeT, g1, g2, g3]; exact this
     refine br_split (fun f1 => ?_) (fun f1 => ?_)
     · have f1 : t = [40] := by simpa using f1
       subst f1; exact opn e rfl
     refine br_split (fun f2 => ?_) (fun f2 => ?_)
     · have f2 : t = [91] := by simpa using f2
       subst f2; exact opn e rfl
     refine br_split (fun f3 => ?_) (fun f3 => ?_)
     · have f3 : t = [123] := by simpa using f3
       subst f3; exact opn e rfl
     refine br_split (fun f4 => ?_) (fun f4 => ?_)
     · have f4 : t = [41] := by simpa using f4
       subst f4; exact cls e rfl rfl
     refine br_split (fun f5 => ?_) (fun f5 => ?_)
     · have f5 : t = [93] := by simpa using f5
       subst f5; exact cls e rfl rfl
     refine br_split (fun f6 => ?_) (fun f6 => ?_)
     · have f6 : t = [125] := by simpa using f6
       subst f6; exact cls e rfl rfl
     have g2 : opens t = false := by simp only [opens, f1, f2, f3]; rfl
     have g3 : closes t = false := by simp only [closes, f4, f5, f6]; rfl
     refine ⟨rfl, ⟨x.ta, x.tn, x.tc, IntKind.i64.wrap (x.i + 1), d, x.err, x.bad⟩, ?_, ?_⟩
     · rw [hlo.2.2.1]; rfl
     · have := hx.adv (z := ()) hI hk (d' := d) (by omega) (by omega)
       simp only [bindR_ok, takeT, e, g2, g3]; exact this
theorem ident_r (hx : XS K x r) (hI : K.In h) : Tri Tryz.prog 51 [vA x.l] h fun v h' => h' = h ∧ ∃ (x' : XC) (nm : Bytes) (pos : Int), v = vT [vA x'.l, vS nm, vI pos] ∧ XX K x' (bindR r fun _ ts d => takeK 1 ts d) fun t => nm = t.text ∧ pos = (t.pos : Nat) := by
 refine T51 ?_
 unfold R51
 refine Tri.mono (kind_r hx hI 1) ?_
 rintro _ h ⟨rfl, rfl⟩
 refine ⟨_, rfl, br_split (fun e => ?_) (fun e => ?_)⟩
 · refine Tri.mono (failw_r (β := Tok) hx hI 30 (by decide)) ?_
   rintro _ h ⟨rfl, x', rfl, hx'⟩
   refine ⟨_, _, _, _, _, _, _, rfl, rfl, x', [], 0, rfl, ?_⟩
   match r, e, hx' with
   | .error e', e, hx' => exact ⟨hx', fun y ts d h => by cases h⟩
   | .ok (y, ts, d), e, hx' =>
     have e : isK ts 1 = false := by simpa [isKr] using e
     simp only [bindR_ok, takeK, e]
     exact ⟨hx', fun y ts d h => by cases h⟩
 · obtain ⟨y, ts, d, rfl, k1⟩ := isKr_ok (by simpa using e : isKr r 1 = true)
   obtain ⟨t, ht1, ht2, ht3, ht4⟩ := hx.tok hI
   have := ht4 _ _ _ rfl
   subst this
   have hk : (hd ts).kind ≠ 0 := by simp [isK] at k1; omega
   have hlo := hx.low hk
   refine ⟨K.tb, 0, ht1, ht2, _, _, _, _, _, ht3, rfl, rfl, rfl, ⟨x.ta, x.tn, x.tc, IntKind.i64.wrap (x.i + 1), d, x.err, x.bad⟩, (hd ts).text, ((hd ts).pos : Nat), ?_, ?_⟩
   · rw [hlo.2.2.1]; rfl
   · simp only [bindR_ok, takeK, k1]
     exact ⟨hx.adv hI hk (by omega) (by omega), fun y ts d h => by cases h; exact ⟨rfl, rfl⟩⟩
theorem num_r (hx : XS K x r) (hI : K.In h) : Tri Tryz.prog 52 [vA x.l] h fun v h' => h' = h ∧ ∃ (x' : XC) (n : Int), v = vT [vA x'.l, vI n] ∧ XX K x' (bindR r fun _ ts d => takeK 2 ts d) fun t => n = (t.value : Nat) := by
 refine T52 ?_
 unfold R52
 refine Tri.mono (kind_r hx hI 2) ?_
 rintro _ h ⟨rfl, rfl⟩
 refine ⟨_, rfl, br_split (fun e => ?_) (fun e => ?_)⟩
 · refine Tri.mono (failw_r (β := Tok) hx hI 30 (by decide)) ?_
   rintro _ h ⟨rfl, x', rfl, hx'⟩
   refine ⟨_, _, _, _, _, _, _, rfl, rfl, x', 0, rfl, ?_⟩
   match r, e, hx' with
   | .error e', e, hx' => exact ⟨hx', fun y ts d h => by cases h⟩
   | .ok (y, ts, d), e, hx' =>
     have e : isK ts 2 = false := by simpa [isKr] using e
     simp only [bindR_ok, takeK, e]
     exact ⟨hx', fun y ts d h => by cases h⟩
 · obtain ⟨y, ts, d, rfl, k1⟩ := isKr_ok (by simpa using e : isKr r 2 = true)
   obtain ⟨t, ht1, ht2, ht3, ht4⟩ := hx.tok hI
   have := ht4 _ _ _ rfl
   subst this
   have hk : (hd ts).kind ≠ 0 := by simp [isK] at k1; omega
   have hlo := hx.low hk
   refine ⟨K.tb, 0, ht1, ht2, _, ht3.2.2.1, rfl, ⟨x.ta, x.tn, x.tc, IntKind.i64.wrap (x.i + 1), d, x.err, x.bad⟩, ((hd ts).value : Nat), ?_, ?_⟩
   · rw [hlo.2.2.1]; rfl
   · simp only [bindR_ok, takeK, k1]
     exact ⟨hx.adv hI hk (by omega) (by omega), fun y ts d h => by cases h; rfl⟩
theorem XX.mono {rel rel' : α → Prop} (hx : XX K x r rel) (hr : ∀ y, rel y → rel' y) : XX K x r rel' := ⟨hx.1, fun y ts d h => hr y (hx.2 y ts d h)⟩
theorem XX.then {g : List Tok → Int → R β} {rel rel' : α → Prop} (hx : XX K x r rel) (hP : XS K x' (bindR r fun _ ts d => g ts d)) (hr : ∀ y, rel y → rel' y) : XX K x' (thenR r g) rel' := by
 match r, hx, hP with
 | .error e, hx, hP => exact ⟨hP, fun y ts d h => by cases h⟩
 | .ok (y, ts, d), hx, hP =>
   simp only [thenR, bindR_ok] at hP ⊢
   generalize g ts d = r2 at *
   match r2, hP with
   | .error e, hP => exact ⟨hP, fun y ts d h => by cases h⟩
   | .ok (z, ts2, d2), hP => exact ⟨hP, fun y' ts d h => by cases h; exact hr _ (hx.2 _ _ _ rfl)⟩
theorem XX.pair {g : List Tok → Int → R β} {rel : α → Prop} {rel2 : β → Prop} {rel3 : α × β → Prop} (hx : XX K x r rel) (hP : XX K x' (bindR r fun _ ts d => g ts d) rel2) (hr : ∀ y z, rel y → rel2 z → rel3 (y, z)) : XX K x' (pairR r g) rel3 := by
 match r, hx, hP with
 | .error e, hx, hP => exact ⟨hP.1, fun y ts d h => by cases h⟩
 | .ok (y, ts, d), hx, hP =>
   simp only [pairR, bindR_ok] at hP ⊢
   generalize g ts d = r2 at *
   match r2, hP with
   | .error e, hP => exact ⟨hP.1, fun y ts d h => by cases h⟩
   | .ok (z, ts2, d2), hP => exact ⟨hP.1, fun y' ts d h => by cases h; exact hr _ _ (hx.2 _ _ _ rfl) (hP.2 _ _ _ rfl)⟩
theorem XX.map {k : α → β} {rel : α → Prop} {rel' : β → Prop} (hx : XX K x r rel) (hr : ∀ y, rel y → rel' (k y)) : XX K x (mapR k r) rel' := by
 match r, hx with
 | .error e, hx => exact ⟨hx.1, fun y ts d h => by cases h⟩
 | .ok (y, ts, d), hx => exact ⟨hx.1, fun z ts d h => by cases h; exact hr _ (hx.2 _ _ _ rfl)⟩
theorem XX.unit (hx : XS K x r) : XX K x r fun _ => True := ⟨hx, fun _ _ _ _ => trivial⟩
theorem XX.er {e : Nat × Nat} {rel : α → Prop} (hx : XS K x (.error e : R β)) : XX K x (.error e : R α) rel := ⟨hx, fun y ts d h => by cases h⟩
end
end Go.Proofs.D
namespace Go.Proofs.D
open Go Go.Den Go.Sx
set_option maxRecDepth 100000
attribute [local irreducible] IntKind.wrap Tri
theorem Ext.only {D : Nat → Prop} {h h' : PHeap} (x : Ext h h') : Ext (only D h) (Go.Proofs.D.only D h') := only_ext fun k o hn hk => ⟨hn, x k o hk⟩
def plR (n : Nat) : List Value := [vI n]
structure DC where
 kind : Int
 op : List UInt8
 name : List UInt8
 value : Int
 text : List UInt8
 aa : Option Addr
 an : Nat
 ac : Nat
 pos : Int
def DC.l (c : DC) : List Value := [vI c.kind, vS c.op, vS c.name, vI c.value, vS c.text, vL c.aa c.an c.ac, vI c.pos]
theorem DC.one (c : DC) : allOne c.l = true := rfl
def REx (K : QK) (h : PHeap) (r : R E) (v : Value) (h' : PHeap) : Prop :=
 ∃ (x' : XC) (c : DC), v = vT [vA x'.l, vA c.l] ∧ Ext h h' ∧ XX K x' r fun e => RE plR 7 (only (New h) h') e c.l
def RLs (K : QK) (h : PHeap) (r : R (List E)) (v : Value) (h' : PHeap) : Prop :=
 ∃ (x' : XC) (a : Option Addr) (n c : Nat), v = vT [vA x'.l, vL a n c] ∧ Ext h h' ∧ XX K x' r fun l => n = l.length ∧ At 7 (RE plR 7) (only (New h) h') a l
section
variable {K : QK} {x : XC} {h : PHeap} {ts : List Tok} {d : Int}
theorem REx.after {h1 h2 : PHeap} {r : R E} {v : Value} (hx : Ext h h1) (hE : REx K h1 r v h2) : REx K h r v h2 := by
 obtain ⟨x', c, rfl, hx2, hX⟩ := hE
 exact ⟨x', c, rfl, hx.trans hx2, hX.mono fun e he => he.ext (only_new hx.dom)⟩
theorem XS.adv1 {α β : Type} {y : α} {z : β} (hx : XS K x (.ok (y, ts, d) : R α)) (hI : K.In h) (hk : (hd ts).kind ≠ 0) :
 XS K ⟨x.ta, x.tn, x.tc, IntKind.i64.wrap (x.i + 1), x.op, x.err, x.bad⟩ (.ok (z, ts.tail, d) : R β) := by
 have hlo := hx.low hk
 have := hx.adv (z := z) hI hk (d' := d) (by omega) (by omega)
 rw [hlo.2.2.1]; exact this
theorem pUn_succ (f : Nat) (ts : List Tok) (d : Int) : pUn (f + 1) ts d = if isT ts [45] || isT ts [33] || isT ts [126] then
 bindR (pUn f ts.tail d) fun e ts' d' => .ok (.mk 6 (hd ts).text [] 0 [] [e] (hd ts).pos, ts', d')
 else pPrim f ts d := by conv => lhs; unfold pUn
theorem pPrim_succ (f : Nat) (ts : List Tok) (d : Int) : pPrim (f + 1) ts d = if isK ts 2 then .ok (.mk 1 [] [] (hd ts).value [] [] (hd ts).pos, ts.tail, d)
 else if isK ts 3 then .ok (.mk 2 [] [] 0 (hd ts).bytes [] (hd ts).pos, ts.tail, d)
 else if isK ts 1 then pName f ts d
 else bindR (takeT [40] ts d) fun _ ts d => bindR (pBin f 1 ts d) fun e ts d => bindR (takeT [41] ts d) fun _ ts d => .ok (e, ts, d) := by conv => lhs; unfold pPrim
theorem pName_succ (f : Nat) (ts : List Tok) (d : Int) : pName (f + 1) ts d = if isT ts.tail [40] then pCall f (hd ts) ts.tail d
 else if isT ts.tail [91] then bindR (takeT [91] ts.tail d) fun _ ts' d => bindR (pBin f 1 ts' d) fun e ts' d => bindR (takeT [93] ts' d) fun _ ts' d =>
  .ok (.mk 4 [] (hd ts).text 0 [] [e] (hd ts).pos, ts', d)
 else .ok (.mk 3 [] (hd ts).text 0 [] [] (hd ts).pos, ts.tail, d) := by conv => lhs; unfold pName
theorem pCall_succ (f : Nat) (t : Tok) (ts : List Tok) (d : Int) : pCall (f + 1) t ts d = bindR (takeT [40] ts d) fun _ ts d => bindR (pArgs f ts d) fun l ts d => bindR (takeT [41] ts d) fun _ ts d => .ok (.mk 5 [] t.text 0 [] l t.pos, ts, d) := by conv => lhs; unfold pCall
theorem pBin_succ (f lv : Nat) (ts : List Tok) (d : Int) : pBin (f + 1) lv ts d = if lv = 11 then pUn f ts d else bindR (pBin f (lv + 1) ts d) fun e ts d => pLoop f lv e ts d := by conv => lhs; unfold pBin
def pArgL (f : Nat) (ts : List Tok) (d : Int) : R (List E) := bindR (takeT [40] ts d) fun _ ts d => bindR (pArgs f ts d) fun l ts d => bindR (takeT [41] ts d) fun _ ts d => .ok (l, ts, d)
theorem pCall_args (f : Nat) (t : Tok) (ts : List Tok) (d : Int) : pCall (f + 1) t ts d = mapR (fun l => .mk 5 [] t.text 0 [] l t.pos) (pArgL f ts d) := by
 rw [pCall_succ]; simp only [mapR, pArgL, bindR_bind, bindR_ok]
theorem prim_er {e : Nat × Nat} (hx : XS K x (.error e : R Unit)) (hI : K.In h) : Tri Tryz.prog 194 [vA x.l] h (REx K h (.error e)) := by
 refine T194 ?_
 unfold R194
 obtain ⟨t, ht1, ht2, ht3, _⟩ := hx.tok hI
 refine ⟨K.tb, 0, ht1, ht2, _, _, _, _, _, ht3, ?_⟩
 refine Tri.mono (kind_r hx hI 2) ?_
 rintro _ h ⟨rfl, rfl⟩
 refine ⟨_, rfl, br_neg rfl ?_⟩
 refine Tri.mono (kind_r hx hI 3) ?_
 rintro _ h ⟨rfl, rfl⟩
 refine ⟨_, rfl, br_neg rfl ?_⟩
 refine Tri.mono (isw_r hx hI [40]) ?_
 rintro _ h ⟨rfl, rfl⟩
 refine ⟨_, rfl, br_neg rfl ?_⟩
 refine Tri.mono (ident_r hx hI) ?_
 rintro _ h ⟨rfl, x', nm, pos, rfl, hx'⟩
 have hx1 : XS K x' (.error e : R Unit) := hx'.1
 refine ⟨_, _, _, _, _, _, _, _, _, rfl, ?_⟩
 refine Tri.mono (isw_r hx1 hI [40]) ?_
 rintro _ h ⟨rfl, rfl⟩
 refine ⟨_, rfl, br_neg rfl ?_⟩
 refine Tri.mono (isw_r hx1 hI [91]) ?_
 rintro _ h ⟨rfl, rfl⟩
 exact ⟨_, rfl, br_neg rfl ⟨x', ⟨3, [], nm, 0, [], none, 0, 0, pos⟩, rfl, Ext.refl _, XX.er hx1⟩⟩
theorem un_er {e : Nat × Nat} (hx : XS K x (.error e : R Unit)) (hI : K.In h) : Tri Tryz.prog 174 [vA x.l] h (REx K h (.error e)) := by
 refine T174 ?_
 unfold R174
 refine Tri.mono (isw_r hx hI [45]) ?_
 rintro _ h ⟨rfl, rfl⟩
 refine ⟨_, rfl, br_neg rfl ?_⟩
 refine Tri.mono (isw_r hx hI [33]) ?_
 rintro _ h ⟨rfl, rfl⟩
 refine ⟨_, rfl, br_neg rfl ?_⟩
 refine Tri.mono (isw_r hx hI [126]) ?_
 rintro _ h ⟨rfl, rfl⟩
 refine ⟨_, rfl, br_neg rfl ?_⟩
 refine Tri.mono (prim_er hx hI) ?_
 rintro _ h2 hE
 have hE' := hE
 obtain ⟨x', c, rfl, _, _⟩ := hE
 exact ⟨_, _, _, _, _, _, _, _, _, _, _, _, _, _, _, _, rfl, hE'⟩
theorem bin_er {e : Nat × Nat} : ∀ (n lv : Nat) {x : XC} {h : PHeap}, lv + n = 11 → XS K x (.error e : R Unit) → K.In h → Tri Tryz.prog 142 [vA x.l, vI lv] h (REx K h (.error e)) := by
 intro n
 induction n with
 | zero =>
   intro lv x h hlv hx hI
   refine T142 ?_
   unfold R142
   refine br_pos (decide_eq_true (by omega)) ?_
   refine Tri.mono (un_er hx hI) ?_
   rintro _ h2 hE
   have hE' := hE
   obtain ⟨x', c, rfl, _, _⟩ := hE
   exact ⟨_, _, _, _, _, _, _, _, _, _, _, _, _, _, _, _, rfl, hE'⟩
 | succ n ih =>
   intro lv x h hlv hx hI
   refine T142 ?_
   unfold R142
   refine br_neg (decide_eq_false (by omega)) ?_
   have hw : IntKind.i64.wrap ((lv : Int) + 1) = ((lv + 1 : Nat) : Int) := by rw [wrap64 (by omega) (by omega)]; rfl
   rw [hw]
   refine Tri.mono (ih (lv + 1) (by omega) hx hI) ?_
   rintro _ h2 ⟨x', c, rfl, hx2, hX⟩
   refine ⟨_, _, _, _, _, _, _, _, _, _, _, _, _, _, _, _, rfl, ?_⟩
   refine ⟨fun m a1 a2 a3 a4 a5 a6 a7 b1 b2 b3 b4 b5 b6 b7 b8 b9 h' => h' = h2 ∧ XS K ⟨a1, a2, a3, a4, a5, a6, a7⟩ (.error e : R Unit), ⟨0, rfl, hX.1⟩, ?_⟩
   rintro m a1 a2 a3 a4 a5 a6 a7 b1 b2 b3 b4 b5 b6 b7 b8 b9 h2 ⟨rfl, hx3⟩
   refine br_neg hx3.err0 ⟨rfl, ⟨a1, a2, a3, a4, a5, a6, a7⟩, ⟨b1, b2, b3, b4, b5, b6, b7, b8, b9⟩, rfl, hx2, XX.er hx3⟩
structure YOk (K : QK) (f : Nat) : Prop where
 bin : ∀ (lv : Nat) (ts : List Tok) (d : Int) (x : XC) (h : PHeap), lv ≤ 11 → K.In h → XS K x (.ok ((), ts, d) : R Unit) → NF (pBin f lv ts d) → Tri Tryz.prog 142 [vA x.l, vI lv] h (REx K h (pBin f lv ts d))
 un : ∀ (ts : List Tok) (d : Int) (x : XC) (h : PHeap), K.In h → XS K x (.ok ((), ts, d) : R Unit) → NF (pUn f ts d) → Tri Tryz.prog 174 [vA x.l] h (REx K h (pUn f ts d))
 prim : ∀ (ts : List Tok) (d : Int) (x : XC) (h : PHeap), K.In h → XS K x (.ok ((), ts, d) : R Unit) → NF (pPrim f ts d) → Tri Tryz.prog 194 [vA x.l] h (REx K h (pPrim f ts d))
 args : ∀ (ts : List Tok) (d : Int) (x : XC) (h : PHeap), K.In h → XS K x (.ok ((), ts, d) : R Unit) → NF (pArgL f ts d) → Tri Tryz.prog 144 [vA x.l] h (RLs K h (pArgL f ts d))
theorem bin_r {f : Nat} (Y : YOk K f) {α : Type} (lv : Nat) (hlv : lv ≤ 11) (r : R α) (hI : K.In h) (hx : XS K x r) (hn : NF (bindR r fun _ ts d => pBin f lv ts d)) : Tri Tryz.prog 142 [vA x.l, vI lv] h (REx K h (bindR r fun _ ts d => pBin f lv ts d)) := by
 match r, hx, hn with
 | .error e, hx, hn => exact bin_er (11 - lv) lv (by omega) hx hI
 | .ok (y, ts, d), hx, hn => exact Y.bin lv ts d x h hlv hI hx hn
theorem unr_ok {f : Nat} (Y : YOk K f) (hI : K.In h) (hx : XS K x (.ok ((), ts, d) : R Unit)) (hn : NF (pUn (f + 1) ts d)) : Tri Tryz.prog 174 [vA x.l] h (REx K h (pUn (f + 1) ts d)) := by
 refine T174 ?_
 unfold R174
 have go : (isT ts [45] || isT ts [33] || isT ts [126]) = true →
  (∃ (b1 o1 : Nat), x.ta = some ⟨b1, o1, none⟩ ∧ (0 ≤ x.i ∧ x.i < x.tn) ∧
   ∃ (Kind1 : Int) (Text1 : List UInt8) (Value1 : Int) (Bytes1 : List UInt8) (At1 : Int), h.row b1 (o1 + (x.i).toNat * 5) [vI Kind1, vS Text1, vI Value1, vS Bytes1, vI At1] ∧
   Tri Tryz.prog 174 [vA [vL x.ta x.tn x.tc, vI (IntKind.i64.wrap (x.i + 1)), vI x.op, vI x.err, vI x.bad]] h fun v_2 h_2 =>
   ∃ (Ta1 : Option Addr) (Tn1 Tc1 : Nat) (I_1 Open1 Err1 Bad1 Kind2 : Int) (Op1 Name1 : List UInt8) (Value2 : Int) (Text2 : List UInt8) (Argsa1 : Option Addr) (Argsn1 Argsc1 : Nat) (At2 : Int), v_2 = vT [vA [vL Ta1 Tn1 Tc1, vI I_1, vI Open1, vI Err1, vI Bad1], vA [vI Kind2, vS Op1, vS Name1, vI Value2, vS Text2, vL Argsa1 Argsn1 Argsc1, vI At2]] ∧
   (∀ (b2 : Nat), h_2 b2 = none → ∀ (h_3 : PHeap), h_3 = h_2.put b2 (.cells ⟨[vI Kind2, vS Op1, vS Name1, vI Value2, vS Text2, vL Argsa1 Argsn1 Argsc1, vI At2]⟩ 186) →
    (([vI At1] : List Value) = ([vI At1] : List Value)) ∧
    (([vS Text1] : List Value) = ([vS Text1] : List Value)) ∧
    (([vL Ta1 Tn1 Tc1, vI I_1, vI Open1, vI Err1, vI Bad1] : List Value) = ([vL Ta1 Tn1 Tc1, vI I_1, vI Open1, vI Err1, vI Bad1] : List Value)) ∧
    (([vI At1] : List Value) = ([vI At1] : List Value)) ∧
    (([vS Text1] : List Value) = ([vS Text1] : List Value)) ∧
    REx K h (pUn (f + 1) ts d) (vT [vA [vL Ta1 Tn1 Tc1, vI I_1, vI Open1, vI Err1, vI Bad1], vA [vI 6, vS Text1, vS [], vI 0, vS [], vL (ad b2 0) 1 1, vI At1]]) h_3) ∧
   ((([vI At1] : List Value) = ([vI At1] : List Value)) ∧
     (([vI Kind2, vS Op1, vS Name1, vI Value2, vS Text2, vL Argsa1 Argsn1 Argsc1, vI At2] : List Value) = ([vI Kind2, vS Op1, vS Name1, vI Value2, vS Text2, vL Argsa1 Argsn1 Argsc1, vI At2] : List Value)) ∧
     (([vS Text1] : List Value) = ([vS Text1] : List Value)) ∧
     ∀ (b3 : Nat), h_2 b3 = none → ∀ (h_4 : PHeap), h_4 = h_2.put b3 (.cells ⟨[vI Kind2, vS Op1, vS Name1, vI Value2, vS Text2, vL Argsa1 Argsn1 Argsc1, vI At2]⟩ 186) →
     (([vI At1] : List Value) = ([vI At1] : List Value)) ∧
     (([vS Text1] : List Value) = ([vS Text1] : List Value)) ∧
     REx K h (pUn (f + 1) ts d) (vT [vA [vL Ta1 Tn1 Tc1, vI I_1, vI Open1, vI Err1, vI Bad1], vA [vI 6, vS Text1, vS [], vI 0, vS [], vL (ad b3 0) 1 1, vI At1]]) h_4)) := by
  intro e'
  have hk : (hd ts).kind ≠ 0 := by
   simp only [Bool.or_eq_true] at e'
   rcases e' with (e' | e') | e' <;> exact isT_kind e'
  have he : pUn (f + 1) ts d = mapR (fun e => .mk 6 (hd ts).text [] 0 [] [e] (hd ts).pos) (pUn f ts.tail d) := by
   rw [pUn_succ, if_pos e']; rfl
  rw [he] at hn ⊢
  obtain ⟨t, ht1, ht2, ht3, ht4⟩ := hx.tok hI
  have := ht4 _ _ _ rfl
  subst this
  refine ⟨K.tb, 0, ht1, ht2, _, _, _, _, _, ht3, ?_⟩
  refine Tri.mono (Y.un ts.tail d _ h hI (hx.adv1 hI hk) hn.map) ?_
  rintro _ h2 ⟨x2, c2, rfl, hx2, hX2⟩
  have fin : ∀ (b : Nat), h2 b = none → ∀ h3, h3 = h2.put b (.cells ⟨c2.l⟩ 186) → REx K h (mapR (fun e => .mk 6 (hd ts).text [] 0 [] [e] (hd ts).pos) (pUn f ts.tail d)) (vT [vA x2.l, vA [vI 6, vS (hd ts).text, vS [], vI 0, vS [], vL (ad b 0) 1 1, vI ((hd ts).pos : Nat)]]) h3 := fun b hb h3 hh => by
   have hx3 := Put.ext hh hb
   have hbk : only (New h) h3 b = some (.cells ⟨c2.l⟩ 186 (0, 0)) := only_some.2 ⟨hx2.dom b hb, Put.at hh⟩
   exact ⟨x2, ⟨6, (hd ts).text, [], 0, [], ad b 0, 1, 1, _⟩, rfl, hx2.trans hx3, hX2.map fun e he => RE_mk 6 _ [] 0 [] [e] _ (ad b 0) 1 (.inr ⟨b, 0, rfl, REs_one hbk (he.ext hx3.only)⟩)⟩
  exact ⟨_, _, _, _, _, _, _, _, _, _, _, _, _, _, _, _, rfl, fun b hb h3 hh => ⟨rfl, rfl, rfl, rfl, rfl, fin b hb h3 hh⟩, rfl, rfl, rfl, fun b hb h3 hh => ⟨rfl, rfl, fin b hb h3 hh⟩⟩
 refine Tri.mono (isw_r hx hI [45]) ?_
 rintro _ h ⟨rfl, rfl⟩
 refine ⟨_, rfl, br_split (fun e1 => go (by simp [show isT ts [45] = true from e1])) (fun e1 => ?_)⟩
 refine Tri.mono (isw_r hx hI [33]) ?_
 rintro _ h ⟨rfl, rfl⟩
 refine ⟨_, rfl, br_split (fun e2 => go (by simp [show isT ts [33] = true from e2])) (fun e2 => ?_)⟩
 refine Tri.mono (isw_r hx hI [126]) ?_
 rintro _ h ⟨rfl, rfl⟩
 refine ⟨_, rfl, br_split (fun e3 => go (by simp [show isT ts [126] = true from e3])) (fun e3 => ?_)⟩
 have he : pUn (f + 1) ts d = pPrim f ts d := by
  rw [pUn_succ, if_neg (by simp [show isT ts [45] = false from e1, show isT ts [33] = false from e2, show isT ts [126] = false from e3])]
 rw [he] at hn ⊢
 refine Tri.mono (Y.prim ts d x h hI hx hn) ?_
 rintro _ h2 hE
 have hE' := hE
 obtain ⟨x', c, rfl, _, _⟩ := hE
 exact ⟨_, _, _, _, _, _, _, _, _, _, _, _, _, _, _, _, rfl, hE'⟩
theorem primr_ok {f : Nat} (Y : ∀ g, g ≤ f → YOk K g) (hI : K.In h) (hx : XS K x (.ok ((), ts, d) : R Unit)) (hn : NF (pPrim (f + 1) ts d)) : Tri Tryz.prog 194 [vA x.l] h (REx K h (pPrim (f + 1) ts d)) := by
 refine T194 ?_
 unfold R194
 obtain ⟨t, ht1, ht2, ht3, ht4⟩ := hx.tok hI
 have := ht4 _ _ _ rfl
 subst this
 refine ⟨K.tb, 0, ht1, ht2, _, _, _, _, _, ht3, ?_⟩
 rw [pPrim_succ] at hn ⊢
 refine Tri.mono (kind_r hx hI 2) ?_
 rintro _ h ⟨rfl, rfl⟩
 refine ⟨_, rfl, br_split (fun e1 => ?_) (fun e1 => ?_)⟩
 · have e1 : isK ts 2 = true := e1
   rw [if_pos e1]
   have hk : (hd ts).kind ≠ 0 := by simp [isK] at e1; omega
   exact ⟨rfl, rfl, _, ⟨1, [], [], _, [], none, 0, 0, _⟩, rfl, Ext.refl _, hx.adv1 (z := (.mk 1 [] [] (hd ts).value [] [] (hd ts).pos : E)) hI hk, fun y ts d h => by cases h; exact ⟨none, 0, rfl, .inl rfl⟩⟩
 have e1 : isK ts 2 = false := e1
 rw [if_neg (by rw [e1]; decide)] at hn ⊢
 refine Tri.mono (kind_r hx hI 3) ?_
 rintro _ h ⟨rfl, rfl⟩
 refine ⟨_, rfl, br_split (fun e2 => ?_) (fun e2 => ?_)⟩
 · have e2 : isK ts 3 = true := e2
   rw [if_pos e2]
   have hk : (hd ts).kind ≠ 0 := by simp [isK] at e2; omega
   exact ⟨rfl, rfl, _, ⟨2, [], [], 0, _, none, 0, 0, _⟩, rfl, Ext.refl _, hx.adv1 (z := (.mk 2 [] [] 0 (hd ts).bytes [] (hd ts).pos : E)) hI hk, fun y ts d h => by cases h; exact ⟨none, 0, rfl, .inl rfl⟩⟩
 have e2 : isK ts 3 = false := e2
 rw [if_neg (by rw [e2]; decide)] at hn ⊢
 refine Tri.mono (isw_r hx hI [40]) ?_
 rintro _ h ⟨rfl, rfl⟩
 refine ⟨_, rfl, br_split (fun e3 => ?_) (fun e3 => ?_)⟩
 · have e3 : isT ts [40] = true := e3
   have nk : isK ts 1 = false := by
    simp only [isT, Bool.and_eq_true, Bool.or_eq_true] at e3
    rcases e3.1 with h4 | h5
    · have : (hd ts).kind = 4 := by simpa using h4
      simp [isK, this]
    · have : (hd ts).kind = 5 := by simpa using h5
      simp [isK, this]
   rw [if_neg (by rw [nk]; decide)] at hn ⊢
   have he : (bindR (takeT [40] ts d) fun _ ts d => bindR (pBin f 1 ts d) fun e ts d => bindR (takeT [41] ts d) fun _ ts d => (.ok (e, ts, d) : R E)) = thenR (bindR (takeT [40] ts d) fun _ ts d => pBin f 1 ts d) fun ts d => takeT [41] ts d := by
    simp only [thenR, bindR_bind, bindR_ok]
   rw [he] at hn ⊢
   refine Tri.mono (takew_r hx hI [40]) ?_
   rintro _ h ⟨rfl, x1, rfl, hx1⟩
   rw [bindR_ok] at hx1
   refine ⟨_, _, _, _, _, _, _, rfl, ?_⟩
   refine Tri.mono (bin_r (Y f (Nat.le_refl _)) 1 (by decide) _ hI hx1 hn.then.bind) ?_
   rintro _ h2 ⟨x2, c2, rfl, hx2, hX2⟩
   refine ⟨_, _, _, _, _, _, _, _, _, _, _, _, _, _, _, _, rfl, ?_⟩
   refine Tri.mono (takew_r hX2.1 (hI.ext hx2) [41]) ?_
   rintro _ h2 ⟨rfl, x3, rfl, hx3⟩
   exact ⟨_, _, _, _, _, _, _, rfl, rfl, rfl, x3, c2, rfl, hx2, hX2.then hx3 fun _ h => h⟩
 have e3 : isT ts [40] = false := e3
 refine Tri.mono (ident_r hx hI) ?_
 rintro _ h ⟨rfl, x1, nm, pos, rfl, hX1⟩
 refine ⟨_, _, _, _, _, _, _, _, _, rfl, ?_⟩
 rw [bindR_ok] at hX1
 rcases (Bool.eq_false_or_eq_true (isK ts 1)).symm with nk | nk
 · rw [if_neg (by rw [nk]; decide)] at hn ⊢
   have ht : takeT [40] ts d = .error (30, (hd ts).pos) := by simp [takeT, e3]
   have hk' : takeK 1 ts d = .error (30, (hd ts).pos) := by simp [takeK, nk]
   rw [hk'] at hX1
   have hx1 : XS K x1 (.error (30, (hd ts).pos) : R Unit) := hX1.1
   rw [ht, bindR_err]
   refine Tri.mono (isw_r hx1 hI [40]) ?_
   rintro _ h ⟨rfl, rfl⟩
   refine ⟨_, rfl, br_neg rfl ?_⟩
   refine Tri.mono (isw_r hx1 hI [91]) ?_
   rintro _ h ⟨rfl, rfl⟩
   exact ⟨_, rfl, br_neg rfl ⟨x1, ⟨3, [], nm, 0, [], none, 0, 0, pos⟩, rfl, Ext.refl _, XX.er hx1⟩⟩
 · rw [if_pos nk] at hn ⊢
   have hk' : takeK 1 ts d = .ok (hd ts, ts.tail, d) := by simp [takeK, nk]
   rw [hk'] at hX1
   have hx1 : XS K x1 (.ok ((), ts.tail, d) : R Unit) := hX1.1
   obtain ⟨rfl, rfl⟩ := hX1.2 _ _ _ rfl
   match f, Y, hn with
   | 0, Y, hn => exact absurd (by unfold pName; rfl) hn
   | f + 1, Y, hn =>
   rw [pName_succ] at hn ⊢
   refine Tri.mono (isw_r hx1 hI [40]) ?_
   rintro _ h ⟨rfl, rfl⟩
   refine ⟨_, rfl, br_split (fun e4 => ?_) (fun e4 => ?_)⟩
   · have e4 : isT ts.tail [40] = true := e4
     rw [if_pos e4] at hn ⊢
     match f, Y, hn with
     | 0, Y, hn => exact absurd (by unfold pCall; rfl) hn
     | f + 1, Y, hn =>
     rw [pCall_args] at hn ⊢
     refine Tri.mono ((Y f (by omega)).args ts.tail d x1 h hI hx1 hn.map) ?_
     rintro _ h2 ⟨x2, a, n, c, rfl, hx2, hX2⟩
     refine ⟨_, _, _, _, _, _, _, _, _, _, rfl, x2, ⟨5, [], (hd ts).text, 0, [], a, n, c, _⟩, rfl, hx2, hX2.map fun l hl => ?_⟩
     obtain ⟨rfl, hl⟩ := hl
     exact RE_iff.2 ⟨a, c, rfl, hl⟩
   have e4 : isT ts.tail [40] = false := e4
   rw [if_neg (by rw [e4]; decide)] at hn ⊢
   refine Tri.mono (isw_r hx1 hI [91]) ?_
   rintro _ h ⟨rfl, rfl⟩
   refine ⟨_, rfl, br_split (fun e5 => ?_) (fun e5 => ?_)⟩
   · have e5 : isT ts.tail [91] = true := e5
     rw [if_pos e5] at hn ⊢
     have he : (bindR (takeT [91] ts.tail d) fun _ ts' d => bindR (pBin f 1 ts' d) fun e ts' d => bindR (takeT [93] ts' d) fun _ ts' d => (.ok (.mk 4 [] (hd ts).text 0 [] [e] (hd ts).pos, ts', d) : R E)) =
      mapR (fun e => .mk 4 [] (hd ts).text 0 [] [e] (hd ts).pos) (thenR (bindR (takeT [91] ts.tail d) fun _ ts d => pBin f 1 ts d) fun ts d => takeT [93] ts d) := by
       simp only [mapR, thenR, bindR_bind, bindR_ok]
     rw [he] at hn ⊢
     refine Tri.mono (takew_r hx1 hI [91]) ?_
     rintro _ h ⟨rfl, x2, rfl, hx2⟩
     rw [bindR_ok] at hx2
     refine ⟨_, _, _, _, _, _, _, rfl, ?_⟩
     refine Tri.mono (bin_r (Y f (by omega)) 1 (by decide) _ hI hx2 hn.map.then.bind) ?_
     rintro _ h3 ⟨x3, c3, rfl, hxh3, hX3⟩
     refine ⟨_, _, _, _, _, _, _, _, _, _, _, _, _, _, _, _, rfl, ?_, ?_⟩
     · refine Tri.mono (takew_r hX3.1 (hI.ext hxh3) [93]) ?_
       rintro _ h3 ⟨rfl, x4, rfl, hx4⟩
       have fin : ∀ (b : Nat), h3 b = none → ∀ h4, h4 = h3.put b (.cells ⟨c3.l⟩ 186) → REx K h (mapR (fun e => .mk 4 [] (hd ts).text 0 [] [e] (hd ts).pos) (thenR (bindR (takeT [91] ts.tail d) fun _ ts d => pBin f 1 ts d) fun ts d => takeT [93] ts d)) (vT [vA x4.l, vA [vI 4, vS [], vS (hd ts).text, vI 0, vS [], vL (ad b 0) 1 1, vI ((hd ts).pos : Nat)]]) h4 := fun b hb h4 hh => by
        have hxh4 := Put.ext hh hb
        have hbk : only (New h) h4 b = some (.cells ⟨c3.l⟩ 186 (0, 0)) := only_some.2 ⟨hxh3.dom b hb, Put.at hh⟩
        exact ⟨x4, ⟨4, [], (hd ts).text, 0, [], ad b 0, 1, 1, _⟩, rfl, hxh3.trans hxh4, (hX3.then hx4 fun _ h => h).map fun e he => RE_mk 4 [] _ 0 [] [e] _ (ad b 0) 1 (.inr ⟨b, 0, rfl, REs_one hbk (he.ext hxh4.only)⟩)⟩
       exact ⟨_, _, _, _, _, _, _, rfl, rfl, fun b hb h4 hh => fin b hb h4 hh, rfl, fun b hb h4 hh => fin b hb h4 hh⟩
     · intro b hb h4 hh
       have hxh4 := Put.ext hh hb
       refine ⟨rfl, ?_⟩
       refine Tri.mono (takew_r hX3.1 (hI.ext (hxh3.trans hxh4)) [93]) ?_
       rintro _ h4 ⟨rfl, x4, rfl, hx4⟩
       have hbk : only (New h) h4 b = some (.cells ⟨c3.l⟩ 186 (0, 0)) := only_some.2 ⟨hxh3.dom b hb, Put.at hh⟩
       exact ⟨_, _, _, _, _, _, _, rfl, x4, ⟨4, [], (hd ts).text, 0, [], ad b 0, 1, 1, _⟩, rfl, hxh3.trans hxh4, (hX3.then hx4 fun _ h => h).map fun e he => RE_mk 4 [] _ 0 [] [e] _ (ad b 0) 1 (.inr ⟨b, 0, rfl, REs_one hbk (he.ext hxh4.only)⟩)⟩
   · have e5 : isT ts.tail [91] = false := e5
     rw [if_neg (by rw [e5]; decide)] at hn ⊢
     exact ⟨x1, ⟨3, [], (hd ts).text, 0, [], none, 0, 0, _⟩, rfl, Ext.refl _, hX1.1, fun y ts d h => by cases h; exact ⟨none, 0, rfl, .inl rfl⟩⟩
end
end Go.Proofs.D
namespace Go.Proofs.D
open Go Go.Den Go.Sx
set_option maxRecDepth 100000
attribute [local irreducible] IntKind.wrap Tri
section
variable {K : QK} {x : XC} {h : PHeap} {ts : List Tok} {d : Int}
theorem binr_ok {f : Nat} (Y : ∀ g, g ≤ f → YOk K g) (lv : Nat) (hlv : lv ≤ 11) (hI : K.In h) (hx : XS K x (.ok ((), ts, d) : R Unit)) (hn : NF (pBin (f + 1) lv ts d)) : Tri Tryz.prog 142 [vA x.l, vI lv] h (REx K h (pBin (f + 1) lv ts d)) := by
 refine T142 ?_
 unfold R142
 rw [pBin_succ] at hn ⊢
 refine br_split (fun e => ?_) (fun e => ?_)
 · have e : lv = 11 := by
    have := of_decide_eq_true e
    omega
   rw [if_pos e] at hn ⊢
   refine Tri.mono ((Y f (Nat.le_refl _)).un ts d x h hI hx hn) ?_
   rintro _ h2 hE
   have hE' := hE
   obtain ⟨x', c, rfl, _, _⟩ := hE
   exact ⟨_, _, _, _, _, _, _, _, _, _, _, _, _, _, _, _, rfl, hE'⟩
 have e : lv ≠ 11 := by
  have := of_decide_eq_false e
  omega
 rw [if_neg e] at hn ⊢
 have hw : IntKind.i64.wrap ((lv : Int) + 1) = ((lv + 1 : Nat) : Int) := by rw [wrap64 (by omega) (by omega)]; rfl
 rw [hw]
 refine Tri.mono ((Y f (Nat.le_refl _)).bin (lv + 1) ts d x h (by omega) hI hx hn.bind) ?_
 rintro _ h2 ⟨x2, c2, rfl, hx2, hX2⟩
 refine ⟨_, _, _, _, _, _, _, _, _, _, _, _, _, _, _, _, rfl, ?_⟩
 generalize hfin : (bindR (pBin f (lv + 1) ts d) fun e ts d => pLoop f lv e ts d) = fin at *
 refine ⟨fun m a1 a2 a3 a4 a5 a6 a7 b1 b2 b3 b4 b5 b6 b7 b8 b9 h' => ∃ r' : R E, m ≤ f ∧ Ext h h' ∧ XX K ⟨a1, a2, a3, a4, a5, a6, a7⟩ r' (fun e => RE plR 7 (only (New h) h') e (DC.l ⟨b1, b2, b3, b4, b5, b6, b7, b8, b9⟩)) ∧ (bindR r' fun e ts d => pLoop m lv e ts d) = fin,
  ⟨f, _, Nat.le_refl _, hx2, hX2, hfin⟩, ?_⟩
 rintro m a1 a2 a3 a4 a5 a6 a7 b1 b2 b3 b4 b5 b6 b7 b8 b9 h3 ⟨r', hm, hx3, hX3, hf3⟩
 have hI3 := hI.ext hx3
 have he0 := hX3.1.err0
 refine br_split (fun e1 => ?_) (fun e1 => ?_)
 · obtain ⟨y, ts3, d3, rfl⟩ := okR_true (he0.symm.trans e1)
   obtain ⟨t, ht1, ht2, ht3, ht4⟩ := hX3.1.tok hI3
   have := ht4 _ _ _ rfl
   subst this
   rw [bindR_ok] at hf3
   have c5 : ((((hd ts3).kind : Nat) : Int) == 5) = ((hd ts3).kind == 5) := kind_beq _ 5
   refine ⟨K.tb, 0, ht1, ht2, _, ht3.1, br_split (fun e2 => ?_) (fun e2 => ?_)⟩
   · have k5 : isK ts3 5 = true := by rw [c5] at e2; exact e2
     refine ⟨K.tb, 0, ht1, ht2, _, ht3.2.1, ?_⟩
     refine Tri.mono (level_r _ _) ?_
     rintro _ h4 ⟨rfl, hx34⟩
     have hI4 := hI3.ext hx34
     have hx4 := hx3.trans hx34
     refine ⟨_, rfl, br_split (fun e3 => ?_) (fun e3 => ?_)⟩
     · have e3 : (levelS (hd ts3).text == lv) = true := by rw [← kind_beq]; exact e3
       match m, hf3, hm with
       | 0, hf3, hm => exact absurd hf3.symm hn
       | m + 1, hf3, hm =>
       rw [pLoop_succ, if_pos (by rw [k5, e3]; rfl)] at hf3
       have hk : (hd ts3).kind ≠ 0 := by simp [isK] at k5; omega
       obtain ⟨t', ht1', ht2', ht3', ht4'⟩ := hX3.1.tok hI4
       have := ht4' _ _ _ rfl
       subst this
       refine ⟨K.tb, 0, ht1', ht2', _, _, _, _, _, ht3', ?_⟩
       have hnb : NF (pBin m (lv + 1) ts3.tail d3) := by rw [← hf3] at hn; exact hn.bind
       refine Tri.mono ((Y m (by omega)).bin (lv + 1) ts3.tail d3 _ h4 (by omega) hI4 (hX3.1.adv1 (z := ()) hI4 hk) hnb) ?_
       rintro _ h5 ⟨x5, c5', rfl, hx5, hX5⟩
       refine ⟨_, _, _, _, _, _, _, _, _, _, _, _, _, _, _, _, rfl, ?_⟩
       intro b4' hb4 h6 hh
       have hx6 := Put.ext hh hb4
       have hx06 := (hx4.trans hx5).trans hx6
       have hbk : only (New h) h6 b4' = some (.cells ⟨DC.l ⟨b1, b2, b3, b4, b5, b6, b7, b8, b9⟩ ++ c5'.l⟩ 186 (0, 0)) := only_some.2 ⟨(hx4.trans hx5).dom b4' hb4, Put.at hh⟩
       have hE3 := (hX3.2 _ _ _ rfl).ext ((hx34.trans hx5).trans hx6).only
       refine ⟨m, by omega, ⟨mapR (fun e' => .mk 7 (hd ts3).text [] 0 [] [y, e'] (hd ts3).pos) (pBin m (lv + 1) ts3.tail d3), by omega, hx06, ?_, ?_⟩, rfl, rfl, trivial⟩
       · exact hX5.map fun e he => RE_mk 7 _ [] 0 [] [y, e] _ (ad b4' 0) 2 (.inr ⟨b4', 0, rfl, REs_two rfl hbk hE3 (he.ext ((only_new hx4.dom).trans hx6.only))⟩)
       · rw [← hf3]; simp only [mapR, bindR_bind, bindR_ok]
     · have e3 : (levelS (hd ts3).text == lv) = false := by rw [← kind_beq]; exact e3
       have : fin = .ok (y, ts3, d3) := by
        match m, hf3 with
        | 0, hf3 => exact absurd hf3.symm hn
        | m + 1, hf3 => rw [← hf3, pLoop_succ, if_neg (by rw [k5, e3]; decide)]
       rw [this]
       exact ⟨rfl, _, ⟨b1, b2, b3, b4, b5, b6, b7, b8, b9⟩, rfl, hx4, hX3.mono fun e he => he.ext hx34.only⟩
   · have k5 : isK ts3 5 = false := by rw [c5] at e2; exact e2
     have : fin = .ok (y, ts3, d3) := by
      match m, hf3 with
      | 0, hf3 => exact absurd hf3.symm hn
      | m + 1, hf3 => rw [← hf3, pLoop_succ, if_neg (by rw [k5]; simp)]
     rw [this]
     exact ⟨rfl, _, ⟨b1, b2, b3, b4, b5, b6, b7, b8, b9⟩, rfl, hx3, hX3⟩
 · obtain ⟨y, rfl⟩ := okR_false (he0.symm.trans e1)
   have : fin = .error y := hf3.symm
   rw [this]
   exact ⟨rfl, _, ⟨b1, b2, b3, b4, b5, b6, b7, b8, b9⟩, rfl, hx3, hX3⟩
theorem elem186 : ElemT 186 7 := ⟨_, _, rfl, rfl, rfl, rfl, by decide⟩
theorem und172 : Tryz.prog.underlying 172 = some (.slice 186) := rfl
theorem argsr_ok {f : Nat} (Y : ∀ g, g < f → YOk K g) (hf5 : f ≤ 5000000) (hI : K.In h) (hx : XS K x (.ok ((), ts, d) : R Unit)) (hn : NF (pArgL f ts d)) : Tri Tryz.prog 144 [vA x.l] h (RLs K h (pArgL f ts d)) := by
 refine T144 ?_
 unfold R144
 have he : pArgL f ts d = thenR (bindR (takeT [40] ts d) fun _ ts d => pArgs f ts d) fun ts d => takeT [41] ts d := by
  simp only [pArgL, thenR, bindR_bind, bindR_ok]
 rw [he] at hn ⊢
 refine Tri.mono (takew_r hx hI [40]) ?_
 rintro _ h ⟨rfl, x1, rfl, hx1⟩
 rw [bindR_ok] at hx1
 refine ⟨_, _, _, _, _, _, _, rfl, ?_⟩
 refine Tri.mono (isw_r hx1 hI [41]) ?_
 rintro _ h ⟨rfl, rfl⟩
 have n2 : NF (bindR (takeT [40] ts d) fun _ ts d => pArgs f ts d) := hn.then.bind
 generalize takeT [40] ts d = r1 at *
 refine ⟨_, rfl, br_split (fun e => ?_) (fun e => ?_)⟩
 · refine br_split (fun e1 => ?_) (fun e1 => ?_)
   · obtain ⟨y, ts1, d1, rfl⟩ := okR_true (hx1.err0.symm.trans e1)
     have e : isT ts1 [41] = false := by simpa [isTr] using e
     rw [bindR_ok] at hn n2 ⊢
     match f, hf5, Y, n2 with
     | 0, _, Y, n2 => exact absurd (by unfold pArgs; rfl) n2
     | f + 1, hf5, Y, n2 =>
     rw [pArgs_succ, if_neg (by rw [e]; decide)] at hn n2 ⊢
     refine Tri.mono ((Y f (by omega)).bin 1 ts1 d1 x1 h (by decide) hI hx1 n2.bind) ?_
     rintro _ h3 ⟨x3, c3, rfl, hx3, hX3⟩
     refine ⟨_, _, _, _, _, _, _, _, _, _, _, _, _, _, _, _, rfl, ?_⟩
     intro b1 hb1 h4 hh4
     refine Raw.mono (LM.append (h0 := h) (cs := c3.l) und172 elem186 rfl rfl rfl rfl rfl LM.nil hb1 hh4 rfl c3.one (by omega) hx3.dom) ?_
     rintro _ h5 ⟨b5, cap5, rfl, hk5, hd5, hn5, hq5, hM5, hR5⟩
     have hx5 : Ext h h5 := fun q o hq => hk5 q o (ne_of hq) (hx3 q o hq)
     refine ⟨_, _, _, rfl, ?_⟩
     generalize hfe : (bindR (pBin f 1 ts1 d1) fun e ts d => pMore f [e] ts d) = fin at *
     have hX5 : XX K x3 (mapR (fun e => [e]) (pBin f 1 ts1 d1)) (fun l => LR (RE plR 7) h h5 (ad b5 0) [c3.l] l) := hX3.map fun e he => hR5 (RE_mono _ _) LR.nil (he.ext (only_ext fun k o hk ho => ⟨⟨hk, fun e => by cases e⟩, ho⟩))
     refine ⟨fun m la ln lc a1 a2 a3 a4 a5 a6 a7 b1 b2 b3 b4 b5 b6 b7 b8 b9 h' => ∃ (r' : R (List E)) (css : List (List Value)), ln + m ≤ f + 1 ∧ Ext h h' ∧ LM 186 7 h h' la ln lc css ∧ XX K ⟨a1, a2, a3, a4, a5, a6, a7⟩ r' (fun l => LR (RE plR 7) h h' la css l) ∧ (bindR r' fun l ts d => pMore m l ts d) = fin,
      ⟨f, _, _, by omega, hx5, hM5, hX5, by rw [← hfe]; simp only [mapR, bindR_bind, bindR_ok]⟩, ?_⟩
     rintro m la ln lc a1 a2 a3 a4 a5 a6 a7 _ _ _ _ _ _ _ _ _ h6 ⟨r', css, hm, hx6, hM6, hX6, hf6⟩
     have hI6 := hI.ext hx6
     refine Tri.mono (isw_r hX6.1 hI6 [44]) ?_
     rintro _ h6 ⟨rfl, rfl⟩
     refine ⟨_, rfl, br_split (fun e3 => ?_) (fun e3 => ?_)⟩
     · match r', hX6, hf6, e3 with
       | .error y, hX6, hf6, e3 => simp [isTr] at e3
       | .ok (l, ts6, d6), hX6, hf6, e3 =>
       have e3 : isT ts6 [44] = true := by simpa [isTr] using e3
       rw [bindR_ok] at hf6
       match m, hf6, hm with
       | 0, hf6, hm => exact absurd hf6.symm n2
       | m + 1, hf6, hm =>
       rw [pMore_succ, if_pos e3, ← bindR_bind] at hf6
       refine Tri.mono (takew_r hX6.1 hI6 [44]) ?_
       rintro _ h6 ⟨rfl, x8, rfl, hx8⟩
       rw [bindR_ok] at hx8
       refine ⟨_, _, _, _, _, _, _, rfl, ?_⟩
       have nb : NF (bindR (takeT [44] ts6 d6) fun _ ts d => pBin m 1 ts d) := by rw [← hf6] at n2; exact n2.bind
       refine Tri.mono (bin_r (Y m (by omega)) 1 (by decide) _ hI6 hx8 nb) ?_
       rintro _ h9 ⟨x9, c9, rfl, hx69, hX9⟩
       refine ⟨_, _, _, _, _, _, _, _, _, _, _, _, _, _, _, _, rfl, ?_⟩
       intro b10 hb10 h10 hh10
       have hx9 := hx6.trans hx69
       refine Raw.mono (LM.append (h0 := h) (cs := c9.l) und172 elem186 rfl rfl rfl rfl rfl (hM6.ext hx69) hb10 hh10 rfl c9.one (by omega) hx9.dom) ?_
       rintro _ h11 ⟨b11, cap11, rfl, hk11, hd11, hn11, hq11, hM11, hR11⟩
       have hx11 : Ext h h11 := fun q o hq => hk11 q o (ne_of hq) (hx9 q o hq)
       refine ⟨_, _, _, rfl, m, by omega, ⟨mapR (fun e => l ++ [e]) (bindR (takeT [44] ts6 d6) fun _ ts d => pBin m 1 ts d), _, by omega, hx11, hM11, ?_, ?_⟩, rfl, trivial⟩
       · exact hX9.map fun e he => hR11 (RE_mono _ _) ((hX6.2 _ _ _ rfl).ext (RE_mono _ _) hx69) (he.ext (hM6.new hx6.dom))
       · rw [← hf6]; simp only [mapR, bindR_bind, bindR_ok]
     · have hfr : fin = r' := by
        match r', hf6, e3 with
        | .error y, hf6, _ => exact hf6.symm
        | .ok (l, ts6, d6), hf6, e3 =>
          have e3 : isT ts6 [44] = false := by simpa [isTr] using e3
          rw [bindR_ok] at hf6
          match m, hf6 with
          | 0, hf6 => exact absurd hf6.symm n2
          | m + 1, hf6 => rw [← hf6, pMore_succ, if_neg (by rw [e3]; decide)]
       refine Tri.mono (takew_r hX6.1 hI6 [41]) ?_
       rintro _ h6 ⟨rfl, x12, rfl, hx12⟩
       rw [hfr]
       refine ⟨_, _, _, _, _, _, _, rfl, x12, la, ln, lc, rfl, hx6, hX6.then hx12 fun l hl => ⟨?_, hM6.at (RE_mono _ _) hl⟩⟩
       rw [← hM6.len]; exact hl.1
   · obtain ⟨y, rfl⟩ := okR_false (hx1.err0.symm.trans e1)
     refine Tri.mono (takew_r hx1 hI [41]) ?_
     rintro _ h ⟨rfl, x2, rfl, hx2⟩
     exact ⟨_, _, _, _, _, _, _, rfl, x2, none, 0, 0, rfl, Ext.refl _, XX.er hx2⟩
 · match r1, hx1, hn, n2, e with
   | .error y, hx1, hn, n2, e => simp [isTr] at e
   | .ok (y, ts1, d1), hx1, hn, n2, e =>
   have e : isT ts1 [41] = true := by simpa [isTr] using e
   rw [bindR_ok] at hn n2 ⊢
   match f, Y, n2 with
   | 0, Y, n2 => exact absurd (by unfold pArgs; rfl) n2
   | f + 1, Y, n2 =>
   rw [pArgs_succ, if_pos e] at hn n2 ⊢
   refine Tri.mono (takew_r hx1 hI [41]) ?_
   rintro _ h ⟨rfl, x2, rfl, hx2⟩
   rw [bindR_ok] at hx2
   refine ⟨_, _, _, _, _, _, _, rfl, x2, none, 0, 0, rfl, Ext.refl _, ?_⟩
   have hXu : XX K x1 (.ok ([], ts1, d1) : R (List E)) (fun l => l = []) := ⟨hx1, fun y ts d h => by cases h; rfl⟩
   exact hXu.then (x' := x2) (g := fun ts d => takeT [41] ts d) hx2 fun l hl => by subst hl; exact ⟨rfl, At.nil⟩
theorem yok (K : QK) (f : Nat) (hf : f ≤ 5000000) : YOk K f := by
 induction f using Nat.strongRecOn with
 | _ f ih =>
   match f, ih, hf with
   | 0, ih, hf =>
     exact ⟨fun lv ts d x h _ _ _ hn => absurd (by unfold pBin; rfl) hn, fun ts d x h _ _ hn => absurd (by unfold pUn; rfl) hn, fun ts d x h _ _ hn => absurd (by unfold pPrim; rfl) hn,
      fun ts d x h hI hx hn => argsr_ok (fun g hg => by omega) hf hI hx hn⟩
   | f + 1, ih, hf =>
     have Y : ∀ g, g ≤ f → YOk K g := fun g hg => ih g (by omega) (by omega)
     exact ⟨fun lv ts d x h hlv hI hx hn => binr_ok Y lv hlv hI hx hn, fun ts d x h hI hx hn => unr_ok (Y f (Nat.le_refl _)) hI hx hn, fun ts d x h hI hx hn => primr_ok Y hI hx hn,
      fun ts d x h hI hx hn => argsr_ok (fun g hg => Y g (by omega)) hf hI hx hn⟩
end
end Go.Proofs.D
namespace Go.Proofs.D
open Go Go.Den Go.Sx
set_option maxRecDepth 100000
attribute [local irreducible] IntKind.wrap Tri
structure SD where
 kind : Int
 name : List UInt8
 aa : Option Addr
 an : Nat
 ac : Nat
 ba : Option Addr
 bn : Nat
 bc : Nat
 ea : Option Addr
 en : Nat
 ec : Nat
 pos : Int
def SD.l (c : SD) : List Value := [vI c.kind, vS c.name, vL c.aa c.an c.ac, vL c.ba c.bn c.bc, vL c.ea c.en c.ec, vI c.pos]
theorem SD.one (c : SD) : allOne c.l = true := rfl
def RSt (K : QK) (h : PHeap) (r : R S) (v : Value) (h' : PHeap) : Prop :=
 ∃ (x' : XC) (c : SD), v = vT [vA x'.l, vA c.l] ∧ Ext h h' ∧ XX K x' r fun s => RS plR 7 6 (only (New h) h') s c.l
def RBk (K : QK) (h : PHeap) (r : R (List S)) (v : Value) (h' : PHeap) : Prop :=
 ∃ (x' : XC) (a : Option Addr) (n c : Nat), v = vT [vA x'.l, vL a n c] ∧ Ext h h' ∧ XX K x' r fun l => n = l.length ∧ At 6 (RS plR 7 6) (only (New h) h') a l
theorem takeT_word {ts : List Tok} {t : Bytes} {d : Int} (h : isT ts t = true) (h1 : opens t = false) (h2 : closes t = false) : takeT t ts d = .ok ((), ts.tail, d) := by simp [takeT, h, h1, h2]
theorem isT_notK1 {ts : List Tok} {t : Bytes} (h : isT ts t = true) : isK ts 1 = false := by
 simp only [isT, Bool.and_eq_true, Bool.or_eq_true] at h
 rcases h.1 with h4 | h5
 · have : (hd ts).kind = 4 := by simpa using h4
   simp [isK, this]
 · have : (hd ts).kind = 5 := by simpa using h5
   simp [isK, this]
theorem isTr_true {α : Type} {r : R α} {t : Bytes} (e : isTr r t = true) : ∃ y ts d, r = .ok (y, ts, d) ∧ isT ts t = true := by
 match r, e with
 | .error x, e => cases e
 | .ok (y, ts, d), e => exact ⟨y, ts, d, rfl, e⟩
section
variable {K : QK} {x : XC} {h : PHeap} {ts : List Tok} {d : Int}
theorem cond_r {f : Nat} (hf : f ≤ 5000000) {α : Type} (r : R α) (hI : K.In h) (hx : XS K x r) (hn : NF (bindR r fun _ ts d => pCond f ts d)) : Tri Tryz.prog 143 [vA x.l] h (REx K h (bindR r fun _ ts d => pCond f ts d)) := by
 refine T143 ?_
 unfold R143
 have he : (bindR r fun _ ts d => pCond f ts d) = thenR (bindR (bindR r fun _ ts d => takeT [40] ts d) fun _ ts d => pBin f 1 ts d) fun ts d => takeT [41] ts d := by
  simp only [thenR, bindR_bind, bindR_ok, pCond]
 rw [he] at hn ⊢
 refine Tri.mono (takew_r hx hI [40]) ?_
 rintro _ h ⟨rfl, x1, rfl, hx1⟩
 refine ⟨_, _, _, _, _, _, _, rfl, ?_⟩
 refine Tri.mono (bin_r (yok K f hf) 1 (by decide) _ hI hx1 hn.then.bind) ?_
 rintro _ h2 ⟨x2, c2, rfl, hx2, hX2⟩
 refine ⟨_, _, _, _, _, _, _, _, _, _, _, _, _, _, _, _, rfl, ?_⟩
 refine Tri.mono (takew_r hX2.1 (hI.ext hx2) [41]) ?_
 rintro _ h2 ⟨rfl, x3, rfl, hx3⟩
 exact ⟨_, _, _, _, _, _, _, rfl, rfl, rfl, x3, c2, rfl, hx2, hX2.then hx3 fun _ h => h⟩
theorem block_er {e : Nat × Nat} (hx : XS K x (.error e : R Unit)) (hI : K.In h) : Tri Tryz.prog 53 [vA x.l] h (RBk K h (.error e)) := by
 refine T53 ?_
 unfold R53
 refine Tri.mono (takew_r hx hI [123]) ?_
 rintro _ h ⟨rfl, x1, rfl, hx1⟩
 refine ⟨_, _, _, _, _, _, _, rfl, ?_⟩
 refine ⟨fun m la ln lc a1 a2 a3 a4 a5 a6 a7 h' => h' = h ∧ la = none ∧ ln = 0 ∧ lc = 0 ∧ XS K ⟨a1, a2, a3, a4, a5, a6, a7⟩ (.error e : R Unit), ⟨0, rfl, rfl, rfl, rfl, hx1⟩, ?_⟩
 rintro m _ _ _ a1 a2 a3 a4 a5 a6 a7 h ⟨rfl, rfl, rfl, rfl, hx2⟩
 refine br_neg hx2.err0 ?_
 refine Tri.mono (takew_r hx2 hI [125]) ?_
 rintro _ h ⟨rfl, x3, rfl, hx3⟩
 exact ⟨_, _, _, _, _, _, _, rfl, x3, none, 0, 0, rfl, Ext.refl _, XX.er hx3⟩
structure ZOk (K : QK) (f : Nat) : Prop where
 blk : ∀ (ts : List Tok) (d : Int) (x : XC) (h : PHeap), K.In h → XS K x (.ok ((), ts, d) : R Unit) → NF (pBlock f ts d) → Tri Tryz.prog 53 [vA x.l] h (RBk K h (pBlock f ts d))
 stm : ∀ (ts : List Tok) (d : Int) (x : XC) (h : PHeap), K.In h → XS K x (.ok ((), ts, d) : R Unit) → NF (pStmt f ts d) → Tri Tryz.prog 96 [vA x.l] h (RSt K h (pStmt f ts d))
theorem blk_r {f : Nat} (Z : ZOk K f) {α : Type} (r : R α) (hI : K.In h) (hx : XS K x r) (hn : NF (bindR r fun _ ts d => pBlock f ts d)) : Tri Tryz.prog 53 [vA x.l] h (RBk K h (bindR r fun _ ts d => pBlock f ts d)) := by
 match r, hx, hn with
 | .error e, hx, hn => exact block_er hx hI
 | .ok (y, ts, d), hx, hn => exact Z.blk ts d x h hI hx hn
theorem elem174 : ElemT 174 6 := ⟨_, _, rfl, rfl, rfl, rfl, by decide⟩
theorem und101 : Tryz.prog.underlying 101 = some (.slice 174) := rfl
theorem blockr_ok {f : Nat} (Z : ∀ g, g ≤ f → ZOk K g) (hf5 : f ≤ 5000000) (hI : K.In h) (hx : XS K x (.ok ((), ts, d) : R Unit)) (hn : NF (pBlock (f + 1) ts d)) : Tri Tryz.prog 53 [vA x.l] h (RBk K h (pBlock (f + 1) ts d)) := by
 refine T53 ?_
 unfold R53
 rw [pBlock_succ] at hn ⊢
 refine Tri.mono (takew_r hx hI [123]) ?_
 rintro _ h ⟨rfl, x1, rfl, hx1⟩
 rw [bindR_ok] at hx1
 refine ⟨_, _, _, _, _, _, _, rfl, ?_⟩
 generalize takeT [123] ts d = r1 at *
 generalize hfin : (bindR r1 fun _ ts d => pStmts f [] ts d) = fin at *
 refine ⟨fun m la ln lc a1 a2 a3 a4 a5 a6 a7 h' => ∃ (r' : R (List S)) (css : List (List Value)), ln + m ≤ f ∧ Ext h h' ∧ LM 174 6 h h' la ln lc css ∧ XX K ⟨a1, a2, a3, a4, a5, a6, a7⟩ r' (fun l => LR (RS plR 7 6) h h' la css l) ∧ (bindR r' fun l ts d => pStmts m l ts d) = fin,
  ⟨f, mapR (fun _ => []) r1, [], by omega, Ext.refl _, LM.nil, (XX.unit hx1).map fun _ _ => LR.nil, by rw [← hfin]; simp only [mapR, bindR_bind, bindR_ok]⟩, ?_⟩
 rintro m la ln lc a1 a2 a3 a4 a5 a6 a7 h2 ⟨r', css, hm, hx2, hM2, hX2, hf2⟩
 have hI2 := hI.ext hx2
 have done : ∀ {x3 : XC}, XS K x3 (bindR r' fun _ ts d => takeT [125] ts d) → fin = thenR r' (fun ts d => takeT [125] ts d) → RBk K h fin (vT [vA x3.l, vL la ln lc]) h2 := by
  intro x3 hx3 he3
  rw [he3]
  refine ⟨x3, la, ln, lc, rfl, hx2, hX2.then hx3 fun l hl => ⟨?_, hM2.at (RS_mono _ _ _) hl⟩⟩
  rw [← hM2.len]; exact hl.1
 have he0 := hX2.1.err0
 refine br_split (fun e => ?_) (fun e => ?_)
 · obtain ⟨l, ts2, d2, rfl⟩ := okR_true (he0.symm.trans e)
   rw [bindR_ok] at hf2
   refine Tri.mono (isw_r hX2.1 hI2 [125]) ?_
   rintro _ h2 ⟨rfl, rfl⟩
   match m, hf2, hm with
   | 0, hf2, hm => exact absurd hf2.symm hn
   | m + 1, hf2, hm =>
   rw [pStmts_succ] at hf2
   refine ⟨_, rfl, br_split (fun e2 => ?_) (fun e2 => ?_)⟩
   · have e2 : isT ts2 [125] = false := by simpa [isTr] using e2
     rw [if_neg (by rw [e2]; decide)] at hf2
     have hnS : NF (pStmt m ts2 d2) := by rw [← hf2] at hn; exact hn.bind
     refine Tri.mono ((Z m (by omega)).stm ts2 d2 _ h2 hI2 hX2.1 hnS) ?_
     rintro _ h3 ⟨x3, c3, rfl, hx23, hX3⟩
     refine ⟨_, _, _, _, _, _, _, _, _, _, _, _, _, _, _, _, _, _, _, rfl, ?_⟩
     intro b hb h4 hh4
     have hx3 := hx2.trans hx23
     refine Raw.mono (LM.append (h0 := h) (cs := c3.l) und101 elem174 rfl rfl rfl rfl rfl (hM2.ext hx23) hb hh4 rfl c3.one (by omega) hx3.dom) ?_
     rintro _ h5 ⟨b5, cap5, rfl, hk5, hd5, hn5, hq5, hM5, hR5⟩
     have hx5 : Ext h h5 := fun q o hq => hk5 q o (ne_of hq) (hx3 q o hq)
     refine ⟨_, _, _, rfl, m, by omega, ⟨mapR (fun s => l ++ [s]) (pStmt m ts2 d2), _, by omega, hx5, hM5, ?_, ?_⟩, rfl, trivial⟩
     · exact hX3.map fun s hs => hR5 (RS_mono _ _ _) ((hX2.2 _ _ _ rfl).ext (RS_mono _ _ _) hx23) (hs.ext (hM2.new hx2.dom))
     · rw [← hf2]; simp only [mapR, bindR_bind, bindR_ok]
   · have e2 : isT ts2 [125] = true := by simpa [isTr] using e2
     rw [if_pos e2] at hf2
     refine Tri.mono (takew_r hX2.1 hI2 [125]) ?_
     rintro _ h2 ⟨rfl, x3, rfl, hx3⟩
     exact ⟨_, _, _, _, _, _, _, rfl, done hx3 (by rw [← hf2]; rfl)⟩
 · obtain ⟨y, rfl⟩ := okR_false (he0.symm.trans e)
   refine Tri.mono (takew_r hX2.1 hI2 [125]) ?_
   rintro _ h2 ⟨rfl, x3, rfl, hx3⟩
   exact ⟨_, _, _, _, _, _, _, rfl, done hx3 hf2.symm⟩
theorem pIf_eq (f : Nat) (ts : List Tok) (d : Int) : pIf (f + 1) ts d = bindR (pairR (pCond f ts.tail d) fun ts d => pBlock f ts d) fun eb ts' d =>
 if isT ts' [101, 108, 115, 101] then
  if isT ts'.tail [105, 102] then bindR (pIf f ts'.tail d) fun s ts' d => .ok (.mk 5 [] [eb.1] eb.2 [s] (hd ts).pos, ts', d)
  else bindR (pBlock f ts'.tail d) fun b' ts' d => .ok (.mk 5 [] [eb.1] eb.2 b' (hd ts).pos, ts', d)
 else .ok (.mk 5 [] [eb.1] eb.2 [] (hd ts).pos, ts', d) := by
 conv => lhs; unfold pIf
 simp only [pairR, bindR_bind, bindR_ok]
theorem At.put1 {α : Type} {k : Nat} {rel : PHeap → α → List Value → Prop} {h0 h1 h2 h3 : PHeap} {b : Nat} {y : α} {l : List Value} {t : TypeId} (hx : Ext h0 h1) (hb : h1 b = none) (hh : h2 = h1.put b (.cells ⟨l⟩ t)) (hx3 : Ext h2 h3) (hr : rel (only (New h0) h3) y l) : At k rel (only (New h0) h3) (ad b 0) [y] :=
 At.one (only_some.2 ⟨hx.dom b hb, hx3 _ _ (Put.at hh)⟩) hr
theorem LM.one {e k : Nat} {h0 h1 h2 h3 : PHeap} {b : Nat} {l : List Value} (hl : l.length = k) (hx : Ext h0 h1) (hb : h1 b = none) (hh : h2 = h1.put b (.cells ⟨l⟩ e)) (hx3 : Ext h2 h3) : LM e k h0 h3 (ad b 0) 1 1 [l] := by
 have hat := hx3 _ _ (Put.at hh)
 refine ⟨fun q hq => ?_, rfl, fun j cs hj => ?_, ⟨by simp [hl], .inr ⟨b, 1, [], rfl, by simpa using hat, by simp, by omega⟩⟩, fun e => absurd e (by decide)⟩
 · injection hq with hq; injection hq with hq; subst hq
   exact ⟨hx.dom _ hb, ne_of hat⟩
 · match j, hj with
   | 0, hj => simp at hj; subst hj; exact hl
   | j + 1, hj => simp at hj
theorem stmtr_ok {f : Nat} (Z : ∀ g, g ≤ f → ZOk K g) (hf5 : f ≤ 5000000) (hI : K.In h) (hx : XS K x (.ok ((), ts, d) : R Unit)) (hn : NF (pStmt (f + 1) ts d)) : Tri Tryz.prog 96 [vA x.l] h (RSt K h (pStmt (f + 1) ts d)) := by
 refine T96 ?_
 unfold R96
 obtain ⟨t, ht1, ht2, ht3, ht4⟩ := hx.tok hI
 have := ht4 _ _ _ rfl
 subst this
 refine ⟨K.tb, 0, ht1, ht2, _, _, _, _, _, ht3, ?_⟩
 have Y := yok K f hf5
 rw [pStmt_succ] at hn ⊢
 have kw : ∀ {t : Bytes} {x1 : XC}, isT ts t = true → opens t = false → closes t = false → XS K x1 (bindR (.ok ((), ts, d) : R Unit) fun _ ts d => takeT t ts d) → XS K x1 (.ok ((), ts.tail, d) : R Unit) := fun e e1 e2 hx1 => by
  rw [bindR_ok, takeT_word e e1 e2] at hx1; exact hx1
 refine Tri.mono (isw_r hx hI [118, 97, 114]) ?_
 rintro _ h ⟨rfl, rfl⟩
 refine ⟨_, rfl, br_split (fun e1 => ?_) (fun e1 => ?_)⟩
 · have e1 : isT ts [118, 97, 114] = true := e1
   rw [if_neg (by rw [isT_notK1 e1]; decide), if_pos e1] at hn ⊢
   unfold pDecl at hn ⊢
   refine Tri.mono (takew_r hx hI [118, 97, 114]) ?_
   rintro _ h ⟨rfl, x1, rfl, hx1⟩
   have hx1 := kw e1 rfl rfl hx1
   refine ⟨_, _, _, _, _, _, _, rfl, ?_⟩
   refine Tri.mono (ident_r hx1 hI) ?_
   rintro _ h ⟨rfl, x2, nm, pos, rfl, hX2⟩
   rw [bindR_ok] at hX2
   refine ⟨_, _, _, _, _, _, _, _, _, rfl, ?_⟩
   generalize takeK 1 ts.tail d = r2 at *
   refine Tri.mono (isw_r hX2.1 hI [61]) ?_
   rintro _ h ⟨rfl, rfl⟩
   refine ⟨_, rfl, br_split (fun e2 => ?_) (fun e2 => ?_)⟩
   · obtain ⟨t2, ts2, d2, rfl, q2⟩ := isTr_true e2
     rw [bindR_ok, if_pos q2] at hn ⊢
     obtain ⟨rfl, rfl⟩ := hX2.2 _ _ _ rfl
     have he : (bindR (takeT [61] ts2 d2) fun _ ts' d => bindR (pBin f 1 ts' d) fun e ts' d => bindR (takeT [59] ts' d) fun _ ts' d => (.ok (.mk 1 t2.text [e] [] [] (hd ts).pos, ts', d) : R S)) =
      mapR (fun e => .mk 1 t2.text [e] [] [] (hd ts).pos) (thenR (bindR (takeT [61] ts2 d2) fun _ ts d => pBin f 1 ts d) fun ts d => takeT [59] ts d) := by simp only [mapR, thenR, bindR_bind, bindR_ok]
     rw [he] at hn ⊢
     refine Tri.mono (takew_r hX2.1 hI [61]) ?_
     rintro _ h ⟨rfl, x3, rfl, hx3⟩
     rw [bindR_ok] at hx3
     refine ⟨_, _, _, _, _, _, _, rfl, ?_⟩
     refine Tri.mono (bin_r Y 1 (by decide) _ hI hx3 hn.map.then.bind) ?_
     rintro _ h4 ⟨x4, c4, rfl, hxh4, hX4⟩
     refine ⟨_, _, _, _, _, _, _, _, _, _, _, _, _, _, _, _, rfl, ?_⟩
     intro b hb h5 hh
     have hxh5 := Put.ext hh hb
     refine Tri.mono (takew_r hX4.1 (hI.ext (hxh4.trans hxh5)) [59]) ?_
     rintro _ h5 ⟨rfl, x5, rfl, hx5⟩
     exact ⟨_, _, _, _, _, _, _, rfl, rfl, rfl, x5, ⟨1, t2.text, ad b 0, 1, 1, none, 0, 0, none, 0, 0, _⟩, rfl, hxh4.trans hxh5, (hX4.then hx5 fun _ h => h).map fun e he => RS_mk 1 t2.text _ 1 0 0 (At.put1 hxh4 hb hh (Ext.refl _) (he.ext hxh5.only)) At.nil At.nil⟩
   · have he : (bindR r2 fun t ts' d => if isT ts' [61] then bindR (takeT [61] ts' d) fun _ ts' d => bindR (pBin f 1 ts' d) fun e ts' d => bindR (takeT [59] ts' d) fun _ ts' d => .ok (.mk 1 t.text [e] [] [] (hd ts).pos, ts', d)
      else bindR (takeT [59] ts' d) fun _ ts' d => (.ok (.mk 1 t.text [] [] [] (hd ts).pos, ts', d) : R S)) = mapR (fun t => .mk 1 t.text [] [] [] (hd ts).pos) (thenR r2 fun ts d => takeT [59] ts d) := by
      match r2, e2 with
      | .error y, _ => rfl
      | .ok (t2, ts2, d2), e2 =>
        rw [bindR_ok, if_neg (by rw [show isT ts2 [61] = false from e2]; decide)]
        simp only [mapR, thenR, bindR_bind, bindR_ok]
     rw [he] at hn ⊢
     refine Tri.mono (takew_r hX2.1 hI [59]) ?_
     rintro _ h ⟨rfl, x3, rfl, hx3⟩
     exact ⟨_, _, _, _, _, _, _, rfl, rfl, rfl, x3, ⟨1, nm, none, 0, 0, none, 0, 0, none, 0, 0, _⟩, rfl, Ext.refl _, (hX2.then hx3 fun _ h => h).map fun t ht => by
      obtain ⟨rfl, _⟩ := ht
      exact RS_mk 1 t.text _ 0 0 0 At.nil At.nil At.nil⟩
 have e1 : isT ts [118, 97, 114] = false := e1
 refine Tri.mono (isw_r hx hI [105, 102]) ?_
 rintro _ h ⟨rfl, rfl⟩
 refine ⟨_, rfl, br_split (fun e2 => ?_) (fun e2 => ?_)⟩
 · have e2 : isT ts [105, 102] = true := e2
   rw [if_neg (by rw [isT_notK1 e2]; decide), if_neg (by rw [e1]; decide), if_pos e2] at hn ⊢
   match f, hf5, Z, Y, hn with
   | 0, hf5, Z, Y, hn => exact absurd (by unfold pIf; rfl) hn
   | f + 1, hf5, Z, Y, hn =>
   rw [pIf_eq] at hn ⊢
   refine Tri.mono (takew_r hx hI [105, 102]) ?_
   rintro _ h ⟨rfl, x1, rfl, hx1⟩
   have hx1 := kw e2 rfl rfl hx1
   refine ⟨_, _, _, _, _, _, _, rfl, ?_⟩
   have n1 := hn.bind
   refine Tri.mono (cond_r (by omega) (.ok ((), ts.tail, d) : R Unit) hI hx1 n1.bind) ?_
   rintro _ h2 ⟨x2, c2, rfl, hxh2, hX2⟩
   rw [bindR_ok] at hX2
   refine ⟨_, _, _, _, _, _, _, _, _, _, _, _, _, _, _, _, rfl, ?_⟩
   intro b3 hb3 h3 hh3
   have hxh3 := Put.ext hh3 hb3
   have hx03 := hxh2.trans hxh3
   refine Tri.mono (blk_r (Z f (by omega)) (pCond f ts.tail d) (hI.ext hx03) hX2.1 n1.pair) ?_
   rintro _ h4 ⟨x4, a4, n4, k4, rfl, hxh4, hX4⟩
   refine ⟨_, _, _, _, _, _, _, _, _, _, rfl, ?_⟩
   have hx04 := hx03.trans hxh4
   have hI4 := hI.ext hx04
   have hP : XX K x4 (pairR (pCond f ts.tail d) fun ts d => pBlock f ts d) fun eb => RE plR 7 (only (New h) h4) eb.1 c2.l ∧ n4 = eb.2.length ∧ At 6 (RS plR 7 6) (only (New h) h4) a4 eb.2 :=
    hX2.pair hX4 fun e b he hb => ⟨he.ext (hxh3.trans hxh4).only, hb.1, hb.2.ext (RS_mono _ _ _) (only_new hx03.dom)⟩
   generalize (pairR (pCond f ts.tail d) fun ts d => pBlock f ts d) = r4 at *
   clear hX2 hX4 n1
   refine Tri.mono (isw_r hP.1 hI4 [101, 108, 115, 101]) ?_
   rintro _ h4 ⟨rfl, rfl⟩
   refine ⟨_, rfl, br_split (fun e3 => ?_) (fun e3 => ?_)⟩
   · obtain ⟨eb, ts4, d4, rfl, q3⟩ := isTr_true e3
     rw [bindR_ok, if_pos q3] at hn ⊢
     obtain ⟨g1, rfl, g3⟩ := hP.2 _ _ _ rfl
     refine Tri.mono (takew_r hP.1 hI4 [101, 108, 115, 101]) ?_
     rintro _ h4 ⟨rfl, x5, rfl, hx5⟩
     rw [bindR_ok, takeT_word q3 rfl rfl] at hx5
     refine ⟨_, _, _, _, _, _, _, rfl, ?_⟩
     refine Tri.mono (isw_r hx5 hI4 [105, 102]) ?_
     rintro _ h4 ⟨rfl, rfl⟩
     refine ⟨_, rfl, br_split (fun e4 => ?_) (fun e4 => ?_)⟩
     · have e4 : isT ts4.tail [105, 102] = true := e4
       rw [if_pos e4] at hn ⊢
       have hst : pStmt (f + 1) ts4.tail d4 = pIf f ts4.tail d4 := by
        rw [pStmt_succ, if_neg (by rw [isT_notK1 e4]; decide)]
        by_cases h1 : isT ts4.tail [118, 97, 114] = true
        · exfalso
          simp only [isT, Bool.and_eq_true, beq_iff_eq] at h1 e4
          rw [h1.2] at e4
          exact absurd e4.2 (by decide)
        · rw [if_neg h1, if_pos e4]
       rw [← hst] at hn ⊢
       refine Tri.mono ((Z (f + 1) (by omega)).stm ts4.tail d4 x5 h4 hI4 hx5 hn.bind) ?_
       rintro _ h6 ⟨x6, c6, rfl, hxh6, hX6⟩
       refine ⟨_, _, _, _, _, _, _, _, _, _, _, _, _, _, _, _, _, _, _, rfl, ?_⟩
       intro b7 hb7 h7 hh7
       have hxh7 := Put.ext hh7 hb7
       have hx06 := hx04.trans hxh6
       refine ⟨rfl, x6, ⟨5, [], ad b3 0, 1, 1, a4, eb.2.length, k4, ad b7 0, 1, 1, _⟩, rfl, hx06.trans hxh7, hX6.map (k := fun s => S.mk 5 [] [eb.1] eb.2 [s] (hd ts).pos) fun s hs => ?_⟩
       exact RS_mk 5 [] _ 1 k4 1 (At.put1 hxh2 hb3 hh3 ((hxh4.trans hxh6).trans hxh7) (g1.ext (hxh6.trans hxh7).only)) (g3.ext (RS_mono _ _ _) (hxh6.trans hxh7).only) (At.put1 hx06 hb7 hh7 (Ext.refl _) (hs.ext ((only_new hx04.dom).trans hxh7.only)))
     · have e4 : isT ts4.tail [105, 102] = false := e4
       rw [if_neg (by rw [e4]; decide)] at hn ⊢
       refine Tri.mono ((Z f (by omega)).blk ts4.tail d4 x5 h4 hI4 hx5 hn.bind) ?_
       rintro _ h6 ⟨x6, a6, n6, k6, rfl, hxh6, hX6⟩
       refine ⟨_, _, _, _, _, _, _, _, _, _, rfl, rfl, x6, ⟨5, [], ad b3 0, 1, 1, a4, eb.2.length, k4, a6, n6, k6, _⟩, rfl, hx04.trans hxh6, hX6.map (k := fun b => S.mk 5 [] [eb.1] eb.2 b (hd ts).pos) fun b hb => ?_⟩
       obtain ⟨rfl, hb⟩ := hb
       exact RS_mk 5 [] _ 1 k4 k6 (At.put1 hxh2 hb3 hh3 (hxh4.trans hxh6) (g1.ext hxh6.only)) (g3.ext (RS_mono _ _ _) hxh6.only) (hb.ext (RS_mono _ _ _) (only_new hx04.dom))
   · have he : (bindR r4 fun eb ts' d =>
      if isT ts' [101, 108, 115, 101] then
       if isT ts'.tail [105, 102] then bindR (pIf f ts'.tail d) fun s ts' d => .ok (.mk 5 [] [eb.1] eb.2 [s] (hd ts).pos, ts', d)
       else bindR (pBlock f ts'.tail d) fun b' ts' d => .ok (.mk 5 [] [eb.1] eb.2 b' (hd ts).pos, ts', d)
      else (.ok (.mk 5 [] [eb.1] eb.2 [] (hd ts).pos, ts', d) : R S)) = mapR (fun eb => .mk 5 [] [eb.1] eb.2 [] (hd ts).pos) r4 := by
      match r4, e3 with
      | .error y, _ => rfl
      | .ok (eb, ts4, d4), e3 =>
        rw [bindR_ok, if_neg (by rw [show isT ts4 [101, 108, 115, 101] = false from e3]; decide)]; rfl
     rw [he]
     refine ⟨rfl, x4, ⟨5, [], ad b3 0, 1, 1, a4, n4, k4, none, 0, 0, _⟩, rfl, hx04, hP.map fun eb heb => ?_⟩
     obtain ⟨g1, rfl, g3⟩ := heb
     exact RS_mk 5 [] _ 1 k4 0 (At.put1 hxh2 hb3 hh3 hxh4 g1) g3 At.nil
 have e2 : isT ts [105, 102] = false := e2
 refine Tri.mono (isw_r hx hI [119, 104, 105, 108, 101]) ?_
 rintro _ h ⟨rfl, rfl⟩
 refine ⟨_, rfl, br_split (fun e3 => ?_) (fun e3 => ?_)⟩
 · have e3 : isT ts [119, 104, 105, 108, 101] = true := e3
   rw [if_neg (by rw [isT_notK1 e3]; decide), if_neg (by rw [e1]; decide), if_neg (by rw [e2]; decide), if_pos e3] at hn ⊢
   have he : pWhile f ts d = mapR (fun eb => .mk 6 [] [eb.1] eb.2 [] (hd ts).pos) (pairR (pCond f ts.tail d) fun ts d => pBlock f ts d) := by
    simp only [pWhile, mapR, pairR, bindR_bind, bindR_ok]
   rw [he] at hn ⊢
   refine Tri.mono (takew_r hx hI [119, 104, 105, 108, 101]) ?_
   rintro _ h ⟨rfl, x1, rfl, hx1⟩
   have hx1 := kw e3 rfl rfl hx1
   refine ⟨_, _, _, _, _, _, _, rfl, ?_⟩
   have n1 := hn.map
   refine Tri.mono (cond_r (by omega) (.ok ((), ts.tail, d) : R Unit) hI hx1 n1.bind) ?_
   rintro _ h2 ⟨x2, c2, rfl, hxh2, hX2⟩
   rw [bindR_ok] at hX2
   refine ⟨_, _, _, _, _, _, _, _, _, _, _, _, _, _, _, _, rfl, ?_⟩
   intro b3 hb3 h3 hh3
   have hxh3 := Put.ext hh3 hb3
   have hx03 := hxh2.trans hxh3
   refine Tri.mono (blk_r (Z f (by omega)) (pCond f ts.tail d) (hI.ext hx03) hX2.1 n1.pair) ?_
   rintro _ h4 ⟨x4, a4, n4, k4, rfl, hxh4, hX4⟩
   have hP : XX K x4 (pairR (pCond f ts.tail d) fun ts d => pBlock f ts d) fun eb => RE plR 7 (only (New h) h4) eb.1 c2.l ∧ n4 = eb.2.length ∧ At 6 (RS plR 7 6) (only (New h) h4) a4 eb.2 :=
    hX2.pair hX4 fun e b he hb => ⟨he.ext (hxh3.trans hxh4).only, hb.1, hb.2.ext (RS_mono _ _ _) (only_new hx03.dom)⟩
   refine ⟨_, _, _, _, _, _, _, _, _, _, rfl, rfl, x4, ⟨6, [], ad b3 0, 1, 1, a4, n4, k4, none, 0, 0, _⟩, rfl, hx03.trans hxh4, hP.map fun eb heb => ?_⟩
   obtain ⟨g1, rfl, g3⟩ := heb
   exact RS_mk 6 [] _ 1 k4 0 (At.put1 hxh2 hb3 hh3 hxh4 g1) g3 At.nil
 have e3 : isT ts [119, 104, 105, 108, 101] = false := e3
 refine Tri.mono (isw_r hx hI [114, 101, 116, 117, 114, 110]) ?_
 rintro _ h ⟨rfl, rfl⟩
 refine ⟨_, rfl, br_split (fun e4 => ?_) (fun e4 => ?_)⟩
 · have e4 : isT ts [114, 101, 116, 117, 114, 110] = true := e4
   rw [if_neg (by rw [isT_notK1 e4]; decide), if_neg (by rw [e1]; decide), if_neg (by rw [e2]; decide), if_neg (by rw [e3]; decide), if_pos e4] at hn ⊢
   unfold pRet at hn ⊢
   refine Tri.mono (takew_r hx hI [114, 101, 116, 117, 114, 110]) ?_
   rintro _ h ⟨rfl, x1, rfl, hx1⟩
   have hx1 := kw e4 rfl rfl hx1
   refine ⟨_, _, _, _, _, _, _, rfl, ?_⟩
   refine Tri.mono (isw_r hx1 hI [59]) ?_
   rintro _ h ⟨rfl, rfl⟩
   refine ⟨_, rfl, br_split (fun e5 => ?_) (fun e5 => ?_)⟩
   · have e5 : isT ts.tail [59] = false := by simpa [isTr] using e5
     rw [if_neg (by rw [e5]; decide)] at hn ⊢
     have he : (bindR (pBin f 1 ts.tail d) fun e ts' d => bindR (takeT [59] ts' d) fun _ ts' d => (.ok (.mk 7 [] [e] [] [] (hd ts).pos, ts', d) : R S)) = mapR (fun e => .mk 7 [] [e] [] [] (hd ts).pos) (thenR (pBin f 1 ts.tail d) fun ts d => takeT [59] ts d) := by
      simp only [mapR, thenR, bindR_bind, bindR_ok]
     rw [he] at hn ⊢
     refine br_pos hx1.err0 ?_
     refine Tri.mono (Y.bin 1 ts.tail d x1 h (by decide) hI hx1 hn.map.bind) ?_
     rintro _ h4 ⟨x4, c4, rfl, hxh4, hX4⟩
     refine ⟨_, _, _, _, _, _, _, _, _, _, _, _, _, _, _, _, rfl, ?_⟩
     intro b hb h5 hh
     have hxh5 := Put.ext hh hb
     refine Tri.mono (takew_r hX4.1 (hI.ext (hxh4.trans hxh5)) [59]) ?_
     rintro _ h5 ⟨rfl, x5, rfl, hx5⟩
     exact ⟨_, _, _, _, _, _, _, rfl, rfl, rfl, x5, ⟨7, [], ad b 0, 1, 1, none, 0, 0, none, 0, 0, _⟩, rfl, hxh4.trans hxh5, (hX4.then hx5 fun _ h => h).map fun e he => RS_mk 7 [] _ 1 0 0 (At.put1 hxh4 hb hh (Ext.refl _) (he.ext hxh5.only)) At.nil At.nil⟩
   · have e5 : isT ts.tail [59] = true := by simpa [isTr] using e5
     rw [if_pos e5] at hn ⊢
     refine Tri.mono (takew_r hx1 hI [59]) ?_
     rintro _ h ⟨rfl, x3, rfl, hx3⟩
     rw [bindR_ok] at hx3
     exact ⟨_, _, _, _, _, _, _, rfl, rfl, rfl, x3, ⟨7, [], none, 0, 0, none, 0, 0, none, 0, 0, _⟩, rfl, Ext.refl _, (XX.unit hx3).map (k := fun _ => S.mk 7 [] [] [] [] (hd ts).pos) fun _ _ => RS_mk 7 [] _ 0 0 0 At.nil At.nil At.nil⟩
 have e4 : isT ts [114, 101, 116, 117, 114, 110] = false := e4
 refine Tri.mono (isw_r hx hI [98, 114, 101, 97, 107]) ?_
 rintro _ h ⟨rfl, rfl⟩
 refine ⟨_, rfl, br_split (fun e5 => ?_) (fun e5 => ?_)⟩
 · have e5 : isT ts [98, 114, 101, 97, 107] = true := e5
   rw [if_neg (by rw [isT_notK1 e5]; decide), if_neg (by rw [e1]; decide), if_neg (by rw [e2]; decide), if_neg (by rw [e3]; decide), if_neg (by rw [e4]; decide), if_pos e5] at hn ⊢
   refine Tri.mono (takew_r hx hI [98, 114, 101, 97, 107]) ?_
   rintro _ h ⟨rfl, x1, rfl, hx1⟩
   have hx1 := kw e5 rfl rfl hx1
   refine ⟨_, _, _, _, _, _, _, rfl, ?_⟩
   refine Tri.mono (takew_r hx1 hI [59]) ?_
   rintro _ h ⟨rfl, x3, rfl, hx3⟩
   rw [bindR_ok] at hx3
   exact ⟨_, _, _, _, _, _, _, rfl, rfl, rfl, x3, ⟨8, [], none, 0, 0, none, 0, 0, none, 0, 0, _⟩, rfl, Ext.refl _, (XX.unit hx3).map (k := fun _ => S.mk 8 [] [] [] [] (hd ts).pos) fun _ _ => RS_mk 8 [] _ 0 0 0 At.nil At.nil At.nil⟩
 have e5 : isT ts [98, 114, 101, 97, 107] = false := e5
 refine Tri.mono (isw_r hx hI [99, 111, 110, 116, 105, 110, 117, 101]) ?_
 rintro _ h ⟨rfl, rfl⟩
 refine ⟨_, rfl, br_split (fun e6 => ?_) (fun e6 => ?_)⟩
 · have e6 : isT ts [99, 111, 110, 116, 105, 110, 117, 101] = true := e6
   rw [if_neg (by rw [isT_notK1 e6]; decide), if_neg (by rw [e1]; decide), if_neg (by rw [e2]; decide), if_neg (by rw [e3]; decide), if_neg (by rw [e4]; decide), if_neg (by rw [e5]; decide), if_pos e6] at hn ⊢
   refine Tri.mono (takew_r hx hI [99, 111, 110, 116, 105, 110, 117, 101]) ?_
   rintro _ h ⟨rfl, x1, rfl, hx1⟩
   have hx1 := kw e6 rfl rfl hx1
   refine ⟨_, _, _, _, _, _, _, rfl, ?_⟩
   refine Tri.mono (takew_r hx1 hI [59]) ?_
   rintro _ h ⟨rfl, x3, rfl, hx3⟩
   rw [bindR_ok] at hx3
   exact ⟨_, _, _, _, _, _, _, rfl, rfl, rfl, x3, ⟨9, [], none, 0, 0, none, 0, 0, none, 0, 0, _⟩, rfl, Ext.refl _, (XX.unit hx3).map (k := fun _ => S.mk 9 [] [] [] [] (hd ts).pos) fun _ _ => RS_mk 9 [] _ 0 0 0 At.nil At.nil At.nil⟩
 have e6 : isT ts [99, 111, 110, 116, 105, 110, 117, 101] = false := e6
 refine Tri.mono (ident_r hx hI) ?_
 rintro _ h ⟨rfl, x1, nm, pos, rfl, hX1⟩
 rw [bindR_ok] at hX1
 refine ⟨_, _, _, _, _, _, _, _, _, rfl, ?_⟩
 rcases (Bool.eq_false_or_eq_true (isK ts 1)).symm with nk | nk
 · -- no statement
   rw [if_neg (by rw [nk]; decide), if_neg (by rw [e1]; decide), if_neg (by rw [e2]; decide), if_neg (by rw [e3]; decide), if_neg (by rw [e4]; decide), if_neg (by rw [e5]; decide), if_neg (by rw [e6]; decide)] at hn ⊢
   have hk' : takeK 1 ts d = .error (30, (hd ts).pos) := by simp [takeK, nk]
   rw [hk'] at hX1
   have hx1 : XS K x1 (.error (30, (hd ts).pos) : R Unit) := hX1.1
   refine Tri.mono (isw_r hx1 hI [40]) ?_
   rintro _ h ⟨rfl, rfl⟩
   refine ⟨_, rfl, br_neg rfl ?_⟩
   refine Tri.mono (isw_r hx1 hI [91]) ?_
   rintro _ h ⟨rfl, rfl⟩
   refine ⟨_, rfl, br_neg rfl ?_⟩
   refine Tri.mono (takew_r hx1 hI [61]) ?_
   rintro _ h ⟨rfl, x2, rfl, hx2⟩
   have hx2 : XS K x2 (.error (30, (hd ts).pos) : R Unit) := hx2
   refine ⟨_, _, _, _, _, _, _, rfl, ?_⟩
   refine Tri.mono (bin_er 10 1 (by omega) hx2 hI) ?_
   rintro _ h3 ⟨x3, c3, rfl, hxh3, hX3⟩
   have hx3 : XS K x3 (.error (30, (hd ts).pos) : R Unit) := hX3.1
   refine ⟨_, _, _, _, _, _, _, _, _, _, _, _, _, _, _, _, rfl, ?_⟩
   intro b hb h4 hh
   have hxh4 := Put.ext hh hb
   refine Tri.mono (takew_r hx3 (hI.ext (hxh3.trans hxh4)) [59]) ?_
   rintro _ h4 ⟨rfl, x4, rfl, hx4⟩
   exact ⟨_, _, _, _, _, _, _, rfl, rfl, rfl, x4, ⟨2, nm, ad b 0, 1, 1, none, 0, 0, none, 0, 0, _⟩, rfl, hxh3.trans hxh4, XX.er hx4⟩
 rw [if_pos nk] at hn ⊢
 have hk' : takeK 1 ts d = .ok (hd ts, ts.tail, d) := by simp [takeK, nk]
 rw [hk'] at hX1
 have hx1 : XS K x1 (.ok ((), ts.tail, d) : R Unit) := hX1.1
 obtain ⟨rfl, _⟩ := hX1.2 _ _ _ rfl
 match f, hf5, Y, hn with
 | 0, hf5, Y, hn => exact absurd (by unfold pNamed; rfl) hn
 | f + 1, hf5, Y, hn =>
 have Y := yok K f (by omega)
 rw [pNamed] at hn ⊢
 have only1 : ∀ {t u : Bytes}, isT ts.tail t = true → u ≠ t → isT ts.tail u = false := fun {t u} e hne => by
  cases hu : isT ts.tail u with
  | false => rfl
  | true =>
    simp only [isT, Bool.and_eq_true, beq_iff_eq] at e hu
    exact absurd (hu.2.symm.trans e.2) hne
 refine Tri.mono (isw_r hx1 hI [40]) ?_
 rintro _ h ⟨rfl, rfl⟩
 refine ⟨_, rfl, br_split (fun f1 => ?_) (fun f1 => ?_)⟩
 · have f1 : isT ts.tail [40] = true := f1
   rw [if_neg (by rw [only1 f1 (by decide)]; decide), if_neg (by rw [only1 f1 (by decide)]; decide)] at hn ⊢
   match f, hf5, hn with
   | 0, hf5, hn => exact absurd (by unfold pCall; rfl) hn
   | f + 1, hf5, hn =>
   rw [pCall_args] at hn ⊢
   have he : (bindR (mapR (fun l => .mk 5 [] (hd ts).text 0 [] l (hd ts).pos) (pArgL f ts.tail d)) fun e ts' d => bindR (takeT [59] ts' d) fun _ ts' d => (.ok (.mk 4 [] [e] [] [] (hd ts).pos, ts', d) : R S)) =
    mapR (fun l => .mk 4 [] [.mk 5 [] (hd ts).text 0 [] l (hd ts).pos] [] [] (hd ts).pos) (thenR (pArgL f ts.tail d) fun ts d => takeT [59] ts d) := by simp only [mapR, thenR, bindR_bind, bindR_ok]
   rw [he] at hn ⊢
   refine Tri.mono ((yok K f (by omega)).args ts.tail d x1 h hI hx1 hn.map.bind) ?_
   rintro _ h2 ⟨x2, a, n, c, rfl, hxh2, hX2⟩
   refine ⟨_, _, _, _, _, _, _, _, _, _, rfl, ?_⟩
   intro b hb h3 hh
   have hxh3 := Put.ext hh hb
   refine Tri.mono (takew_r hX2.1 (hI.ext (hxh2.trans hxh3)) [59]) ?_
   rintro _ h3 ⟨rfl, x3, rfl, hx3⟩
   refine ⟨_, _, _, _, _, _, _, rfl, rfl, rfl, x3, ⟨4, [], ad b 0, 1, 1, none, 0, 0, none, 0, 0, _⟩, rfl, hxh2.trans hxh3, (hX2.then hx3 fun _ h => h).map fun l hl => ?_⟩
   obtain ⟨rfl, hl⟩ := hl
   exact RS_mk 4 [] _ 1 0 0 (At.put1 hxh2 hb hh (Ext.refl _) (RE_iff.2 ⟨a, c, rfl, hl.ext (RE_mono _ _) hxh3.only⟩)) At.nil At.nil
 have f1 : isT ts.tail [40] = false := f1
 refine Tri.mono (isw_r hx1 hI [91]) ?_
 rintro _ h ⟨rfl, rfl⟩
 refine ⟨_, rfl, br_split (fun f2 => ?_) (fun f2 => ?_)⟩
 · have f2 : isT ts.tail [91] = true := f2
   rw [if_neg (by rw [only1 f2 (by decide)]; decide), if_pos f2] at hn ⊢
   have he : (bindR (takeT [91] ts.tail d) fun _ ts' d => bindR (pBin f 1 ts' d) fun i ts' d => bindR (takeT [93] ts' d) fun _ ts' d => bindR (takeT [61] ts' d) fun _ ts' d =>
    bindR (pBin f 1 ts' d) fun e ts' d => bindR (takeT [59] ts' d) fun _ ts' d => (.ok (.mk 3 (hd ts).text [i, e] [] [] (hd ts).pos, ts', d) : R S)) =
    mapR (fun ie => .mk 3 (hd ts).text [ie.1, ie.2] [] [] (hd ts).pos) (thenR (pairR (thenR (thenR (bindR (takeT [91] ts.tail d) fun _ ts d => pBin f 1 ts d) fun ts d => takeT [93] ts d) fun ts d => takeT [61] ts d) fun ts d => pBin f 1 ts d) fun ts d => takeT [59] ts d) := by
     simp only [mapR, thenR, pairR, bindR_bind, bindR_ok]
   rw [he] at hn ⊢
   refine Tri.mono (takew_r hx1 hI [91]) ?_
   rintro _ h ⟨rfl, x2, rfl, hx2⟩
   rw [bindR_ok] at hx2
   refine ⟨_, _, _, _, _, _, _, rfl, ?_⟩
   have np := hn.map.bind
   refine Tri.mono (bin_r Y 1 (by decide) _ hI hx2 np.bind.bind.bind) ?_
   rintro _ h3 ⟨x3, c3, rfl, hxh3, hX3⟩
   refine ⟨_, _, _, _, _, _, _, _, _, _, _, _, _, _, _, _, rfl, ?_⟩
   intro b8 hb8 h4 hh4
   have hxh4 := Put.ext hh4 hb8
   have hx04 := hxh3.trans hxh4
   have hI4 := hI.ext hx04
   refine Tri.mono (takew_r hX3.1 hI4 [93]) ?_
   rintro _ h4 ⟨rfl, x5, rfl, hx5⟩
   have hX5 := hX3.then hx5 fun _ h => h
   refine ⟨_, _, _, _, _, _, _, rfl, ?_⟩
   refine Tri.mono (takew_r hX5.1 hI4 [61]) ?_
   rintro _ h4 ⟨rfl, x6, rfl, hx6⟩
   have hX6 := hX5.then hx6 fun _ h => h
   refine ⟨_, _, _, _, _, _, _, rfl, ?_⟩
   refine Tri.mono (bin_r Y 1 (by decide) _ hI4 hX6.1 np.pair) ?_
   rintro _ h7 ⟨x7, c7, rfl, hxh7, hX7⟩
   refine ⟨_, _, _, _, _, _, _, _, _, _, _, _, _, _, _, _, rfl, ?_⟩
   intro b9 hb9 h8 hh8
   have hx07 := hx04.trans hxh7
   have hM7 : LM 186 7 h h7 (ad b8 0) 1 1 [c3.l] := LM.one rfl hxh3 hb8 hh4 hxh7
   refine Raw.mono (LM.append (h0 := h) (cs := c7.l) und172 elem186 rfl rfl rfl rfl rfl hM7 hb9 hh8 rfl c7.one (by omega) hx07.dom) ?_
   rintro _ h9 ⟨b10, cap10, rfl, hk10, hd10, hn10, hq10, hM10, hR10⟩
   have hx09 : Ext h h9 := fun q o hq => hk10 q o (ne_of hq) (hx07 q o hq)
   have hP : XX K x7 (pairR (thenR (thenR (bindR (takeT [91] ts.tail d) fun _ ts d => pBin f 1 ts d) fun ts d => takeT [93] ts d) fun ts d => takeT [61] ts d) fun ts d => pBin f 1 ts d) fun ie => At 7 (RE plR 7) (only (New h) h9) (ad b10 0) [ie.1, ie.2] := by
    refine hX6.pair hX7 fun i e hi he => hM10.at (RE_mono _ _) (hR10 (RE_mono _ _) (xs := [i]) ⟨rfl, fun j y cs hy hcs => ?_⟩ (he.ext ?_))
    · match j, hy, hcs with
      | 0, hy, hcs =>
        simp at hy hcs; subst hy; subst hcs
        refine hi.ext (only_ext fun k o hk ho => ⟨⟨hk, fun e => ?_⟩, hxh7 _ _ (hxh4 _ _ ho)⟩)
        injection e with e; injection e with e; subst e
        rw [hb8] at ho; cases ho
      | j + 1, hy, hcs => simp at hy
    · refine only_ext fun k o hk ho => ⟨⟨hx04.dom k hk, fun e => ?_⟩, ho⟩
      injection e with e; injection e with e; subst e
      rw [New, Put.at hh4] at hk; cases hk
   refine ⟨_, _, _, rfl, ?_⟩
   refine Tri.mono (takew_r hP.1 (hI.ext hx09) [59]) ?_
   rintro _ h9 ⟨rfl, x8, rfl, hx8⟩
   exact ⟨_, _, _, _, _, _, _, rfl, rfl, rfl, x8, ⟨3, (hd ts).text, ad b10 0, 2, cap10, none, 0, 0, none, 0, 0, _⟩, rfl, hx09, (hP.then hx8 fun _ h => h).map fun ie hie => RS_mk 3 _ _ cap10 0 0 hie At.nil At.nil⟩
 have f2 : isT ts.tail [91] = false := f2
 refine Tri.mono (takew_r hx1 hI [61]) ?_
 rintro _ h ⟨rfl, x2, rfl, hx2⟩
 rw [bindR_ok] at hx2
 refine ⟨_, _, _, _, _, _, _, rfl, ?_⟩
 rcases (Bool.eq_false_or_eq_true (isT ts.tail [61])).symm with f3 | f3
 · rw [if_neg (by rw [f3]; decide), if_neg (by rw [f2]; decide)] at hn ⊢
   match f, hf5, Y, hn with
   | 0, hf5, Y, hn => exact absurd (by unfold pCall; rfl) hn
   | f + 1, hf5, Y, hn =>
   have h61 : takeT [61] ts.tail d = .error (30, (hd ts.tail).pos) := by simp [takeT, f3]
   have h40 : takeT [40] ts.tail d = .error (30, (hd ts.tail).pos) := by simp [takeT, f1]
   rw [h61] at hx2
   rw [pCall_succ, h40]
   refine Tri.mono (bin_er 10 1 (by omega) hx2 hI) ?_
   rintro _ h3 ⟨x3, c3, rfl, hxh3, hX3⟩
   have hx3 : XS K x3 (.error (30, (hd ts.tail).pos) : R Unit) := hX3.1
   refine ⟨_, _, _, _, _, _, _, _, _, _, _, _, _, _, _, _, rfl, ?_⟩
   intro b hb h4 hh
   have hxh4 := Put.ext hh hb
   refine Tri.mono (takew_r hx3 (hI.ext (hxh3.trans hxh4)) [59]) ?_
   rintro _ h4 ⟨rfl, x4, rfl, hx4⟩
   exact ⟨_, _, _, _, _, _, _, rfl, rfl, rfl, x4, ⟨2, (hd ts).text, ad b 0, 1, 1, none, 0, 0, none, 0, 0, _⟩, rfl, hxh3.trans hxh4, XX.er hx4⟩
 · rw [if_pos f3] at hn ⊢
   have he : (bindR (takeT [61] ts.tail d) fun _ ts' d => bindR (pBin f 1 ts' d) fun e ts' d => bindR (takeT [59] ts' d) fun _ ts' d => (.ok (.mk 2 (hd ts).text [e] [] [] (hd ts).pos, ts', d) : R S)) =
    mapR (fun e => .mk 2 (hd ts).text [e] [] [] (hd ts).pos) (thenR (bindR (takeT [61] ts.tail d) fun _ ts d => pBin f 1 ts d) fun ts d => takeT [59] ts d) := by simp only [mapR, thenR, bindR_bind, bindR_ok]
   rw [he] at hn ⊢
   refine Tri.mono (bin_r Y 1 (by decide) _ hI hx2 hn.map.then.bind) ?_
   rintro _ h4 ⟨x4, c4, rfl, hxh4, hX4⟩
   refine ⟨_, _, _, _, _, _, _, _, _, _, _, _, _, _, _, _, rfl, ?_⟩
   intro b hb h5 hh
   have hxh5 := Put.ext hh hb
   refine Tri.mono (takew_r hX4.1 (hI.ext (hxh4.trans hxh5)) [59]) ?_
   rintro _ h5 ⟨rfl, x5, rfl, hx5⟩
   exact ⟨_, _, _, _, _, _, _, rfl, rfl, rfl, x5, ⟨2, (hd ts).text, ad b 0, 1, 1, none, 0, 0, none, 0, 0, _⟩, rfl, hxh4.trans hxh5, (hX4.then hx5 fun _ h => h).map fun e he => RS_mk 2 _ _ 1 0 0 (At.put1 hxh4 hb hh (Ext.refl _) (he.ext hxh5.only)) At.nil At.nil⟩
theorem zok (K : QK) (f : Nat) (hf : f ≤ 5000000) : ZOk K f := by
 induction f using Nat.strongRecOn with
 | _ f ih =>
   match f, ih, hf with
   | 0, ih, hf => exact ⟨fun ts d x h _ _ hn => absurd (by unfold pBlock; rfl) hn, fun ts d x h _ _ hn => absurd (by unfold pStmt; rfl) hn⟩
   | f + 1, ih, hf =>
     have Z : ∀ g, g ≤ f → ZOk K g := fun g hg => ih g (by omega) (by omega)
     exact ⟨fun ts d x h hI hx hn => blockr_ok Z (by omega) hI hx hn, fun ts d x h hI hx hn => stmtr_ok Z (by omega) hI hx hn⟩
end
end Go.Proofs.D
namespace Go.Proofs.D
open Go Go.Den Go.Sx
set_option maxRecDepth 100000
attribute [local irreducible] IntKind.wrap Tri
theorem elem95 : ElemT 95 4 := ⟨_, _, rfl, rfl, rfl, rfl, by decide⟩
theorem elem103 : ElemT 103 4 := ⟨_, _, rfl, rfl, rfl, rfl, by decide⟩
theorem und30 : Tryz.prog.underlying 30 = some (.slice 95) := rfl
theorem und31 : Tryz.prog.underlying 31 = some (.slice 103) := rfl
def ParI (K : QK) (F : Nat) (fin : R Pg) (h : PHeap) (m : Nat) (x : XC) (ga : Option Addr) (gn gc : Nat) (fa : Option Addr) (fn fc : Nat) (h' : PHeap) : Prop :=
 ∃ (r' : R Pg) (cG cF : List (List Value)), gn + fn + m ≤ F ∧ Ext h h' ∧ LM 95 4 h h' ga gn gc cG ∧ LM 103 4 h h' fa fn fc cF ∧ (∀ b, fa = ad b 0 → ga ≠ ad b 0) ∧
   XX K x r' (fun p => LR (RG plR) h h' ga cG p.globals ∧ EL (RF plR 7 6) h h' fa ga cF p.funcs) ∧ (bindR r' fun p ts d => pProg m p ts d) = fin
section
variable {K : QK} {F : Nat} {fin : R Pg} {h h1 h2 h3 : PHeap} {m : Nat} {x x2 : XC} {ga : Option Addr} {gn gc : Nat} {fa : Option Addr} {fn fc : Nat} {cG cF : List (List Value)} {p : Pg} {ts : List Tok} {d : Int}
theorem ParI.addG (hm : gn + fn + (m + 1) ≤ F) (hF : F ≤ 1000000) (hx : Ext h h1) (hMG : LM 95 4 h h1 ga gn gc cG) (hMF : LM 103 4 h h1 fa fn fc cF) (hdis : ∀ b, fa = ad b 0 → ga ≠ ad b 0) (hLG : LR (RG plR) h h1 ga cG p.globals) (hLF : EL (RF plR 7 6) h h1 fa ga cF p.funcs)
 {nm : List UInt8} {sz vl pos : Int} (hX : XX K x2 (pGlobal ts d) fun g => RG plR h1 g [vS nm, vI sz, vI vl, vI pos]) (hf : (bindR (pGlobal ts d) fun g ts d => pProg m ⟨p.globals ++ [g], p.funcs⟩ ts d) = fin)
 {b : Nat} (hb : h1 b = none) (hh : h2 = h1.put b (.cells ⟨[vS nm, vI sz, vI vl, vI pos]⟩ 95)) {ρ : Operand → Value} {cl : Call} {u v : Operand} {ty : TypeId} (hcl : cl.callee = .builtin .append) (hca : cl.args = #[u, v]) (hts : cl.argTypes = #[30, 30]) (hu : ρ u = vL ga gn gc) (hv : ρ v = vL (ad b 0) 1 1) :
 Raw Tryz.prog (execOp ρ (mkO (.call cl) ty)) h2 fun w h3 => ∃ sa sn sc, w = vL sa sn sc ∧ ParI K F fin h m x2 sa sn sc fa fn fc h3 := by
 refine Raw.mono (LM.append (h0 := h) (cs := [vS nm, vI sz, vI vl, vI pos]) und30 elem95 hcl hca hts hu hv hMG hb hh rfl rfl (by omega) hx.dom) ?_
 rintro _ h3 ⟨b3, cap3, rfl, hk3, hd3, hn3, hq3, hM3, hR3⟩
 have hap := append_apart hR3
 refine ⟨_, _, _, rfl, mapR (fun g => ⟨p.globals ++ [g], p.funcs⟩) (pGlobal ts d), cG ++ [[vS nm, vI sz, vI vl, vI pos]], cF, by omega, fun q o hq => hk3 q o (ne_of hq) (hx q o hq), hM3, ?_, ?_, ?_, ?_⟩
 · refine hMF.keep fun q hq => ?_
   have g := hMF.own q hq
   cases ho : h1 q with
   | none => exact absurd ho g.2
   | some o => exact (hap q o g.1 (hdis q hq) ho).2
 · intro q hq
   have g := hMF.own q hq
   cases ho : h1 q with
   | none => exact absurd ho g.2
   | some o => exact (hap q o g.1 (hdis q hq) ho).1
 · refine hX.map fun g hg => ⟨hR3 (RG_mono _) hLG hg, ?_⟩
   exact hLF.mono (RF_mono _ _ _) fun q o g1 g2 g3 g4 => ⟨g2, hap q o g1 g3 g4⟩
 · rw [← hf]; simp only [mapR, bindR_bind, bindR_ok]
theorem ParI.addF (hm : gn + fn + (m + 1) ≤ F) (hF : F ≤ 1000000) (hx : Ext h h1) (hMG : LM 95 4 h h1 ga gn gc cG) (hMF : LM 103 4 h h1 fa fn fc cF) (hdis : ∀ b, fa = ad b 0 → ga ≠ ad b 0) (hLG : LR (RG plR) h h1 ga cG p.globals) (hLF : EL (RF plR 7 6) h h1 fa ga cF p.funcs)
 {cs : List Value} (hcs : cs.length = 4) (hone : allOne cs = true) {r : R Go.Sx.F} (hx12 : Ext h1 h2) (hX : XX K x2 r fun g => RF plR 7 6 (only (New h1) h2) g cs) (hf : (bindR r fun g ts d => pProg m ⟨p.globals, p.funcs ++ [g]⟩ ts d) = fin)
 {b : Nat} (hb : h2 b = none) (hh : h3 = h2.put b (.cells ⟨cs⟩ 103)) {ρ : Operand → Value} {cl : Call} {u v : Operand} {ty : TypeId} (hcl : cl.callee = .builtin .append) (hca : cl.args = #[u, v]) (hts : cl.argTypes = #[31, 31]) (hu : ρ u = vL fa fn fc) (hv : ρ v = vL (ad b 0) 1 1) :
 Raw Tryz.prog (execOp ρ (mkO (.call cl) ty)) h3 fun w h4 => ∃ sa sn sc, w = vL sa sn sc ∧ ParI K F fin h m x2 ga gn gc sa sn sc h4 := by
 have hx2' := hx.trans hx12
 have hMG2 := hMG.ext hx12
 have hMF2 := hMF.ext hx12
 have hdis' : ∀ b, ga = ad b 0 → fa ≠ ad b 0 := fun b g1 g2 => hdis b g2 g1
 refine Raw.mono (LM.append (h0 := h) (cs := cs) und31 elem103 hcl hca hts hu hv hMF2 hb hh hcs hone (by omega) hx2'.dom) ?_
 rintro _ h4 ⟨b4, cap4, rfl, hk4, hd4, hn4, hq4, hM4, hR4⟩
 have hap := append_apart hR4
 refine ⟨_, _, _, rfl, mapR (fun g => ⟨p.globals, p.funcs ++ [g]⟩) r, cG, cF ++ [cs], by omega, fun q o hq => hk4 q o (ne_of hq) (hx2' q o hq), ?_, hM4, ?_, ?_, ?_⟩
 · refine hMG2.keep fun q hq => ?_
   have g := hMG2.own q hq
   cases ho : h2 q with
   | none => exact absurd ho g.2
   | some o => exact (hap q o g.1 (hdis' q hq) ho).2
 · intro q hq hg
   have g := hMG2.own q hg
   cases ho : h2 q with
   | none => exact absurd ho g.2
   | some o => exact (hap q o g.1 (hdis' q hg) ho).1 hq
 · refine hX.map fun g hg => ⟨⟨hLG.1, hLG.2⟩, ?_⟩
   have hE2 := hLF.mono (RF_mono _ _ _) (h' := h2) (b := fa) (b' := ga) fun q o g1 g2 g3 g4 => ⟨g2, g3, hx12 q o g4⟩
   refine (hE2.snoc (x := g) (cs := cs) ((RF_mono _ _ _).ap ?_ hg)).mono (RF_mono _ _ _) fun q o g1 g2 g3 g4 => ⟨(hap q o g1 g2 g4).1, g3, (hap q o g1 g2 g4).2⟩
   exact only_ext fun q o hq ho => ⟨⟨hx.dom q hq, fun e => (hMF.own q e).2 hq, fun e => (hMG.own q e).2 hq⟩, ho⟩
 · rw [← hf]; simp only [mapR, bindR_bind, bindR_ok]
end
def cont2 (m : Nat) (l : List Bytes) (ts : List Tok) (d : Int) : R (List Bytes) :=
 thenR (if l = [] then pParams m ts d else pMoreP m l ts d) fun ts d => takeT [41] ts d
def ParseR (s : Bytes) (h : PHeap) (v : Value) (h' : PHeap) : Prop :=
 Ext h h' ∧ match parseS s with
  | .error e => v = vT [vA [vL none 0 0, vL none 0 0], vI e.2, vI e.1]
  | .ok p => ∃ ga gc fa fc, v = vT [vA [vL ga p.globals.length gc, vL fa p.funcs.length fc], vI 0, vI 0] ∧ At 4 (RG plR) (only (New h) h') ga p.globals ∧ At 4 (RF plR 7 6) (only (New h) h') fa p.funcs
theorem pGlobal_eq (ts : List Tok) (d : Int) : pGlobal ts d = bindR (bindR (takeT [118, 97, 114] ts d) fun _ ts d => takeK 1 ts d) fun t ts d =>
 if isT ts [61] then mapR (fun n : Tok => (⟨t.text, 0, n.value, t.pos⟩ : G)) (thenR (bindR (takeT [61] ts d) fun _ ts d => takeK 2 ts d) fun ts d => takeT [59] ts d)
 else if isT ts [91] then mapR (fun n : Tok => (⟨t.text, n.value, 0, t.pos⟩ : G)) (thenR (thenR (bindR (takeT [91] ts d) fun _ ts d => takeK 2 ts d) fun ts d => takeT [93] ts d) fun ts d => takeT [59] ts d)
 else bindR (takeT [59] ts d) fun _ ts d => .ok (⟨t.text, 0, 0, t.pos⟩, ts, d) := by
 simp only [pGlobal, mapR, thenR, bindR_bind, bindR_ok]
theorem pFunc_eq (f : Nat) (ts : List Tok) (d : Int) : pFunc f ts d = mapR (fun q : (Tok × List Bytes) × List S => (⟨q.1.1.text, q.1.2, q.2, q.1.1.pos⟩ : F)) (pairR (pairR (bindR (takeT [102, 117, 110, 99] ts d) fun _ ts d => takeK 1 ts d) fun ts d => bindR (takeT [40] ts d) fun _ ts d => cont2 f [] ts d) fun ts d => pBlock f ts d) := by
 simp only [pFunc, cont2, if_true, mapR, pairR, thenR, bindR_bind, bindR_ok]
theorem parse_r (s : Bytes) (h : PHeap) : Tri Tryz.prog 15 [vS s] h (ParseR s h) := by
 refine T15 ?_
 unfold R15
 refine Tri.mono (scan_r s h) ?_
 rintro v h1 ⟨hx1, hv⟩
 have hso := scanS_ok s
 cases hsc : scanS s with
 | error e =>
   rw [hsc] at hv
   have he := hso.1 e hsc
   refine ⟨_, _, _, _, _, hv, br_pos ?_ ⟨hx1, ?_⟩⟩
   · have : (e.1 : Int) ≠ 0 := by omega
     simpa using this
   · simp only [parseS, hsc]
 | ok ts =>
   rw [hsc] at hv
   obtain ⟨tb, tc, rfl, htb, hT⟩ := hv
   obtain ⟨hend, hlen, hwf⟩ := hso.2 ts hsc
   refine ⟨_, _, _, _, _, rfl, br_neg rfl ?_⟩
   have hI : QK.In ⟨tb, tc, ts⟩ h1 := ⟨hT.ext RT_mono only_sub, by simp only; omega⟩
   have hpos := len_pos hend
   have hx0 : XS ⟨tb, tc, ts⟩ ⟨ad tb 0, ts.length, tc, 0, 0, 0, 0⟩ (.ok ((⟨[], []⟩ : Pg), ts, 0)) :=
    ⟨⟨rfl, rfl, rfl⟩, 0, rfl, by simp only; omega, rfl, rfl, hend, rfl, by omega, by omega⟩
   have hfn := (pProg_fn (20 * ts.length + 40) ⟨[], []⟩ ts 0 (by omega)).1
   have hpar : parseS s = outP (pProg (20 * ts.length + 40) ⟨[], []⟩ ts 0) := by
    unfold parseS; rw [hsc]; rfl
   generalize hF : 20 * ts.length + 40 = F at *
   have hFb : F ≤ 100000 := by omega
   clear hF hwf hT
   generalize hfin : pProg F ⟨[], []⟩ ts 0 = fin at *
   have hn : NF fin := hfn 0
   refine ⟨fun m a1 a2 a3 a4 a5 a6 a7 ga gn gc fa fn fc h' => ParI ⟨tb, tc, ts⟩ F fin h1 m ⟨a1, a2, a3, a4, a5, a6, a7⟩ ga gn gc fa fn fc h',
    ⟨F, .ok (⟨[], []⟩, ts, 0), [], [], by omega, Ext.refl _, LM.nil, LM.nil, (fun b e => by cases e), ⟨hx0, fun y ts d h => by cases h; exact ⟨LR.nil, EL.nil⟩⟩, hfin⟩, ?_⟩
   rintro m a1 a2 a3 a4 a5 a6 a7 ga gn gc fa fn fc h2 ⟨r', cG, cF, hm, hx2, hMG, hMF, hdis, hX, hf⟩
   have hI2 := hI.ext hx2
   have he0 := hX.1.err0
   have hxE : Ext h h2 := hx1.trans hx2
   refine br_split (fun e => ?_) (fun e => ?_)
   · obtain ⟨p, ts2, d2, rfl⟩ := okR_true (he0.symm.trans e)
     rw [bindR_ok] at hf
     obtain ⟨hLG, hLF⟩ := hX.2 _ _ _ rfl
     refine Tri.mono (kind_r hX.1 hI2 0) ?_
     rintro _ h2 ⟨rfl, rfl⟩
     refine ⟨_, rfl, ?_⟩
     match m, hf, hm with
     | 0, hf, hm => exact absurd hf.symm hn
     | m + 1, hf, hm =>
     rw [pProg_succ] at hf
     refine br_split (fun e0 => ?_) (fun e0 => ?_)
     · have e0 : isK ts2 0 = false := by simpa [isKr] using e0
       rw [if_neg (by rw [e0]; decide)] at hf
       refine Tri.mono (isw_r hX.1 hI2 [118, 97, 114]) ?_
       rintro _ h2 ⟨rfl, rfl⟩
       refine ⟨_, rfl, br_split (fun e1 => ?_) (fun e1 => ?_)⟩
       · have e1 : isT ts2 [118, 97, 114] = true := e1
         rw [if_pos e1] at hf
         refine Tri.mono (takew_r hX.1 hI2 [118, 97, 114]) ?_
         rintro _ h2 ⟨rfl, x1, rfl, hx1'⟩
         rw [bindR_ok] at hx1'
         refine ⟨_, _, _, _, _, _, _, rfl, ?_⟩
         refine Tri.mono (ident_r hx1' hI2) ?_
         rintro _ h2 ⟨rfl, x3, nm, pos, rfl, hX3⟩
         refine ⟨_, _, _, _, _, _, _, _, _, rfl, ?_⟩
         have hG := pGlobal_eq ts2 d2
         generalize (bindR (takeT [118, 97, 114] ts2 d2) fun _ ts d => takeK 1 ts d) = r3 at *
         have fine : ∀ {sz vl : Int} {x6 : XC}, XX ⟨tb, tc, ts⟩ x6 (pGlobal ts2 d2) (fun g => RG plR h2 g [vS nm, vI sz, vI vl, vI pos]) → ∀ (b1 : Nat), h2 b1 = none → ∀ (h11 : PHeap), h11 = h2.put b1 (.cells ⟨[vS nm, vI sz, vI vl, vI pos]⟩ 95) →
          Raw Tryz.prog (execOp (rho [(71, vL ga gn gc), (73, vL (ad b1 0) 1 1)]) (mkO o15_13 30)) h11 fun v_10 h_12 =>
          ∃ (sa2 : Option Addr) (sn2 sc2 : Nat), v_10 = vL sa2 sn2 sc2 ∧
          ∃ (m3 : Nat), m3 < m + 1 ∧ ParI ⟨tb, tc, ts⟩ F fin h1 m3 x6 sa2 sn2 sc2 fa fn fc h_12 ∧
          ([vL none 0 0, vL none 0 0] : List Value) = ([vL none 0 0, vL none 0 0] : List Value) ∧ True := by
          intro sz vl x6 hX6 b1 hb1 h11 hh11
          refine Raw.mono (ParI.addG (x2 := x6) hm (by omega) hx2 hMG hMF hdis hLG hLF hX6 hf hb1 hh11 rfl rfl rfl rfl rfl) ?_
          rintro _ h12 ⟨sa, sn, sc, rfl, hP⟩
          exact ⟨_, _, _, rfl, m, by omega, hP, rfl, trivial⟩
         refine Tri.mono (isw_r hX3.1 hI2 [61]) ?_
         rintro _ h2 ⟨rfl, rfl⟩
         refine ⟨_, rfl, br_split (fun e2 => ?_) (fun e2 => ?_)⟩
         · obtain ⟨t3, ts3, d3, rfl, q3⟩ := isTr_true e2
           rw [bindR_ok, if_pos q3] at hG
           obtain ⟨rfl, rfl⟩ := hX3.2 _ _ _ rfl
           refine Tri.mono (takew_r hX3.1 hI2 [61]) ?_
           rintro _ h2 ⟨rfl, x4, rfl, hx4⟩
           rw [bindR_ok] at hx4
           refine ⟨_, _, _, _, _, _, _, rfl, ?_⟩
           refine Tri.mono (num_r hx4 hI2) ?_
           rintro _ h2 ⟨rfl, x5, n5, rfl, hX5⟩
           refine ⟨_, _, _, _, _, _, _, _, rfl, ?_⟩
           refine Tri.mono (takew_r hX5.1 hI2 [59]) ?_
           rintro _ h2 ⟨rfl, x6, rfl, hx6⟩
           refine ⟨_, _, _, _, _, _, _, rfl, fine (x6 := x6) ?_⟩
           rw [hG]
           exact (hX5.then hx6 fun _ h => h).map fun n hn => by subst hn; rfl
         refine Tri.mono (isw_r hX3.1 hI2 [91]) ?_
         rintro _ h2 ⟨rfl, rfl⟩
         refine ⟨_, rfl, br_split (fun e3 => ?_) (fun e3 => ?_)⟩
         · obtain ⟨t3, ts3, d3, rfl, q3⟩ := isTr_true e3
           rw [bindR_ok, if_neg (by rw [show isT ts3 [61] = false from e2]; decide), if_pos q3] at hG
           obtain ⟨rfl, rfl⟩ := hX3.2 _ _ _ rfl
           refine Tri.mono (takew_r hX3.1 hI2 [91]) ?_
           rintro _ h2 ⟨rfl, x4, rfl, hx4⟩
           rw [bindR_ok] at hx4
           refine ⟨_, _, _, _, _, _, _, rfl, ?_⟩
           refine Tri.mono (num_r hx4 hI2) ?_
           rintro _ h2 ⟨rfl, x5, n5, rfl, hX5⟩
           refine ⟨_, _, _, _, _, _, _, _, rfl, ?_⟩
           refine Tri.mono (takew_r hX5.1 hI2 [93]) ?_
           rintro _ h2 ⟨rfl, x6, rfl, hx6⟩
           have hX6 := hX5.then hx6 fun _ h => h
           refine ⟨_, _, _, _, _, _, _, rfl, ?_⟩
           refine Tri.mono (takew_r hX6.1 hI2 [59]) ?_
           rintro _ h2 ⟨rfl, x7, rfl, hx7⟩
           refine ⟨_, _, _, _, _, _, _, rfl, fine (x6 := x7) ?_⟩
           rw [hG]
           exact (hX6.then hx7 fun _ h => h).map fun n hn => by subst hn; rfl
         · refine Tri.mono (takew_r hX3.1 hI2 [59]) ?_
           rintro _ h2 ⟨rfl, x7, rfl, hx7⟩
           refine ⟨_, _, _, _, _, _, _, rfl, fine (x6 := x7) ?_⟩
           have hG' : pGlobal ts2 d2 = mapR (fun t : Tok => (⟨t.text, 0, 0, t.pos⟩ : G)) (thenR r3 fun ts d => takeT [59] ts d) := by
            rw [hG]
            match r3, e2, e3 with
            | .error y, _, _ => rfl
            | .ok (t3, ts3, d3), e2, e3 =>
              rw [bindR_ok, if_neg (by rw [show isT ts3 [61] = false from e2]; decide), if_neg (by rw [show isT ts3 [91] = false from e3]; decide)]
              simp only [mapR, thenR, bindR_bind, bindR_ok]
           rw [hG']
           exact (hX3.then hx7 fun _ h => h).map fun t ht => by obtain ⟨rfl, rfl⟩ := ht; rfl
       · have e1 : isT ts2 [118, 97, 114] = false := e1
         rw [if_neg (by rw [e1]; decide)] at hf
         have nF : NF (pFunc m ts2 d2) := by rw [← hf] at hn; exact hn.bind
         rw [pFunc_eq] at hf nF
         have nP := nF.map
         refine Tri.mono (takew_r hX.1 hI2 [102, 117, 110, 99]) ?_
         rintro _ h2 ⟨rfl, x1, rfl, hx1'⟩
         rw [bindR_ok] at hx1'
         refine ⟨_, _, _, _, _, _, _, rfl, ?_⟩
         refine Tri.mono (ident_r hx1' hI2) ?_
         rintro _ h2 ⟨rfl, x3, nm, pos, rfl, hX3⟩
         refine ⟨_, _, _, _, _, _, _, _, _, rfl, ?_⟩
         generalize (bindR (takeT [102, 117, 110, 99] ts2 d2) fun _ ts d => takeK 1 ts d) = r3 at *
         refine Tri.mono (takew_r hX3.1 hI2 [40]) ?_
         rintro _ h2 ⟨rfl, x4, rfl, hx4⟩
         refine ⟨_, _, _, _, _, _, _, rfl, ?_⟩
         have hc2 : (bindR r3 fun _ ts d => bindR (takeT [40] ts d) fun _ ts d => cont2 m [] ts d) = bindR (bindR r3 fun _ ts d => takeT [40] ts d) fun _ ts d => cont2 m [] ts d := by rw [bindR_bind]
         have n2 : NF (bindR r3 fun _ ts d => bindR (takeT [40] ts d) fun _ ts d => cont2 m [] ts d) := nP.bind.pair
         generalize (bindR r3 fun _ ts d => takeT [40] ts d) = r4 at *
         generalize hfe : (bindR r3 fun _ ts d => bindR (takeT [40] ts d) fun _ ts d => cont2 m [] ts d) = fin2 at *
         have hpure : XX ⟨tb, tc, ts⟩ x4 (mapR (fun _ => ([] : List Bytes)) r4) (fun l => LR RStr h2 h2 none [] l) := (XX.unit hx4).map fun _ _ => LR.nil
         have rest : ∀ {x5 : XC} {pa : Option Addr} {pn pc : Nat} {h6 : PHeap}, okN pa pn pc → Ext h2 h6 → XX ⟨tb, tc, ts⟩ x5 fin2 (fun l => pn = l.length ∧ At 1 RStr (only (New h2) h6) pa l) →
          Tri Tryz.prog 53 [vA x5.l] h6 fun v_29 h_36 =>
          ∃ (Ta20 : Option Addr) (Tn20 Tc20 : Nat) (I_22 Open20 Err20 Bad20 : Int) (sa7 : Option Addr) (sn7 sc7 : Nat), v_29 = vT [vA [vL Ta20 Tn20 Tc20, vI I_22, vI Open20, vI Err20, vI Bad20], vL sa7 sn7 sc7] ∧
          ∀ (b6 : Nat), h_36 b6 = none → ∀ (h_37 : PHeap), h_37 = h_36.put b6 (.cells ⟨[vS nm, vL pa pn pc, vL sa7 sn7 sc7, vI pos]⟩ 103) →
          Raw Tryz.prog (execOp (rho [(123, vL fa fn fc), (125, vL (ad b6 0) 1 1)]) (mkO o15_26 31)) h_37 fun v_30 h_38 =>
          ∃ (sa8 : Option Addr) (sn8 sc8 : Nat), v_30 = vL sa8 sn8 sc8 ∧
          ∃ (m10 : Nat), m10 < m + 1 ∧ ParI ⟨tb, tc, ts⟩ F fin h1 m10 ⟨Ta20, Tn20, Tc20, I_22, Open20, Err20, Bad20⟩ ga gn gc sa8 sn8 sc8 h_38 ∧
          ([vL none 0 0, vL none 0 0] : List Value) = ([vL none 0 0, vL none 0 0] : List Value) ∧ True := by
          intro x5 pa pn pc h6 hok hx6 hX5
          have hP5 : XX ⟨tb, tc, ts⟩ x5 (pairR r3 fun ts d => bindR (takeT [40] ts d) fun _ ts d => cont2 m [] ts d) (fun q => (nm = q.1.text ∧ pos = (q.1.pos : Nat)) ∧ pn = q.2.length ∧ At 1 RStr (only (New h2) h6) pa q.2) :=
           hX3.pair (by rw [hfe]; exact hX5) fun t l ht hl => ⟨ht, hl⟩
          refine Tri.mono (blk_r (zok _ m (by omega)) _ (hI2.ext hx6) hP5.1 nP.pair) ?_
          rintro _ h7 ⟨x7, ba, bn, bc, rfl, hx7, hX7⟩
          refine ⟨_, _, _, _, _, _, _, _, _, _, rfl, ?_⟩
          intro b6 hb6 h8 hh8
          have hP7 : XX ⟨tb, tc, ts⟩ x7 (mapR (fun q : (Tok × List Bytes) × List S => (⟨q.1.1.text, q.1.2, q.2, q.1.1.pos⟩ : Go.Sx.F)) (pairR (pairR r3 fun ts d => bindR (takeT [40] ts d) fun _ ts d => cont2 m [] ts d) fun ts d => pBlock m ts d))
           (fun g => RF plR 7 6 (only (New h2) h7) g [vS nm, vL pa pn pc, vL ba bn bc, vI pos]) := by
           refine (hP5.pair hX7 (rel3 := fun q => ((nm = q.1.1.text ∧ pos = (q.1.1.pos : Nat)) ∧ pn = q.1.2.length ∧ At 1 RStr (only (New h2) h7) pa q.1.2) ∧ bn = q.2.length ∧ At 6 (RS plR 7 6) (only (New h2) h7) ba q.2) fun q b hq hb => ?_).map fun q hq => ?_
           · exact ⟨⟨hq.1, hq.2.1, hq.2.2.ext RStr_mono hx7.only⟩, hb.1, hb.2.ext (RS_mono _ _ _) (only_new hx6.dom)⟩
           · obtain ⟨⟨⟨rfl, rfl⟩, rfl, g3⟩, rfl, g5⟩ := hq
             exact ⟨pa, pc, ba, bc, rfl, g3, g5, hok⟩
          refine Raw.mono (ParI.addF (x2 := x7) hm (by omega) hx2 hMG hMF hdis hLG hLF (cs := [vS nm, vL pa pn pc, vL ba bn bc, vI pos]) rfl rfl (hx6.trans hx7) hP7 hf hb6 hh8 rfl rfl rfl rfl rfl) ?_
          rintro _ h9 ⟨sa, sn, sc, rfl, hP⟩
          exact ⟨_, _, _, rfl, m, by omega, hP, rfl, trivial⟩
         refine ⟨fun q a1 a2 a3 a4 a5 a6 a7 nm' pa pn pc ba bn bc pos' h' => (nm' = nm ∧ ba = none ∧ bn = 0 ∧ bc = 0 ∧ pos' = pos) ∧ ∃ (r' : R (List Bytes)) (css : List (List Value)) (g : Nat), ((pn = 0 ∧ q = g + 1 ∧ css = [] ∧ pa = none ∧ pc = 0 ∧ g ≤ m) ∨ (pn ≠ 0 ∧ q = g)) ∧ g + pn ≤ m + 1 ∧ Ext h2 h' ∧ LM 9 1 h2 h' pa pn pc css ∧
          XX ⟨tb, tc, ts⟩ ⟨a1, a2, a3, a4, a5, a6, a7⟩ r' (fun l => LR RStr h2 h' pa css l) ∧ (bindR r' fun l ts d => cont2 g l ts d) = fin2,
          ⟨m + 1, ⟨rfl, rfl, rfl, rfl, rfl⟩, mapR (fun _ => []) r4, [], m, .inl ⟨rfl, rfl, rfl, rfl, rfl, Nat.le_refl _⟩, by omega, Ext.refl _, LM.nil, hpure, by rw [hc2]; simp only [mapR, bindR_bind, bindR_ok]⟩, ?_⟩
         rintro q a1 a2 a3 a4 a5 a6 a7 _ pa pn pc _ _ _ _ h5 ⟨⟨rfl, rfl, rfl, rfl, rfl⟩, r', css, g, hq, hgp, hx5, hM5, hX5, hf5⟩
         have hI5 := hI2.ext hx5
         have he5 := hX5.1.err0
         refine br_split (fun f1 => ?_) (fun f1 => ?_)
         · obtain ⟨l, ts5, d5, rfl⟩ := okR_true (he5.symm.trans f1)
           rw [bindR_ok] at hf5
           have hl5 : pn = l.length := by rw [← hM5.len]; exact (hX5.2 _ _ _ rfl).1
           refine Tri.mono (isw_r hX5.1 hI5 [41]) ?_
           rintro _ h5 ⟨rfl, rfl⟩
           refine ⟨_, rfl, br_split (fun f2 => ?_) (fun f2 => ?_)⟩
           · have k2 : isT ts5 [41] = false := by simpa [isTr] using f2
             refine br_split (fun f3 => ?_) (fun f3 => ?_)
             · have hpn : pn ≠ 0 := by
                have := of_decide_eq_true f3
                omega
               have hl : l ≠ [] := fun e => by rw [e] at hl5; exact hpn hl5
               rcases hq with ⟨hq, _⟩ | ⟨_, rfl⟩
               · exact absurd hq hpn
               match q, hf5, hgp with
               | 0, hf5, hgp =>
                 exfalso
                 refine n2 ?_
                 rw [← hf5]; simp only [cont2, if_neg hl, thenR, pMoreP, bindR_err]
               | q + 1, hf5, hgp =>
               refine Tri.mono (takew_r hX5.1 hI5 [44]) ?_
               rintro _ h5 ⟨rfl, x6, rfl, hx6⟩
               rw [bindR_ok] at hx6
               refine ⟨_, _, _, _, _, _, _, rfl, ?_⟩
               refine Tri.mono (ident_r hx6 hI5) ?_
               rintro _ h5 ⟨rfl, x7, nm7, pos7, rfl, hX7⟩
               refine ⟨_, _, _, _, _, _, _, _, _, rfl, ?_⟩
               intro b4 hb4 h6 hh6
               refine Raw.mono (LM.append (h0 := h2) (cs := [vS nm7]) und51 elem9 rfl rfl rfl rfl rfl hM5 hb4 hh6 rfl rfl (by omega) hx5.dom) ?_
               rintro _ h8 ⟨b8, cap8, rfl, hk8, hd8, hn8, hq8, hM8, hR8⟩
               have hx8 : Ext h2 h8 := fun q o hq => hk8 q o (ne_of hq) (hx5 q o hq)
               refine ⟨_, _, _, rfl, q, by omega, ⟨⟨rfl, rfl, rfl, rfl, rfl⟩, mapR (fun t => l ++ [t.text]) (bindR (takeT [44] ts5 d5) fun _ ts d => takeK 1 ts d), _, q, .inr ⟨by omega, rfl⟩, by omega, hx8, hM8, ?_, ?_⟩, rfl, rfl, trivial⟩
               · exact hX7.map fun t ht => hR8 RStr_mono (hX5.2 _ _ _ rfl) (by obtain ⟨rfl, _⟩ := ht; rfl)
               · rw [← hf5]
                 simp only [cont2, if_neg hl]
                 rw [pMoreP_succ]
                 cases h44 : isT ts5 [44] with
                 | true =>
                   simp only [if_true, mapR, bindR_bind, bindR_ok, thenR, cont2, List.append_ne_nil_of_right_ne_nil, if_neg (List.append_ne_nil_of_right_ne_nil l (List.cons_ne_nil _ _))]
                 | false =>
                   have h1' : takeT [44] ts5 d5 = .error (30, (hd ts5).pos) := by simp [takeT, h44]
                   have h2' : takeT [41] ts5 d5 = .error (30, (hd ts5).pos) := by simp [takeT, k2]
                   simp only [h1', Bool.false_eq_true, if_false, mapR, bindR_err, thenR, bindR_ok, h2']
             · have hpn : pn = 0 := by
                have := of_decide_eq_false f3
                omega
               have hl : l = [] := List.eq_nil_of_length_eq_zero (by omega)
               subst hl
               rcases hq with ⟨_, rfl, rfl, rfl, rfl, hgm⟩ | ⟨hq, _⟩
               case inr => exact absurd hpn hq
               subst hpn
               refine Tri.mono (ident_r hX5.1 hI5) ?_
               rintro _ h5 ⟨rfl, x7, nm7, pos7, rfl, hX7⟩
               rw [bindR_ok] at hX7
               refine ⟨_, _, _, _, _, _, _, _, _, rfl, ?_⟩
               intro b4 hb4 h6 hh6
               refine Raw.mono (LM.append (h0 := h2) (cs := [vS nm7]) und51 elem9 rfl rfl rfl rfl rfl hM5 hb4 hh6 rfl rfl (by omega) hx5.dom) ?_
               rintro _ h8 ⟨b8, cap8, rfl, hk8, hd8, hn8, hq8, hM8, hR8⟩
               have hx8 : Ext h2 h8 := fun q o hq => hk8 q o (ne_of hq) (hx5 q o hq)
               refine ⟨_, _, _, rfl, g, by omega, ⟨⟨rfl, rfl, rfl, rfl, rfl⟩, mapR (fun t => [t.text]) (takeK 1 ts5 d5), _, g, .inr ⟨by omega, rfl⟩, by omega, hx8, hM8, ?_, ?_⟩, rfl, rfl, trivial⟩
               · exact hX7.map fun t ht => hR8 RStr_mono (hX5.2 _ _ _ rfl) (by obtain ⟨rfl, _⟩ := ht; rfl)
               · rw [← hf5]
                 have hpp : pParams g ts5 d5 = bindR (takeK 1 ts5 d5) fun t ts d => pMoreP g [t.text] ts d := by
                  unfold pParams; rw [if_neg (by rw [k2]; decide)]
                 simp only [cont2, if_true, hpp, mapR, bindR_bind, bindR_ok, thenR, if_neg (List.cons_ne_nil _ _)]
           · have k2 : isT ts5 [41] = true := by simpa [isTr] using f2
             have hfin2 : fin2 = thenR (.ok (l, ts5, d5) : R (List Bytes)) fun ts d => takeT [41] ts d := by
              rw [← hf5]
              by_cases hl : l = []
              · subst hl
                have hpp : pParams g ts5 d5 = .ok ([], ts5, d5) := by
                 unfold pParams; rw [if_pos k2]
                simp only [cont2, if_true, hpp]
              · have hpn : pn ≠ 0 := fun e => hl (List.eq_nil_of_length_eq_zero (by omega))
                rcases hq with ⟨hq, _⟩ | ⟨_, rfl⟩
                · exact absurd hq hpn
                match q, hf5 with
                | 0, hf5 =>
                  exfalso
                  refine n2 ?_
                  rw [← hf5]; simp only [cont2, if_neg hl, thenR, pMoreP, bindR_err]
                | q + 1, hf5 =>
                  have h44 : isT ts5 [44] = false := by
                   cases hu : isT ts5 [44] with
                   | false => rfl
                   | true =>
                     simp only [isT, Bool.and_eq_true, beq_iff_eq] at k2 hu
                     exact absurd (hu.2.symm.trans k2.2) (by decide)
                  simp only [cont2, if_neg hl, pMoreP_succ, h44, Bool.false_eq_true, if_false]
             refine Tri.mono (takew_r hX5.1 hI5 [41]) ?_
             rintro _ h5 ⟨rfl, x6, rfl, hx6⟩
             refine ⟨_, _, _, _, _, _, _, rfl, rest (x5 := x6) hM5.okN hx5 ?_⟩
             rw [hfin2]
             exact hX5.then (x' := x6) hx6 fun l' hl' => ⟨by rw [← hM5.len]; exact hl'.1, hM5.at RStr_mono hl'⟩
         · obtain ⟨y, rfl⟩ := okR_false (he5.symm.trans f1)
           have hfin2 : fin2 = .error y := hf5.symm
           refine Tri.mono (takew_r hX5.1 hI5 [41]) ?_
           rintro _ h5 ⟨rfl, x6, rfl, hx6⟩
           refine ⟨_, _, _, _, _, _, _, rfl, rest (x5 := x6) hM5.okN hx5 ?_⟩
           rw [hfin2]
           exact XX.er hx6
     · have e0 : isK ts2 0 = true := by simpa [isKr] using e0
       rw [if_pos e0] at hf
       refine br_neg ?_ ⟨hxE, ?_⟩
       · have : a6 = 0 := by simpa using e
         subst this; rfl
       · rw [hpar, ← hf]
         refine ⟨ga, gc, fa, fc, ?_, ?_, ?_⟩
         · rw [← hLG.1, ← hLF.1, hMG.len, hMF.len]
         · exact (hMG.at (RG_mono _) hLG).ext (RG_mono _) (only_new hx1.dom)
         · exact (hMF.at (RF_mono _ _ _) (hLF.lr (RF_mono _ _ _))).ext (RF_mono _ _ _) (only_new hx1.dom)
   · obtain ⟨y, rfl⟩ := okR_false (he0.symm.trans e)
     obtain ⟨_, j, _, _, g0, g1, b, t, g2, g3, g4⟩ := hX.1
     have g1 : a6 = y.1 := g1
     have g2 : a7 = b := g2
     subst g1; subst g2
     have hbl : b < ts.length := (List.getElem?_eq_some_iff.1 g3).1
     rcases hI2.rows with hnil | ⟨b', o', hab, hrow⟩
     · simp only at hnil; rw [hnil] at hbl; simp at hbl
     · injection hab with hab; injection hab with hab hab2
       subst hab; subst hab2
       obtain ⟨cs, hr, hcs⟩ := hrow b t g3
       have hcs : cs = tokR t := hcs
       subst hcs
       have hc4 : h2.cell tb (0 + ((b : Int)).toNat * 5 + 4) = some (vI (t.pos : Nat)) := by
        rw [Int.toNat_natCast]; exact hr.2.2.2.2
       refine br_pos ?_ ⟨tb, 0, rfl, ⟨by omega, by omega⟩, _, hc4, rfl, hc4, rfl, hxE, ?_⟩
       · have : (y.1 : Int) ≠ 0 := by omega
         simpa using this
       · rw [hpar, ← hf, g4]; rfl
end Go.Proofs.D
namespace Go.Sx
structure PO (PT : Tok → Prop) (PX : Nat → Prop) : Prop where
 z : PX 0
 t : ∀ t, PT t → PX t.pos
structure ClE (PT : Tok → Prop) (PX : Nat → Prop) (PE : E → Prop) : Prop extends PO PT PX where
 c1 : ∀ t, PT t → t.kind = 2 → PE (.mk 1 [] [] t.value [] [] t.pos)
 c2 : ∀ t, PT t → t.kind = 3 → PE (.mk 2 [] [] 0 t.bytes [] t.pos)
 c3 : ∀ t, PT t → t.kind = 1 → PE (.mk 3 [] t.text 0 [] [] t.pos)
 c4 : ∀ t e, PT t → t.kind = 1 → PE e → PE (.mk 4 [] t.text 0 [] [e] t.pos)
 c5 : ∀ t l, PT t → t.kind = 1 → (∀ e ∈ l, PE e) → PE (.mk 5 [] t.text 0 [] l t.pos)
 c6 : ∀ t e, PT t → (t.text = [45] ∨ t.text = [33] ∨ t.text = [126]) → PE e → PE (.mk 6 t.text [] 0 [] [e] t.pos)
 c7 : ∀ t e e', PT t → t.kind = 5 → 1 ≤ levelS t.text → levelS t.text ≤ 10 → PE e → PE e' → PE (.mk 7 t.text [] 0 [] [e, e'] t.pos)
structure ClS (PT : Tok → Prop) (PX : Nat → Prop) (PE : E → Prop) (PS : S → Prop) : Prop extends ClE PT PX PE where
 s1 : ∀ t u l, PT t → PT u → u.kind = 1 → (l = [] ∨ ∃ e, l = [e] ∧ PE e) → PS (.mk 1 u.text l [] [] t.pos)
 s2 : ∀ t e, PT t → t.kind = 1 → PE e → PS (.mk 2 t.text [e] [] [] t.pos)
 s3 : ∀ t i e, PT t → t.kind = 1 → PE i → PE e → PS (.mk 3 t.text [i, e] [] [] t.pos)
 s4 : ∀ t l, PT t → t.kind = 1 → (∀ e ∈ l, PE e) → PS (.mk 4 [] [.mk 5 [] t.text 0 [] l t.pos] [] [] t.pos)
 s5 : ∀ t e b c, PT t → PE e → (∀ s ∈ b, PS s) → (∀ s ∈ c, PS s) → PS (.mk 5 [] [e] b c t.pos)
 s6 : ∀ t e b, PT t → PE e → (∀ s ∈ b, PS s) → PS (.mk 6 [] [e] b [] t.pos)
 s7 : ∀ t l, PT t → (l = [] ∨ ∃ e, l = [e] ∧ PE e) → PS (.mk 7 [] l [] [] t.pos)
 s8 : ∀ t, PT t → PS (.mk 8 [] [] [] [] t.pos)
 s9 : ∀ t, PT t → PS (.mk 9 [] [] [] [] t.pos)
def TB (PT : Tok → Prop) (ts : List Tok) : Prop := ∀ t ∈ ts, PT t
def RP {α : Type} (PT : Tok → Prop) (PX : Nat → Prop) (P : α → Prop) (r : R α) : Prop := (∀ x ts d, r = .ok (x, ts, d) → P x ∧ TB PT ts) ∧ ∀ e, r = .error e → PX e.2
section
variable {PT : Tok → Prop} {PX : Nat → Prop} {PE : E → Prop} {PS : S → Prop}
theorem TB.tail {ts : List Tok} (h : TB PT ts) : TB PT ts.tail := fun t ht => h t (List.mem_of_mem_tail ht)
theorem TB.hd {ts : List Tok} {n : Nat} (h : TB PT ts) (hl : ts.tail.length + 1 = ts.length) : PT (hd ts) := by
 cases ts with
 | nil => simp at hl
 | cons t ts => exact h t (List.mem_cons_self ..)
theorem TB.hdK {ts : List Tok} {k : Nat} (h : TB PT ts) (hk : k ≠ 0) (e : isK ts k = true) : PT (Go.Sx.hd ts) ∧ (Go.Sx.hd ts).kind = k := ⟨h.hd (n := 0) (isK_ne hk e), by simpa [isK] using e⟩
theorem TB.hdT {ts : List Tok} {t : Bytes} (h : TB PT ts) (e : isT ts t = true) : PT (Go.Sx.hd ts) ∧ (Go.Sx.hd ts).text = t := ⟨h.hd (n := 0) (isT_ne e), by
 simp only [isT, Bool.and_eq_true, beq_iff_eq] at e; exact e.2⟩
theorem TB.px (O : PO PT PX) {ts : List Tok} (h : TB PT ts) : PX (Go.Sx.hd ts).pos := by
 cases ts with
 | nil => exact O.z
 | cons t ts => exact O.t t (h t (List.mem_cons_self ..))
theorem RP.bind {α β : Type} {P : α → Prop} {P' : β → Prop} {r : R α} {g : α → List Tok → Int → R β} (h : RP PT PX P r) (hg : ∀ x ts d, P x → TB PT ts → RP PT PX P' (g x ts d)) : RP PT PX P' (bindR r g) := by
 match r, h with
 | .error e, h => exact ⟨(fun x ts d hx => by cases hx), fun e' he => h.2 e' (by injection he with he; rw [he])⟩
 | .ok (x, ts, d), h => exact hg x ts d (h.1 x ts d rfl).1 (h.1 x ts d rfl).2
theorem RP.ok {α : Type} {P : α → Prop} {x : α} {ts : List Tok} {d : Int} (h1 : P x) (h2 : TB PT ts) : RP PT PX P (.ok (x, ts, d) : R α) := ⟨(fun y us e hy => by cases hy; exact ⟨h1, h2⟩), fun e he => by cases he⟩
theorem RP.err {α : Type} {P : α → Prop} {e : Nat × Nat} (h : PX e.2) : RP PT PX P (.error e : R α) := ⟨(fun y us d hy => by cases hy), fun e' he => by injection he with he; rw [← he]; exact h⟩
theorem takeT_rp (O : PO PT PX) {t : Bytes} {ts : List Tok} {d : Int} (h : TB PT ts) : RP PT PX (fun _ => True) (takeT t ts d) := by
 unfold takeT
 split
 · exact RP.err (h.px O)
 · split
   · split
     · exact RP.err (h.px O)
     · exact RP.ok trivial h.tail
   · split
     · exact RP.ok trivial h.tail
     · exact RP.ok trivial h.tail
theorem takeK_rp (O : PO PT PX) {k : Nat} (hk : k ≠ 0) {ts : List Tok} {d : Int} (h : TB PT ts) : RP PT PX (fun t => PT t ∧ t.kind = k) (takeK k ts d) := by
 unfold takeK
 split
 · rename_i e
   exact RP.ok (h.hdK hk e) h.tail
 · exact RP.err (h.px O)
structure GX (PT : Tok → Prop) (PX : Nat → Prop) (PE : E → Prop) (f : Nat) : Prop where
 bin : ∀ lv ts d, 1 ≤ lv → TB PT ts → RP PT PX PE (pBin f lv ts d)
 loop : ∀ lv e ts d, 1 ≤ lv → lv ≤ 10 → PE e → TB PT ts → RP PT PX PE (pLoop f lv e ts d)
 un : ∀ ts d, TB PT ts → RP PT PX PE (pUn f ts d)
 prim : ∀ ts d, TB PT ts → RP PT PX PE (pPrim f ts d)
 name : ∀ ts d, isK ts 1 = true → TB PT ts → RP PT PX PE (pName f ts d)
 call : ∀ t ts d, PT t → t.kind = 1 → TB PT ts → RP PT PX (fun e => PE e ∧ ∃ l, e = .mk 5 [] t.text 0 [] l t.pos ∧ ∀ x ∈ l, PE x) (pCall f t ts d)
 args : ∀ ts d, TB PT ts → RP PT PX (fun l => ∀ e ∈ l, PE e) (pArgs f ts d)
 more : ∀ l ts d, (∀ e ∈ l, PE e) → TB PT ts → RP PT PX (fun l => ∀ e ∈ l, PE e) (pMore f l ts d)
theorem RP.mono {α : Type} {P P' : α → Prop} {r : R α} (h : RP PT PX P r) (hp : ∀ x, P x → P' x) : RP PT PX P' r := ⟨fun x ts d hx => ⟨hp x (h.1 x ts d hx).1, (h.1 x ts d hx).2⟩, h.2⟩
theorem gx (C : ClE PT PX PE) : ∀ f, GX PT PX PE f
 | 0 => ⟨fun lv ts d _ _ => by unfold pBin; exact RP.err C.z, fun lv e ts d _ _ _ _ => by unfold pLoop; exact RP.err C.z, fun ts d _ => by unfold pUn; exact RP.err C.z, fun ts d _ => by unfold pPrim; exact RP.err C.z, fun ts d _ _ => by unfold pName; exact RP.err C.z,
     fun t ts d _ _ _ => by unfold pCall; exact RP.err C.z, fun ts d _ => by unfold pArgs; exact RP.err C.z, fun l ts d _ _ => by unfold pMore; exact RP.err C.z⟩
 | f + 1 => by
   have X := gx C f
   have O := C.toPO
   refine ⟨fun lv ts d h1 h => ?_, fun lv e ts d h1 h2 he h => ?_, fun ts d h => ?_, fun ts d h => ?_, fun ts d hk h => ?_, fun t ts d ht hk h => ?_, fun ts d h => ?_, fun l ts d hl h => ?_⟩
   · unfold pBin
     split
     · exact X.un ts d h
     · rename_i hlv
       refine (X.bin (lv + 1) ts d (by omega) h).bind fun e ts' d' he ht => ?_
       by_cases h10 : lv ≤ 10
       · exact X.loop lv e ts' d' h1 h10 he ht
       · -- no operator has such a level
         match f with
         | 0 => unfold pLoop; exact RP.err C.z
         | f + 1 =>
           unfold pLoop
           split
           · rename_i hc
             exfalso
             simp only [Bool.and_eq_true, beq_iff_eq] at hc
             have : levelS (hd ts').text ≤ 10 := by
              unfold levelS; repeat' split
              all_goals omega
             omega
           · exact RP.ok he ht
   · unfold pLoop
     split
     · rename_i hc
       simp only [Bool.and_eq_true, beq_iff_eq] at hc
       have h5 := h.hdK (by decide) hc.1
       exact (X.bin (lv + 1) ts.tail d (by omega) h.tail).bind fun e' ts' d' he' ht => X.loop lv _ ts' d' h1 h2 (C.c7 _ e e' h5.1 h5.2 (by omega) (by omega) he he') ht
     · exact RP.ok he h
   · unfold pUn
     split
     · rename_i hc
       have ht : PT (hd ts) ∧ ((hd ts).text = [45] ∨ (hd ts).text = [33] ∨ (hd ts).text = [126]) := by
        simp only [Bool.or_eq_true] at hc
        rcases hc with (hc | hc) | hc
        · exact ⟨(h.hdT hc).1, .inl (h.hdT hc).2⟩
        · exact ⟨(h.hdT hc).1, .inr (.inl (h.hdT hc).2)⟩
        · exact ⟨(h.hdT hc).1, .inr (.inr (h.hdT hc).2)⟩
       exact (X.un ts.tail d h.tail).bind fun e ts' d' he ht' => RP.ok (C.c6 _ e ht.1 ht.2 he) ht'
     · exact X.prim ts d h
   · unfold pPrim
     split
     · rename_i hc; have := h.hdK (by decide) hc; exact RP.ok (C.c1 _ this.1 this.2) h.tail
     split
     · rename_i hc; have := h.hdK (by decide) hc; exact RP.ok (C.c2 _ this.1 this.2) h.tail
     split
     · rename_i hc; exact X.name ts d hc h
     exact (takeT_rp O h).bind fun _ ts1 d1 _ h1 => (X.bin 1 ts1 d1 (by omega) h1).bind fun e ts2 d2 he h2 => (takeT_rp O h2).bind fun _ ts3 d3 _ h3 => RP.ok he h3
   · unfold pName
     have hh := h.hdK (by decide) hk
     split
     · exact (X.call _ ts.tail d hh.1 hh.2 h.tail).mono fun e he => he.1
     split
     · exact (takeT_rp O h.tail).bind fun _ ts1 d1 _ h1 => (X.bin 1 ts1 d1 (by omega) h1).bind fun e ts2 d2 he h2 => (takeT_rp O h2).bind fun _ ts3 d3 _ h3 => RP.ok (C.c4 _ e hh.1 hh.2 he) h3
     · exact RP.ok (C.c3 _ hh.1 hh.2) h.tail
   · unfold pCall
     exact (takeT_rp O h).bind fun _ ts1 d1 _ h1 => (X.args ts1 d1 h1).bind fun l ts2 d2 hl h2 => (takeT_rp O h2).bind fun _ ts3 d3 _ h3 => RP.ok ⟨C.c5 _ l ht hk hl, l, rfl, hl⟩ h3
   · unfold pArgs
     split
     · exact RP.ok (fun e he => by cases he) h
     · exact (X.bin 1 ts d (by omega) h).bind fun e ts' d' he h1 => X.more _ ts' d' (fun x hx => by simp at hx; subst hx; exact he) h1
   · unfold pMore
     split
     · exact (takeT_rp O h).bind fun _ ts1 d1 _ h1 => (X.bin 1 ts1 d1 (by omega) h1).bind fun e ts' d' he h2 => X.more _ ts' d' (fun x hx => by
        rw [List.mem_append] at hx
        rcases hx with hx | hx
        · exact hl x hx
        · simp at hx; subst hx; exact he) h2
     · exact RP.ok hl h
theorem pCond_rp (C : ClE PT PX PE) {f : Nat} {ts : List Tok} {d : Int} (h : TB PT ts) : RP PT PX PE (pCond f ts d) := by
 have O := C.toPO
 unfold pCond
 exact (takeT_rp O h).bind fun _ ts1 d1 _ h1 => ((gx C f).bin 1 ts1 d1 (by omega) h1).bind fun e ts2 d2 he h2 => (takeT_rp O h2).bind fun _ ts3 d3 _ h3 => RP.ok he h3
structure GS (PT : Tok → Prop) (PX : Nat → Prop) (PS : S → Prop) (f : Nat) : Prop where
 block : ∀ ts d, TB PT ts → RP PT PX (fun l => ∀ s ∈ l, PS s) (pBlock f ts d)
 stmts : ∀ l ts d, (∀ s ∈ l, PS s) → TB PT ts → RP PT PX (fun l => ∀ s ∈ l, PS s) (pStmts f l ts d)
 stmt : ∀ ts d, TB PT ts → RP PT PX PS (pStmt f ts d)
 ifs : ∀ ts d, PT (hd ts) → TB PT ts → RP PT PX PS (pIf f ts d)
 named : ∀ ts d, isK ts 1 = true → TB PT ts → RP PT PX PS (pNamed f ts d)
theorem gs (C : ClS PT PX PE PS) : ∀ f, GS PT PX PS f
 | 0 => ⟨fun ts d _ => by unfold pBlock; exact RP.err C.z, fun l ts d _ _ => by unfold pStmts; exact RP.err C.z, fun ts d _ => by unfold pStmt; exact RP.err C.z, fun ts d _ _ => by unfold pIf; exact RP.err C.z, fun ts d _ _ => by rw [pNamed]; exact RP.err C.z⟩
 | f + 1 => by
   have X := gs C f
   have O := C.toPO
   have Y := gx C.toClE f
   refine ⟨fun ts d h => ?_, fun l ts d hl h => ?_, fun ts d h => ?_, fun ts d hk h => ?_, fun ts d hk h => ?_⟩
   · unfold pBlock
     exact (takeT_rp O h).bind fun _ ts1 d1 _ h1 => X.stmts _ ts1 d1 (fun s hs => by cases hs) h1
   · unfold pStmts
     split
     · exact (takeT_rp O h).bind fun _ ts1 d1 _ h1 => RP.ok hl h1
     · exact (X.stmt ts d h).bind fun s ts1 d1 hs h1 => X.stmts _ ts1 d1 (fun x hx => by
        rw [List.mem_append] at hx
        rcases hx with hx | hx
        · exact hl x hx
        · simp at hx; subst hx; exact hs) h1
   · unfold pStmt
     split
     · rename_i hc; exact X.named ts d hc h
     split
     · rename_i hc
       have hh := (h.hdT hc).1
       refine (takeK_rp O (by decide) h.tail).bind fun t ts1 d1 ht h1 => ?_
       split
       · exact (takeT_rp O h1).bind fun _ ts2 d2 _ h2 => (Y.bin 1 ts2 d2 (by omega) h2).bind fun e ts3 d3 he h3 => (takeT_rp O h3).bind fun _ ts4 d4 _ h4 => RP.ok (C.s1 _ t _ hh ht.1 ht.2 (.inr ⟨e, rfl, he⟩)) h4
       · exact (takeT_rp O h1).bind fun _ ts2 d2 _ h2 => RP.ok (C.s1 _ t _ hh ht.1 ht.2 (.inl rfl)) h2
     split
     · rename_i hc; exact X.ifs ts d (h.hdT hc).1 h
     split
     · rename_i hc
       have hh := (h.hdT hc).1
       exact (pCond_rp C.toClE h.tail).bind fun e ts1 d1 he h1 => (X.block ts1 d1 h1).bind fun b ts2 d2 hb h2 => RP.ok (C.s6 _ e b hh he hb) h2
     split
     · rename_i hc
       have hh := (h.hdT hc).1
       split
       · exact (takeT_rp O h.tail).bind fun _ ts2 d2 _ h2 => RP.ok (C.s7 _ _ hh (.inl rfl)) h2
       · exact (Y.bin 1 ts.tail d (by omega) h.tail).bind fun e ts3 d3 he h3 => (takeT_rp O h3).bind fun _ ts4 d4 _ h4 => RP.ok (C.s7 _ _ hh (.inr ⟨e, rfl, he⟩)) h4
     split
     · rename_i hc
       exact (takeT_rp O h.tail).bind fun _ ts2 d2 _ h2 => RP.ok (C.s8 _ (h.hdT hc).1) h2
     split
     · rename_i hc
       exact (takeT_rp O h.tail).bind fun _ ts2 d2 _ h2 => RP.ok (C.s9 _ (h.hdT hc).1) h2
     · exact RP.err (h.px O)
   · unfold pIf
     refine (pCond_rp C.toClE h.tail).bind fun e ts1 d1 he h1 => ?_
     refine (X.block ts1 d1 h1).bind fun b ts2 d2 hb h2 => ?_
     split
     · split
       · rename_i hc2
         exact (X.ifs ts2.tail d2 (h2.tail.hdT hc2).1 h2.tail).bind fun s ts3 d3 hs h3 => RP.ok (C.s5 _ e b [s] hk he hb (fun x hx => by simp at hx; subst hx; exact hs)) h3
       · exact (X.block ts2.tail d2 h2.tail).bind fun c ts3 d3 hc h3 => RP.ok (C.s5 _ e b c hk he hb hc) h3
     · exact RP.ok (C.s5 _ e b [] hk he hb (fun x hx => by cases hx)) h2
   · rw [pNamed]
     have hh := h.hdK (by decide) hk
     split
     · exact (takeT_rp O h.tail).bind fun _ ts2 d2 _ h2 => (Y.bin 1 ts2 d2 (by omega) h2).bind fun e ts3 d3 he h3 => (takeT_rp O h3).bind fun _ ts4 d4 _ h4 => RP.ok (C.s2 _ e hh.1 hh.2 he) h4
     split
     · exact (takeT_rp O h.tail).bind fun _ ts2 d2 _ h2 => (Y.bin 1 ts2 d2 (by omega) h2).bind fun i ts3 d3 hi h3 => (takeT_rp O h3).bind fun _ ts4 d4 _ h4 => (takeT_rp O h4).bind fun _ ts5 d5 _ h5 =>
        (Y.bin 1 ts5 d5 (by omega) h5).bind fun e ts6 d6 he h6 => (takeT_rp O h6).bind fun _ ts7 d7 _ h7 => RP.ok (C.s3 _ i e hh.1 hh.2 hi he) h7
     · refine (Y.call _ ts.tail d hh.1 hh.2 h.tail).bind fun e ts3 d3 he h3 => ?_
       obtain ⟨_, l, rfl, hl⟩ := he
       exact (takeT_rp O h3).bind fun _ ts4 d4 _ h4 => RP.ok (C.s4 _ l hh.1 hh.2 hl) h4
structure ClP (PT : Tok → Prop) (PX : Nat → Prop) (PE : E → Prop) (PS : S → Prop) (PG : G → Prop) (PF : F → Prop) : Prop extends ClS PT PX PE PS where
 g0 : ∀ t, PT t → t.kind = 1 → PG ⟨t.text, 0, 0, t.pos⟩
 g1 : ∀ t n, PT t → t.kind = 1 → PT n → n.kind = 2 → PG ⟨t.text, 0, n.value, t.pos⟩
 g2 : ∀ t n, PT t → t.kind = 1 → PT n → n.kind = 2 → PG ⟨t.text, n.value, 0, t.pos⟩
 f1 : ∀ t ps b, PT t → t.kind = 1 → (∀ q ∈ ps, ∃ u, PT u ∧ u.kind = 1 ∧ u.text = q) → (∀ s ∈ b, PS s) → PF ⟨t.text, ps, b, t.pos⟩
variable {PG : G → Prop} {PF : F → Prop}
theorem pGlobal_rp (C : ClP PT PX PE PS PG PF) {ts : List Tok} {d : Int} (h : TB PT ts) : RP PT PX PG (pGlobal ts d) := by
 have O := C.toPO
 unfold pGlobal
 refine (takeT_rp O h).bind fun _ ts1 d1 _ h1 => (takeK_rp O (by decide) h1).bind fun t ts2 d2 ht h2 => ?_
 split
 · exact (takeT_rp O h2).bind fun _ ts3 d3 _ h3 => (takeK_rp O (by decide) h3).bind fun n ts4 d4 hn h4 => (takeT_rp O h4).bind fun _ ts5 d5 _ h5 => RP.ok (C.g1 t n ht.1 ht.2 hn.1 hn.2) h5
 split
 · exact (takeT_rp O h2).bind fun _ ts3 d3 _ h3 => (takeK_rp O (by decide) h3).bind fun n ts4 d4 hn h4 => (takeT_rp O h4).bind fun _ ts5 d5 _ h5 => (takeT_rp O h5).bind fun _ ts6 d6 _ h6 => RP.ok (C.g2 t n ht.1 ht.2 hn.1 hn.2) h6
 · exact (takeT_rp O h2).bind fun _ ts3 d3 _ h3 => RP.ok (C.g0 t ht.1 ht.2) h3
theorem pMoreP_rp (O : PO PT PX) : ∀ (f : Nat) (l : List Bytes) (ts : List Tok) (d : Int), (∀ q ∈ l, ∃ u, PT u ∧ u.kind = 1 ∧ u.text = q) → TB PT ts → RP PT PX (fun l => ∀ q ∈ l, ∃ u, PT u ∧ u.kind = 1 ∧ u.text = q) (pMoreP f l ts d)
 | 0, _, _, _, _, _ => RP.err O.z
 | f + 1, l, ts, d, hl, h => by
   unfold pMoreP
   split
   · exact (takeT_rp O h).bind fun _ ts1 d1 _ h1 => (takeK_rp O (by decide) h1).bind fun t ts2 d2 ht h2 => pMoreP_rp O f _ ts2 d2 (fun q hq => by
      rw [List.mem_append] at hq
      rcases hq with hq | hq
      · exact hl q hq
      · simp at hq; subst hq; exact ⟨t, ht.1, ht.2, rfl⟩) h2
   · exact RP.ok hl h
theorem pFunc_rp (C : ClP PT PX PE PS PG PF) {f : Nat} {ts : List Tok} {d : Int} (h : TB PT ts) : RP PT PX PF (pFunc f ts d) := by
 have O := C.toPO
 unfold pFunc
 refine (takeT_rp O h).bind fun _ ts1 d1 _ h1 => (takeK_rp O (by decide) h1).bind fun t ts2 d2 ht h2 => (takeT_rp O h2).bind fun _ ts3 d3 _ h3 => ?_
 refine RP.bind (P := fun l => ∀ q ∈ l, ∃ u, PT u ∧ u.kind = 1 ∧ u.text = q) ?_ fun ps ts4 d4 hps h4 => (takeT_rp O h4).bind fun _ ts5 d5 _ h5 => ((gs C.toClS f).block ts5 d5 h5).bind fun b ts6 d6 hb h6 => RP.ok (C.f1 t ps b ht.1 ht.2 hps hb) h6
 unfold pParams
 split
 · exact RP.ok (fun q hq => by cases hq) h3
 · exact (takeK_rp O (by decide) h3).bind fun t ts5 d5 ht h5 => pMoreP_rp O f _ ts5 d5 (fun q hq => by simp at hq; subst hq; exact ⟨t, ht.1, ht.2, rfl⟩) h5
theorem pProg_rp (C : ClP PT PX PE PS PG PF) : ∀ (f : Nat) (p : Pg) (ts : List Tok) (d : Int), (∀ g ∈ p.globals, PG g) → (∀ g ∈ p.funcs, PF g) → TB PT ts → RP PT PX (fun p => (∀ g ∈ p.globals, PG g) ∧ ∀ g ∈ p.funcs, PF g) (pProg f p ts d)
 | 0, _, _, _, _, _, _ => RP.err C.z
 | f + 1, p, ts, d, hg, hf, h => by
   unfold pProg
   split
   · exact RP.ok ⟨hg, hf⟩ h
   split
   · exact (pGlobal_rp C h).bind fun g ts1 d1 h1 h2 => pProg_rp C f _ ts1 d1 (fun x hx => by
      rw [List.mem_append] at hx
      rcases hx with hx | hx
      · exact hg x hx
      · simp at hx; subst hx; exact h1) hf h2
   · exact (pFunc_rp C (f := f) h).bind fun g ts1 d1 h1 h2 => pProg_rp C f _ ts1 d1 hg (fun x hx => by
      rw [List.mem_append] at hx
      rcases hx with hx | hx
      · exact hf x hx
      · simp at hx; subst hx; exact h1) h2
end
end Go.Sx
namespace Go.Sx
mutual
def cntE : E → Nat
 | .mk _ _ _ _ _ args _ => cntEs args + 1
def cntEs : List E → Nat
 | [] => 0
 | e :: es => cntE e + cntEs es
end
mutual
def cntS : S → Nat
 | .mk _ _ args body els _ => cntEs args + cntSs body + cntSs els + 1
def cntSs : List S → Nat
 | [] => 0
 | s :: ss => cntS s + cntSs ss
end
theorem cntEs_append : ∀ (l m : List E), cntEs (l ++ m) = cntEs l + cntEs m
 | [], m => by simp [cntEs]
 | e :: l, m => by simp [cntEs, cntEs_append l m]; omega
theorem cntSs_append : ∀ (l m : List S), cntSs (l ++ m) = cntSs l + cntSs m
 | [], m => by simp [cntSs]
 | e :: l, m => by simp [cntSs, cntSs_append l m]; omega
theorem cntE_pos : ∀ (e : E), 1 ≤ cntE e
 | .mk _ _ _ _ _ _ _ => by simp [cntE]
theorem cntS_pos : ∀ (e : S), 1 ≤ cntS e
 | .mk _ _ _ _ _ _ => by simp [cntS]
theorem cntEs_len : ∀ (l : List E), l.length ≤ cntEs l
 | [] => by simp
 | e :: l => by have := cntE_pos e; have := cntEs_len l; simp [cntEs]; omega
theorem cntSs_len : ∀ (l : List S), l.length ≤ cntSs l
 | [] => by simp
 | e :: l => by have := cntS_pos e; have := cntSs_len l; simp [cntSs]; omega
theorem cntEs_mem : ∀ {l : List E} {e : E}, e ∈ l → cntE e ≤ cntEs l
 | e :: l, x, hx => by
   cases hx with
   | head => simp [cntEs]
   | tail _ hx => have := cntEs_mem hx; simp [cntEs]; omega
theorem cntSs_mem : ∀ {l : List S} {e : S}, e ∈ l → cntS e ≤ cntSs l
 | e :: l, x, hx => by
   cases hx with
   | head => simp [cntSs]
   | tail _ hx => have := cntSs_mem hx; simp [cntSs]; omega
def CN {α : Type} (c : α → Nat) (n : Nat) (r : R α) : Prop := ∀ x ts d, r = .ok (x, ts, d) → c x + ts.length ≤ n
theorem CN.bind {α β : Type} {c : α → Nat} {c' : β → Nat} {n n' : Nat} {r : R α} {g : α → List Tok → Int → R β} (h : CN c n r) (hg : ∀ x ts d, c x + ts.length ≤ n → CN c' n' (g x ts d)) : CN c' n' (bindR r g) := by
 match r, h with
 | .error e, h => intro x ts d hx; cases hx
 | .ok (x, ts, d), h => exact hg x ts d (h x ts d rfl)
theorem CN.ok {α : Type} {c : α → Nat} {n : Nat} {x : α} {ts : List Tok} {d : Int} (h : c x + ts.length ≤ n) : CN c n (.ok (x, ts, d) : R α) := fun y us e hy => by cases hy; exact h
theorem CN.err {α : Type} {c : α → Nat} {n : Nat} {e : Nat × Nat} : CN c n (.error e : R α) := fun y us d hy => by cases hy
theorem CN.up {α : Type} {c c' : α → Nat} {n n' : Nat} {r : R α} (h : CN c n r) (hc : ∀ x, c' x + n ≤ c x + n') : CN c' n' r := fun x ts d hx => by have := h x ts d hx; have := hc x; omega
theorem takeT_cn (t : Bytes) (ts : List Tok) (d : Int) : CN (fun _ => 1) ts.length (takeT t ts d) := fun x us e hx => by
 have := (takeT_fn t ts d).2 x us e hx; show 1 + us.length ≤ ts.length; omega
theorem takeK_cn (k : Nat) (hk : k ≠ 0) (ts : List Tok) (d : Int) : CN (fun _ => 1) ts.length (takeK k ts d) := fun x us e hx => by
 have := (takeK_fn k hk ts d).2 x us e hx; show 1 + us.length ≤ ts.length; omega
structure HX (f : Nat) : Prop where
 bin : ∀ lv ts d, CN cntE ts.length (pBin f lv ts d)
 loop : ∀ lv e ts d, CN cntE (cntE e + ts.length) (pLoop f lv e ts d)
 un : ∀ ts d, CN cntE ts.length (pUn f ts d)
 prim : ∀ ts d, CN cntE ts.length (pPrim f ts d)
 name : ∀ ts d, isK ts 1 = true → CN cntE ts.length (pName f ts d)
 call : ∀ t ts d, CN (fun e => cntE e + 1) ts.length (pCall f t ts d)
 args : ∀ ts d, CN cntEs ts.length (pArgs f ts d)
 more : ∀ l ts d, CN cntEs (cntEs l + ts.length) (pMore f l ts d)
theorem hx : ∀ f, HX f
 | 0 => ⟨fun lv ts d => by unfold pBin; exact CN.err, fun lv e ts d => by unfold pLoop; exact CN.err, fun ts d => by unfold pUn; exact CN.err, fun ts d => by unfold pPrim; exact CN.err, fun ts d _ => by unfold pName; exact CN.err,
     fun t ts d => by unfold pCall; exact CN.err, fun ts d => by unfold pArgs; exact CN.err, fun l ts d => by unfold pMore; exact CN.err⟩
 | f + 1 => by
   have X := hx f
   refine ⟨fun lv ts d => ?_, fun lv e ts d => ?_, fun ts d => ?_, fun ts d => ?_, fun ts d hk => ?_, fun t ts d => ?_, fun ts d => ?_, fun l ts d => ?_⟩
   · unfold pBin
     split
     · exact X.un ts d
     · exact (X.bin (lv + 1) ts d).bind fun e ts1 d1 h => (X.loop lv e ts1 d1).up fun x => by omega
   · unfold pLoop
     split
     · rename_i hc
       simp only [Bool.and_eq_true] at hc
       have := isK_ne (by decide) hc.1
       exact (X.bin (lv + 1) ts.tail d).bind fun e' ts1 d1 h => (X.loop lv _ ts1 d1).up fun x => by simp only [cntE, cntEs]; omega
     · exact CN.ok (Nat.le_refl _)
   · unfold pUn
     split
     · rename_i hc
       have : ts.tail.length + 1 = ts.length := by
        simp only [Bool.or_eq_true] at hc
        rcases hc with (hc | hc) | hc <;> exact isT_ne hc
       exact (X.un ts.tail d).bind fun e ts1 d1 h => CN.ok (by simp only [cntE, cntEs]; omega)
     · exact X.prim ts d
   · unfold pPrim
     split
     · rename_i hc; have := isK_ne (by decide) hc; exact CN.ok (by simp only [cntE, cntEs]; omega)
     split
     · rename_i hc; have := isK_ne (by decide) hc; exact CN.ok (by simp only [cntE, cntEs]; omega)
     split
     · rename_i hc; exact X.name ts d hc
     exact (takeT_cn _ ts d).bind fun _ ts1 d1 h1 => (X.bin 1 ts1 d1).bind fun e ts2 d2 h2 => (takeT_cn _ ts2 d2).bind fun _ ts3 d3 h3 => CN.ok (by omega)
   · unfold pName
     have := isK_ne (by decide) hk
     split
     · exact (X.call _ ts.tail d).up fun x => by omega
     split
     · exact (takeT_cn _ ts.tail d).bind fun _ ts1 d1 h1 => (X.bin 1 ts1 d1).bind fun e ts2 d2 h2 => (takeT_cn _ ts2 d2).bind fun _ ts3 d3 h3 => CN.ok (by simp only [cntE, cntEs]; omega)
     · exact CN.ok (by simp only [cntE, cntEs]; omega)
   · unfold pCall
     exact (takeT_cn _ ts d).bind fun _ ts1 d1 h1 => (X.args ts1 d1).bind fun l ts2 d2 h2 => (takeT_cn _ ts2 d2).bind fun _ ts3 d3 h3 => CN.ok (by simp only [cntE]; omega)
   · unfold pArgs
     split
     · exact CN.ok (by simp [cntEs])
     · exact (X.bin 1 ts d).bind fun e ts1 d1 h => (X.more _ ts1 d1).up fun x => by simp only [cntEs]; omega
   · unfold pMore
     split
     · exact (takeT_cn _ ts d).bind fun _ ts1 d1 h1 => (X.bin 1 ts1 d1).bind fun e ts2 d2 h2 => (X.more _ ts2 d2).up fun x => by rw [cntEs_append]; simp only [cntEs]; omega
     · exact CN.ok (Nat.le_refl _)
theorem pCond_cn (f : Nat) (ts : List Tok) (d : Int) : CN (fun e => cntE e + 2) ts.length (pCond f ts d) := by
 unfold pCond
 exact (takeT_cn _ ts d).bind fun _ ts1 d1 h1 => ((hx f).bin 1 ts1 d1).bind fun e ts2 d2 h2 => (takeT_cn _ ts2 d2).bind fun _ ts3 d3 h3 => CN.ok (by omega)
structure HS (f : Nat) : Prop where
 block : ∀ ts d, CN cntSs ts.length (pBlock f ts d)
 stmts : ∀ l ts d, CN cntSs (cntSs l + ts.length) (pStmts f l ts d)
 stmt : ∀ ts d, CN cntS ts.length (pStmt f ts d)
 ifs : ∀ ts d, ts.tail.length + 1 = ts.length → CN cntS ts.length (pIf f ts d)
 named : ∀ ts d, isK ts 1 = true → CN cntS ts.length (pNamed f ts d)
theorem hs : ∀ f, HS f
 | 0 => ⟨fun ts d => by unfold pBlock; exact CN.err, fun l ts d => by unfold pStmts; exact CN.err, fun ts d => by unfold pStmt; exact CN.err, fun ts d _ => by unfold pIf; exact CN.err, fun ts d _ => by rw [pNamed]; exact CN.err⟩
 | f + 1 => by
   have X := hs f
   have Y := hx f
   refine ⟨fun ts d => ?_, fun l ts d => ?_, fun ts d => ?_, fun ts d hk => ?_, fun ts d hk => ?_⟩
   · unfold pBlock
     exact (takeT_cn _ ts d).bind fun _ ts1 d1 h1 => (X.stmts _ ts1 d1).up fun x => by simp only [cntSs]; omega
   · unfold pStmts
     split
     · exact (takeT_cn _ ts d).bind fun _ ts1 d1 h1 => CN.ok (by omega)
     · exact (X.stmt ts d).bind fun s ts1 d1 h1 => (X.stmts _ ts1 d1).up fun x => by rw [cntSs_append]; simp only [cntSs]; omega
   · unfold pStmt
     split
     · rename_i hc; exact X.named ts d hc
     split
     · rename_i hc
       have := isT_ne hc
       refine (takeK_cn 1 (by decide) ts.tail d).bind fun t ts1 d1 h1 => ?_
       split
       · exact (takeT_cn _ ts1 d1).bind fun _ ts2 d2 h2 => (Y.bin 1 ts2 d2).bind fun e ts3 d3 h3 => (takeT_cn _ ts3 d3).bind fun _ ts4 d4 h4 => CN.ok (by simp only [cntS, cntEs, cntSs]; omega)
       · exact (takeT_cn _ ts1 d1).bind fun _ ts2 d2 h2 => CN.ok (by simp only [cntS, cntEs, cntSs]; omega)
     split
     · rename_i hc; exact X.ifs ts d (isT_ne hc)
     split
     · rename_i hc
       have := isT_ne hc
       exact (pCond_cn f ts.tail d).bind fun e ts1 d1 h1 => (X.block ts1 d1).bind fun b ts2 d2 h2 => CN.ok (by simp only [cntS, cntEs, cntSs]; omega)
     split
     · rename_i hc
       have := isT_ne hc
       split
       · exact (takeT_cn _ ts.tail d).bind fun _ ts2 d2 h2 => CN.ok (by simp only [cntS, cntEs, cntSs]; omega)
       · exact (Y.bin 1 ts.tail d).bind fun e ts3 d3 h3 => (takeT_cn _ ts3 d3).bind fun _ ts4 d4 h4 => CN.ok (by simp only [cntS, cntEs, cntSs]; omega)
     split
     · rename_i hc
       have := isT_ne hc
       exact (takeT_cn _ ts.tail d).bind fun _ ts2 d2 h2 => CN.ok (by simp only [cntS, cntEs, cntSs]; omega)
     split
     · rename_i hc
       have := isT_ne hc
       exact (takeT_cn _ ts.tail d).bind fun _ ts2 d2 h2 => CN.ok (by simp only [cntS, cntEs, cntSs]; omega)
     · exact CN.err
   · unfold pIf
     refine (pCond_cn f ts.tail d).bind fun e ts1 d1 h1 => (X.block ts1 d1).bind fun b ts2 d2 h2 => ?_
     split
     · rename_i hc
       have := isT_ne hc
       split
       · rename_i hc2
         exact (X.ifs ts2.tail d2 (isT_ne hc2)).bind fun s ts3 d3 h3 => CN.ok (by simp only [cntS, cntEs, cntSs]; omega)
       · exact (X.block ts2.tail d2).bind fun c ts3 d3 h3 => CN.ok (by simp only [cntS, cntEs]; omega)
     · exact CN.ok (by simp only [cntS, cntEs, cntSs]; omega)
   · rw [pNamed]
     have := isK_ne (by decide) hk
     split
     · exact (takeT_cn _ ts.tail d).bind fun _ ts2 d2 h2 => (Y.bin 1 ts2 d2).bind fun e ts3 d3 h3 => (takeT_cn _ ts3 d3).bind fun _ ts4 d4 h4 => CN.ok (by simp only [cntS, cntEs, cntSs]; omega)
     split
     · exact (takeT_cn _ ts.tail d).bind fun _ ts2 d2 h2 => (Y.bin 1 ts2 d2).bind fun i ts3 d3 h3 => (takeT_cn _ ts3 d3).bind fun _ ts4 d4 h4 => (takeT_cn _ ts4 d4).bind fun _ ts5 d5 h5 =>
        (Y.bin 1 ts5 d5).bind fun e ts6 d6 h6 => (takeT_cn _ ts6 d6).bind fun _ ts7 d7 h7 => CN.ok (by simp only [cntS, cntEs, cntSs]; omega)
     · exact (Y.call _ ts.tail d).bind fun e ts3 d3 h3 => (takeT_cn _ ts3 d3).bind fun _ ts4 d4 h4 => CN.ok (by simp only [cntS, cntEs, cntSs]; omega)
def cntF (f : F) : Nat := cntSs f.body + f.params.length
def cntFs : List F → Nat
 | [] => 0
 | f :: fs => cntF f + 1 + cntFs fs
theorem cntFs_append : ∀ (l m : List F), cntFs (l ++ m) = cntFs l + cntFs m
 | [], m => by simp [cntFs]
 | e :: l, m => by simp [cntFs, cntFs_append l m]; omega
theorem cntFs_mem : ∀ {l : List F} {e : F}, e ∈ l → cntF e + 1 ≤ cntFs l
 | e :: l, x, hx => by
   cases hx with
   | head => simp [cntFs]
   | tail _ hx => have := cntFs_mem hx; simp [cntFs]; omega
theorem cntFs_len : ∀ (l : List F), l.length ≤ cntFs l
 | [] => by simp
 | e :: l => by have := cntFs_len l; simp [cntFs]; omega
def cntP (p : Pg) : Nat := p.globals.length + cntFs p.funcs
theorem pGlobal_cn (ts : List Tok) (d : Int) : CN (fun _ => 1) ts.length (pGlobal ts d) := fun x us e hx => by
 have := (pGlobal_fn ts d).2 x us e hx; show 1 + us.length ≤ ts.length; omega
theorem pMoreP_cn : ∀ (f : Nat) (l : List Bytes) (ts : List Tok) (d : Int), CN List.length (l.length + ts.length) (pMoreP f l ts d)
 | 0, _, _, _ => CN.err
 | f + 1, l, ts, d => by
   unfold pMoreP
   split
   · exact (takeT_cn _ ts d).bind fun _ ts1 d1 h1 => (takeK_cn 1 (by decide) ts1 d1).bind fun t ts2 d2 h2 => (pMoreP_cn f _ ts2 d2).up fun x => by simp only [List.length_append, List.length_cons, List.length_nil]; omega
   · exact CN.ok (Nat.le_refl _)
theorem pFunc_cn (f : Nat) (ts : List Tok) (d : Int) : CN (fun g => cntF g + 1) ts.length (pFunc f ts d) := by
 unfold pFunc
 refine (takeT_cn _ ts d).bind fun _ ts1 d1 h1 => (takeK_cn 1 (by decide) ts1 d1).bind fun t ts2 d2 h2 => (takeT_cn _ ts2 d2).bind fun _ ts3 d3 h3 => ?_
 refine CN.bind (c := List.length) (n := ts3.length) ?_ fun ps ts4 d4 h4 => (takeT_cn _ ts4 d4).bind fun _ ts5 d5 h5 => ((hs f).block ts5 d5).bind fun b ts6 d6 h6 => CN.ok (by simp only [cntF]; omega)
 unfold pParams
 split
 · exact CN.ok (by simp)
 · exact (takeK_cn 1 (by decide) ts3 d3).bind fun t ts5 d5 h5 => (pMoreP_cn f _ ts5 d5).up fun x => by simp only [List.length_cons, List.length_nil]; omega
theorem pProg_cn : ∀ (f : Nat) (p : Pg) (ts : List Tok) (d : Int), CN cntP (cntP p + ts.length) (pProg f p ts d)
 | 0, _, _, _ => CN.err
 | f + 1, p, ts, d => by
   unfold pProg
   split
   · exact CN.ok (Nat.le_refl _)
   split
   · exact (pGlobal_cn ts d).bind fun g ts1 d1 h1 => (pProg_cn f _ ts1 d1).up fun x => by simp only [cntP, List.length_append, List.length_cons, List.length_nil]; omega
   · exact (pFunc_cn f ts d).bind fun g ts1 d1 h1 => (pProg_cn f _ ts1 d1).up fun x => by simp only [cntP, cntFs_append, cntFs]; omega
end Go.Sx
namespace Go.Proofs.D
open Go Go.Den Go.Sx
set_option maxRecDepth 100000
attribute [local irreducible] IntKind.wrap Tri parseS
theorem At.get {α : Type} {k : Nat} {rel : PHeap → α → List Value → Prop} {h : PHeap} {a : Option Addr} {xs : List α} (hA : At k rel h a xs) {n : Nat} (hn : n < xs.length) : ∃ b o cs, a = some ⟨b, o, none⟩ ∧ h.row b (o + ((n : Int)).toNat * k) cs ∧ rel h xs[n] cs := by
 rcases hA with hA | ⟨b, o, ha, hj⟩
 · subst hA; simp at hn
 · obtain ⟨cs, h1, h2⟩ := hj n xs[n] (List.getElem?_eq_getElem hn)
   exact ⟨b, o, cs, ha, by rw [Int.toNat_natCast]; exact h1, h2⟩
theorem parseS_cnt {s : Bytes} {p : Pg} (h : parseS s = .ok p) : cntP p ≤ 4097 := by
 have hso := scanS_ok s
 unfold parseS at h
 cases hsc : scanS s with
 | error e => rw [hsc] at h; cases h
 | ok ts =>
   rw [hsc] at h
   have := (hso.2 ts hsc).2.1
   simp only at h
   cases hpp : pProg (20 * ts.length + 40) ⟨[], []⟩ ts 0 with
   | error e => rw [hpp] at h; cases h
   | ok q =>
     obtain ⟨p', ts', d'⟩ := q
     rw [hpp] at h
     cases h
     have := pProg_cn _ ⟨[], []⟩ ts 0 _ _ _ hpp
     simp only [cntP, cntFs, List.length_nil] at this ⊢
     omega
theorem parseS_err {s : Bytes} {e : Nat × Nat} (h : parseS s = .error e) : e.1 ≠ 0 := by
 have hso := scanS_ok s
 unfold parseS at h
 cases hsc : scanS s with
 | error e' => rw [hsc] at h; cases h; exact hso.1 _ hsc
 | ok ts =>
   rw [hsc] at h
   simp only at h
   have hfn := (pProg_fn (20 * ts.length + 40) ⟨[], []⟩ ts 0 (by omega)).1
   cases hpp : pProg (20 * ts.length + 40) ⟨[], []⟩ ts 0 with
   | error e' =>
     rw [hpp] at h
     cases h
     intro h0
     exact hfn e.2 (by rw [hpp, ← h0])
   | ok q => obtain ⟨p', ts', d'⟩ := q; rw [hpp] at h; cases h
def KnownOk : Prop := ∀ h, L.EscTab h → Tri Tryz.prog 16 [] h fun v h' => v = vB true ∧ Ext h h'
theorem At.whole {α : Type} {k : Nat} {rel : PHeap → α → List Value → Prop} (hm : Mono rel) {D : Nat → Prop} {h h' : PHeap} {a : Option Addr} {xs : List α} (hA : At k rel (only D h) a xs) (x : Ext h h') : At k rel h' a xs := hA.ext hm (only_sub.trans x)
end Go.Proofs.D
namespace Go.Sx
mutual
def zE : E → E
 | .mk k o n v t a _ => .mk k o n v t (zEs a) 0
def zEs : List E → List E
 | [] => []
 | e :: l => zE e :: zEs l
end
mutual
def zS : S → S
 | .mk k n a b e _ => .mk k n (zEs a) (zSs b) (zSs e) 0
def zSs : List S → List S
 | [] => []
 | e :: l => zS e :: zSs l
end
def zG (g : G) : G := { g with pos := 0 }
def zF (f : F) : F := { f with body := zSs f.body, pos := 0 }
def zP (p : Pg) : Pg := ⟨p.globals.map zG, p.funcs.map zF⟩
end Go.Sx
namespace Go.Sx
mutual
def eqE : E → E → Bool
 | .mk k o n v t a _, .mk k' o' n' v' t' a' _ => k == k' && o == o' && n == n' && v == v' && t == t' && eqEs a a'
def eqEs : List E → List E → Bool
 | [], [] => true
 | e :: l, e' :: l' => eqE e e' && eqEs l l'
 | [], _ :: _ => false
 | _ :: _, [] => false
end
mutual
def eqS : S → S → Bool
 | .mk k n a b e _, .mk k' n' a' b' e' _ => k == k' && n == n' && eqEs a a' && eqSs b b' && eqSs e e'
def eqSs : List S → List S → Bool
 | [], [] => true
 | e :: l, e' :: l' => eqS e e' && eqSs l l'
 | [], _ :: _ => false
 | _ :: _, [] => false
end
def eqG (g h : G) : Bool := g.name == h.name && g.size == h.size && g.value == h.value
def eqF (g h : F) : Bool := g.name == h.name && g.params == h.params && eqSs g.body h.body
def eqL {α : Type} (q : α → α → Bool) : List α → List α → Bool
 | [], [] => true
 | e :: l, e' :: l' => q e e' && eqL q l l'
 | [], _ :: _ => false
 | _ :: _, [] => false
def eqP (p q : Pg) : Bool := eqL eqG p.globals q.globals && eqL eqF p.funcs q.funcs
theorem eqEs_L : ∀ (l m : List E), eqEs l m = eqL eqE l m
 | [], [] => rfl
 | e :: l, e' :: l' => by rw [eqEs, eqL, eqEs_L l l']
 | [], _ :: _ => rfl
 | _ :: _, [] => rfl
theorem eqSs_L : ∀ (l m : List S), eqSs l m = eqL eqS l m
 | [], [] => rfl
 | e :: l, e' :: l' => by rw [eqSs, eqL, eqSs_L l l']
 | [], _ :: _ => rfl
 | _ :: _, [] => rfl
theorem eqL_len {α : Type} {q : α → α → Bool} : ∀ {l m : List α}, l.length ≠ m.length → eqL q l m = false
 | [], [], h => absurd rfl h
 | e :: l, e' :: l', h => by rw [eqL, eqL_len (l := l) (m := l') (fun e => h (by rw [List.length_cons, List.length_cons, e])), Bool.and_false]
 | [], _ :: _, _ => rfl
 | _ :: _, [], _ => rfl
theorem eqL_drop {α : Type} {q : α → α → Bool} {l m : List α} {j : Nat} (hl : j < l.length) (hm : j < m.length) : eqL q (l.drop j) (m.drop j) = (q l[j] m[j] && eqL q (l.drop (j + 1)) (m.drop (j + 1))) := by
 rw [List.drop_eq_getElem_cons hl, List.drop_eq_getElem_cons hm]; rfl
mutual
theorem eqE_z : ∀ (a b : E), eqE a b = true ↔ zE a = zE b
 | .mk k o n v t a _, .mk k' o' n' v' t' a' _ => by
   simp only [eqE, zE, Bool.and_eq_true, beq_iff_eq, E.mk.injEq, eqEs_z a a', and_true, and_assoc]
theorem eqEs_z : ∀ (a b : List E), eqEs a b = true ↔ zEs a = zEs b
 | [], [] => by simp [eqEs, zEs]
 | e :: l, e' :: l' => by simp only [eqEs, zEs, Bool.and_eq_true, eqE_z e e', eqEs_z l l', List.cons.injEq]
 | [], _ :: _ => by simp [eqEs, zEs]
 | _ :: _, [] => by simp [eqEs, zEs]
end
mutual
theorem eqS_z : ∀ (a b : S), eqS a b = true ↔ zS a = zS b
 | .mk k n a b e _, .mk k' n' a' b' e' _ => by
   simp only [eqS, zS, Bool.and_eq_true, beq_iff_eq, S.mk.injEq, eqEs_z a a', eqSs_z b b', eqSs_z e e', and_true, and_assoc]
theorem eqSs_z : ∀ (a b : List S), eqSs a b = true ↔ zSs a = zSs b
 | [], [] => by simp [eqSs, zSs]
 | e :: l, e' :: l' => by simp only [eqSs, zSs, Bool.and_eq_true, eqS_z e e', eqSs_z l l', List.cons.injEq]
 | [], _ :: _ => by simp [eqSs, zSs]
 | _ :: _, [] => by simp [eqSs, zSs]
end
theorem eqL_map {α : Type} {q : α → α → Bool} {z : α → α} (h : ∀ a b, q a b = true ↔ z a = z b) : ∀ (l m : List α), eqL q l m = true ↔ l.map z = m.map z
 | [], [] => by simp [eqL]
 | e :: l, e' :: l' => by simp [eqL, h, eqL_map h l l']
 | [], _ :: _ => by simp [eqL]
 | _ :: _, [] => by simp [eqL]
theorem eqG_z (a b : G) : eqG a b = true ↔ zG a = zG b := by
 cases a; cases b; simp [eqG, zG, and_assoc]
theorem eqF_z (a b : F) : eqF a b = true ↔ zF a = zF b := by
 cases a; cases b; simp [eqF, zF, eqSs_z, and_assoc]
theorem eqP_z (p q : Pg) : eqP p q = true ↔ zP p = zP q := by
 cases p; cases q; simp [eqP, zP, eqL_map eqG_z, eqL_map eqF_z]
theorem eqP_symm (p q : Pg) : eqP p q = eqP q p := by
 rw [Bool.eq_iff_iff, eqP_z, eqP_z]; exact eq_comm
theorem eqP_refl (p : Pg) : eqP p p = true := (eqP_z p p).2 rfl
end Go.Sx
namespace Go.Proofs.D
open Go Go.Den
set_option maxRecDepth 100000
set_option maxHeartbeats 4000000
abbrev o13_0 : Op := .call { callee := (.builtin .min), args := #[(.tmp 5), (.const (vI 1500))], argTypes := #[3, 3] }
noncomputable def d13 : DCode := up ⟨[(6, .c (.one false [qi]))], [], []⟩ (low Tryz.prog (fun _ => false) (Tryz.f13.body.getD .skip))
theorem low13 : low Tryz.prog (fun _ => false) (Tryz.f13.body.getD .skip) = some (eC d13) := by kernel_rfl
def R13 (l1 : Bs) (h : PHeap) (Q : Value → PHeap → Prop) : Prop :=
 ∃ (i1 : Int), PureRun Tryz.prog (execOp (rho [(5, vI (l1.length : Int))]) (mkO o13_0 3)) (vI i1) ∧
 (0 ≤ (0 : Int) ∧ (0 : Int) ≤ i1 ∧ i1 ≤ (l1.length : Int)) ∧
 Q (vS ((l1.drop 0).take ((i1).toNat - 0))) h
theorem T13 {l1 : Bs} {h : PHeap} {Q : Value → PHeap → Prop} (hR : R13 l1 h Q) : Tri Tryz.prog 13 [vS l1] h Q :=
 tri_of_dn mixed Tryz.func13 rfl (by kernel_rfl) low13 (rs := [.tmp 2]) (by kernel_rfl) rfl (Eq.mpr (by kernel_rfl : dnF Tryz.prog Tryz.f13.ntmps d13 [.tmp 2] [vS l1] h Q = R13 l1 h Q) hR)
noncomputable def d17 : DCode := up ⟨[(16, .l [.str]), (18, .c (.tup [(false, [qi]), (false, [qi])]))], [], []⟩ (low Tryz.prog (fun _ => false) (Tryz.f17.body.getD .skip))
theorem low17 : low Tryz.prog (fun _ => false) (Tryz.f17.body.getD .skip) = some (eC d17) := by kernel_rfl
end Go.Proofs.D
