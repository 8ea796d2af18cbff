import Derived.Test.YtifjnoabmbckpaaGreatDoorBla5
namespace Go.Proofs.D
open Go Go.Den
set_option maxRecDepth 100000
set_option maxHeartbeats 4000000
abbrev dvk1 : List CK := [qi, .str, qi, .str, qi]
abbrev o31_8 : Op := .call { callee := (.builtin .append), args := #[(.tmp 36), (.tmp 38)], argTypes := #[65, 65] }
abbrev o31_9 : Op := .call { callee := (.builtin .append), args := #[(.tmp 43), (.tmp 47)], argTypes := #[65, 65] }
noncomputable def d31 : DCode := up ⟨[(15, .c (.one false [qi])), (27, .c (.tup [(true, dvk1), (false, [qi]), (false, [qi]), (false, [qi])])), (37, .l dvk1), (39, .c (.one false [.slice])), (42, .c (.one false [qi])), (48, .c (.one false [.slice]))], [], [(16, 36, [(5, .slice), (6, qi)], [])]⟩ (low Tryz.prog (fun _ => false) (Tryz.f31.body.getD .skip))
theorem low31 : low Tryz.prog (fun _ => false) (Tryz.f31.body.getD .skip) = some (eC d31) := by kernel_rfl
def R31 (l1 : Bs) (h : PHeap) (Q : Value → PHeap → Prop) : Prop :=
 br (decide ((l1.length : Int) > 16384))
 (Q (vT [vL none 0 0, vI 0, vI 5]) h)
 (Tri Tryz.prog 70 [vS l1, vI 0] h fun v_1 h_1 =>
 ∃ (i1 : Int), v_1 = vI i1 ∧
 ∃ (I_1 : Nat → OA → Nat → Nat → Int → PHeap → Prop), (∃ (m2 : Nat), I_1 m2 none 0 0 i1 h_1) ∧
 ∀ (m1 : Nat) (a1 : OA) (n1 : Nat) (dvk1 : Nat) (i2 : Int) (h_2 : PHeap), I_1 m1 a1 n1 dvk1 i2 h_2 →
 br (decide (i2 < (l1.length : Int)))
 (br (((n1 : Nat) : Int) == 4096)
 (Q (vT [vL none 0 0, vI i2, vI 9]) h_2)
 (Tri Tryz.prog 71 [vS l1, vI i2] h_2 fun v_2 h_3 =>
 ∃ (i3 : Int) (l2 : Bs) (i4 : Int) (l3 : Bs) (i5 i6 i7 i8 : Int), v_2 = vT [vA [vI i3, vS l2, vI i4, vS l3, vI i5], vI i6, vI i7, vI i8] ∧
 br (i7 != 0)
 (Q (vT [vL none 0 0, vI i8, vI i7]) h_3)
 (∀ (b1 : Nat), h_3 b1 = none → ∀ (h_4 : PHeap), h_4 = h_3.put b1 (.cells ⟨[vI i3, vS l2, vI i4, vS l3, vI i5]⟩ 69) →
 Raw Tryz.prog (execOp (rho [(36, vL a1 n1 dvk1), (38, vL (ad b1 0) 1 1)]) (mkO o31_8 65)) h_4 fun v_3 h_5 =>
 ∃ (a2 : OA) (n2 k2 : Nat), v_3 = vL a2 n2 k2 ∧
 Tri Tryz.prog 70 [vS l1, vI i6] h_5 fun v_4 h_6 =>
 ∃ (i9 : Int), v_4 = vI i9 ∧
 ∃ (m3 : Nat), m3 < m1 ∧ I_1 m3 a2 n2 k2 i9 h_6 ∧
 True)))
 (∀ (b2 : Nat), h_2 b2 = none → ∀ (h_7 : PHeap), h_7 = h_2.put b2 (.cells ⟨[vI 0, vS [], vI 0, vS [], vI (l1.length : Int)]⟩ 69) →
 Raw Tryz.prog (execOp (rho [(43, vL a1 n1 dvk1), (47, vL (ad b2 0) 1 1)]) (mkO o31_9 65)) h_7 fun v_5 h_8 =>
 ∃ (a3 : OA) (n3 k3 : Nat), v_5 = vL a3 n3 k3 ∧
 Q (vT [vL a3 n3 k3, vI 0, vI 0]) h_8))
theorem T31 {l1 : Bs} {h : PHeap} {Q : Value → PHeap → Prop} (hR : R31 l1 h Q) : Tri Tryz.prog 31 [vS l1] h Q :=
 tri_of_dn mixed Tryz.func31 rfl (by kernel_rfl) low31 (rs := [.tmp 2, .tmp 3, .tmp 4]) (by kernel_rfl) rfl (Eq.mpr (by kernel_rfl : dnF Tryz.prog Tryz.f31.ntmps d31 [.tmp 2, .tmp 3, .tmp 4] [vS l1] h Q = R31 l1 h Q) hR)
noncomputable def d70 : DCode := up ⟨[], [], [(5, 57, [(1, qi)], []), (48, 13, [(1, qi)], [])]⟩ (low Tryz.prog (fun _ => false) (Tryz.f70.body.getD .skip))
theorem low70 : low Tryz.prog (fun _ => false) (Tryz.f70.body.getD .skip) = some (eC d70) := by kernel_rfl
def R70 (l1 : Bs) (i1 : Int) (h : PHeap) (Q : Value → PHeap → Prop) : Prop :=
 ∃ (I_1 : Nat → Int → PHeap → Prop), (∃ (m2 : Nat), I_1 m2 i1 h) ∧
 ∀ (m1 : Nat) (i2 : Int) (h_1 : PHeap), I_1 m1 i2 h_1 →
 br (decide (i2 < (l1.length : Int)))
 (0 ≤ i2 ∧ ∃ (c1 : UInt8), (l1)[(i2).toNat]? = some c1 ∧
 br ((c1.toNat : Int) == 32)
 (∃ (m3 : Nat), m3 < m1 ∧ I_1 m3 (IntKind.i64.wrap (i2 + 1)) h_1 ∧
 True)
 (0 ≤ i2 ∧ ∃ (c2 : UInt8), (l1)[(i2).toNat]? = some c2 ∧
 br ((c2.toNat : Int) == 9)
 (∃ (m4 : Nat), m4 < m1 ∧ I_1 m4 (IntKind.i64.wrap (i2 + 1)) h_1 ∧
 True)
 (0 ≤ i2 ∧ ∃ (c3 : UInt8), (l1)[(i2).toNat]? = some c3 ∧
 br ((c3.toNat : Int) == 10)
 (∃ (m5 : Nat), m5 < m1 ∧ I_1 m5 (IntKind.i64.wrap (i2 + 1)) h_1 ∧
 True)
 (0 ≤ i2 ∧ ∃ (c4 : UInt8), (l1)[(i2).toNat]? = some c4 ∧
 br ((c4.toNat : Int) == 47)
 (br (decide ((IntKind.i64.wrap (i2 + 1)) < (l1.length : Int)))
 (0 ≤ (IntKind.i64.wrap (i2 + 1)) ∧ ∃ (c5 : UInt8), (l1)[(IntKind.i64.wrap (i2 + 1)).toNat]? = some c5 ∧
 br ((c5.toNat : Int) == 47)
 (∃ (I_2 : Nat → Int → PHeap → Prop), (∃ (m7 : Nat), I_2 m7 i2 h_1) ∧
 ∀ (m6 : Nat) (i3 : Int) (h_2 : PHeap), I_2 m6 i3 h_2 →
 br (decide (i3 < (l1.length : Int)))
 (0 ≤ i3 ∧ ∃ (c6 : UInt8), (l1)[(i3).toNat]? = some c6 ∧
 br ((c6.toNat : Int) != 10)
 (∃ (m8 : Nat), m8 < m6 ∧ I_2 m8 (IntKind.i64.wrap (i3 + 1)) h_2 ∧
 True)
 (∃ (m9 : Nat), m9 < m1 ∧ I_1 m9 i3 h_2 ∧
 True))
 (∃ (m10 : Nat), m10 < m1 ∧ I_1 m10 i3 h_2 ∧
 True))
 (Q (vI i2) h_1))
 (Q (vI i2) h_1))
 (Q (vI i2) h_1)))))
 (Q (vI i2) h_1)
theorem T70 {l1 : Bs} {i1 : Int} {h : PHeap} {Q : Value → PHeap → Prop} (hR : R70 l1 i1 h Q) : Tri Tryz.prog 70 [vS l1, vI i1] h Q :=
 tri_of_dn mixed Tryz.func70 rfl (by kernel_rfl) low70 (rs := [.tmp 4]) (by kernel_rfl) rfl (Eq.mpr (by kernel_rfl : dnF Tryz.prog Tryz.f70.ntmps d70 [.tmp 4] [vS l1, vI i1] h Q = R70 l1 i1 h Q) hR)
noncomputable def d71 : DCode := up ⟨[(20, .c (.one false [.bool])), (23, .c (.one false [qi])), (34, .c (.one false [.slice])), (36, .c (.one false [.bool])), (47, .c (.one false [.bool])), (50, .c (.one false [qi])), (56, .c (.tup [(false, [qi]), (false, [qi])])), (82, .c (.tup [(true, dvk1), (false, [qi]), (false, [qi]), (false, [qi])])), (98, .c (.one false [.slice])), (105, .c (.one false [.bool]))], [], [(87, 35, [(14, qi)], [(4, dvk1)])]⟩ (low Tryz.prog (fun _ => false) (Tryz.f71.body.getD .skip))
theorem low71 : low Tryz.prog (fun _ => false) (Tryz.f71.body.getD .skip) = some (eC d71) := by kernel_rfl
def R71 (l1 : Bs) (i1 : Int) (h : PHeap) (Q : Value → PHeap → Prop) : Prop :=
 0 ≤ i1 ∧ ∃ (c1 : UInt8), (l1)[(i1).toNat]? = some c1 ∧
 Tri Tryz.prog 113 [vU (c1.toNat : Int)] h fun v_1 h_1 =>
 ∃ (c2 : Bool), v_1 = vB c2 ∧
 br c2
 (Tri Tryz.prog 114 [vS l1, vI i1] h_1 fun v_2 h_2 =>
 ∃ (i2 : Int), v_2 = vI i2 ∧
 (0 ≤ i1 ∧ i1 ≤ i2 ∧ i2 ≤ (l1.length : Int)) ∧
 br (decide (((((l1.drop (i1).toNat).take ((i2).toNat - (i1).toNat))).length : Int) > 32))
 (Q (vT [vA [vI 0, vS [], vI 0, vS [], vI 0], vI i1, vI 5, vI i1]) h_2)
 (Tri Tryz.prog 116 [] h_2 fun v_3 h_3 =>
 ∃ (a1 : OA) (n1 dvk1 : Nat), v_3 = vL a1 n1 dvk1 ∧
 Tri Tryz.prog 115 [vL a1 n1 dvk1, vS ((l1.drop (i1).toNat).take ((i2).toNat - (i1).toNat))] h_3 fun v_4 h_4 =>
 ∃ (c3 : Bool), v_4 = vB c3 ∧
 br c3
 (Q (vT [vA [vI 4, vS ((l1.drop (i1).toNat).take ((i2).toNat - (i1).toNat)), vI 0, vS [], vI i1], vI i2, vI 0, vI 0]) h_4)
 (Q (vT [vA [vI 1, vS ((l1.drop (i1).toNat).take ((i2).toNat - (i1).toNat)), vI 0, vS [], vI i1], vI i2, vI 0, vI 0]) h_4)))
 (Tri Tryz.prog 117 [vU (c1.toNat : Int)] h_1 fun v_5 h_5 =>
 ∃ (c4 : Bool), v_5 = vB c4 ∧
 br c4
 (Tri Tryz.prog 114 [vS l1, vI i1] h_5 fun v_6 h_6 =>
 ∃ (i3 : Int), v_6 = vI i3 ∧
 (0 ≤ i1 ∧ i1 ≤ i3 ∧ i3 ≤ (l1.length : Int)) ∧
 Tri Tryz.prog 118 [vS ((l1.drop (i1).toNat).take ((i3).toNat - (i1).toNat))] h_6 fun v_7 h_7 =>
 ∃ (i4 i5 : Int), v_7 = vT [vI i4, vI i5] ∧
 br (i5 != 0)
 (Q (vT [vA [vI 0, vS [], vI 0, vS [], vI 0], vI i1, vI i5, vI i1]) h_7)
 ((0 ≤ i1 ∧ i1 ≤ i3 ∧ i3 ≤ (l1.length : Int)) ∧
 Q (vT [vA [vI 2, vS ((l1.drop (i1).toNat).take ((i3).toNat - (i1).toNat)), vI i4, vS [], vI i1], vI i3, vI 0, vI 0]) h_7))
 (br ((c1.toNat : Int) == 39)
 (Tri Tryz.prog 119 [vS l1, vI i1] h_5 fun v_8 h_8 =>
 ∃ (i6 : Int) (l2 : Bs) (i7 : Int) (l3 : Bs) (i8 i9 i10 i11 : Int), v_8 = vT [vA [vI i6, vS l2, vI i7, vS l3, vI i8], vI i9, vI i10, vI i11] ∧
 Q (vT [vA [vI i6, vS l2, vI i7, vS l3, vI i8], vI i9, vI i10, vI i11]) h_8)
 (br ((c1.toNat : Int) == 34)
 (Tri Tryz.prog 119 [vS l1, vI i1] h_5 fun v_9 h_9 =>
 ∃ (i12 : Int) (l4 : Bs) (i13 : Int) (l5 : Bs) (i14 i15 i16 i17 : Int), v_9 = vT [vA [vI i12, vS l4, vI i13, vS l5, vI i14], vI i15, vI i16, vI i17] ∧
 Q (vT [vA [vI i12, vS l4, vI i13, vS l5, vI i14], vI i15, vI i16, vI i17]) h_9)
 (∃ (I_1 : Nat → Int → Int → Bs → Int → Bs → Int → PHeap → Prop), (∃ (m2 : Nat), I_1 m2 (2 : Int) (0 : Int) [] (0 : Int) [] (0 : Int) h_5) ∧
 ∀ (m1 : Nat) (i18 : Int) (i19 : Int) (l6 : Bs) (i20 : Int) (l7 : Bs) (i21 : Int) (h_10 : PHeap), I_1 m1 i18 i19 l6 i20 l7 i21 h_10 →
 br (decide (i18 > 0))
 (br (decide ((IntKind.i64.wrap (i1 + i18)) ≤ (l1.length : Int)))
 ((0 ≤ i1 ∧ i1 ≤ (IntKind.i64.wrap (i1 + i18)) ∧ (IntKind.i64.wrap (i1 + i18)) ≤ (l1.length : Int)) ∧
 Tri Tryz.prog 120 [] h_10 fun v_10 h_11 =>
 ∃ (a2 : OA) (n2 k2 : Nat), v_10 = vL a2 n2 k2 ∧
 Tri Tryz.prog 115 [vL a2 n2 k2, vS ((l1.drop (i1).toNat).take ((IntKind.i64.wrap (i1 + i18)).toNat - (i1).toNat))] h_11 fun v_11 h_12 =>
 ∃ (c5 : Bool), v_11 = vB c5 ∧
 br c5
 ((0 ≤ i1 ∧ i1 ≤ (IntKind.i64.wrap (i1 + i18)) ∧ (IntKind.i64.wrap (i1 + i18)) ≤ (l1.length : Int)) ∧
 Q (vT [vA [vI 5, vS ((l1.drop (i1).toNat).take ((IntKind.i64.wrap (i1 + i18)).toNat - (i1).toNat)), vI 0, vS [], vI i1], vI (IntKind.i64.wrap (i1 + i18)), vI 0, vI 0]) h_12)
 (∃ (m3 : Nat), m3 < m1 ∧ I_1 m3 (IntKind.i64.wrap (i18 - 1)) i19 l6 i20 l7 i21 h_12 ∧
 True))
 (∃ (m4 : Nat), m4 < m1 ∧ I_1 m4 (IntKind.i64.wrap (i18 - 1)) i19 l6 i20 l7 i21 h_10 ∧
 True))
 (Q (vT [vA [vI 0, vS [], vI 0, vS [], vI 0], vI i1, vI 6, vI i1]) h_10)))))
theorem T71 {l1 : Bs} {i1 : Int} {h : PHeap} {Q : Value → PHeap → Prop} (hR : R71 l1 i1 h Q) : Tri Tryz.prog 71 [vS l1, vI i1] h Q :=
 tri_of_dn mixed Tryz.func71 rfl (by kernel_rfl) low71 (rs := [.cell 4 true 5, .tmp 5, .tmp 6, .tmp 7]) (by kernel_rfl) rfl (Eq.mpr (by kernel_rfl : dnF Tryz.prog Tryz.f71.ntmps d71 [.cell 4 true 5, .tmp 5, .tmp 6, .tmp 7] [vS l1, vI i1] h Q = R71 l1 i1 h Q) hR)
noncomputable def d113 : DCode := up ⟨[], [], []⟩ (low Tryz.prog (fun _ => false) (Tryz.f113.body.getD .skip))
theorem low113 : low Tryz.prog (fun _ => false) (Tryz.f113.body.getD .skip) = some (eC d113) := by kernel_rfl
def R113 (i1 : Int) (h : PHeap) (Q : Value → PHeap → Prop) : Prop :=
 br (decide (i1 ≥ 97))
 (br (decide (i1 ≤ 122))
 (Q (vB true) h)
 (br (decide (i1 ≥ 65))
 (br (decide (i1 ≤ 90))
 (Q (vB true) h)
 (Q (vB (i1 == 95)) h))
 (Q (vB (i1 == 95)) h)))
 (br (decide (i1 ≥ 65))
 (br (decide (i1 ≤ 90))
 (Q (vB true) h)
 (Q (vB (i1 == 95)) h))
 (Q (vB (i1 == 95)) h))
theorem T113 {i1 : Int} {h : PHeap} {Q : Value → PHeap → Prop} (hR : R113 i1 h Q) : Tri Tryz.prog 113 [vU i1] h Q :=
 tri_of_dn mixed Tryz.func113 rfl (by kernel_rfl) low113 (rs := [.tmp 2]) (by kernel_rfl) rfl (Eq.mpr (by kernel_rfl : dnF Tryz.prog Tryz.f113.ntmps d113 [.tmp 2] [vU i1] h Q = R113 i1 h Q) hR)
noncomputable def d114 : DCode := up ⟨[(13, .c (.one false [.bool])), (18, .c (.one false [.bool]))], [], [(5, 19, [(1, qi)], [])]⟩ (low Tryz.prog (fun _ => false) (Tryz.f114.body.getD .skip))
theorem low114 : low Tryz.prog (fun _ => false) (Tryz.f114.body.getD .skip) = some (eC d114) := by kernel_rfl
def R114 (l1 : Bs) (i1 : Int) (h : PHeap) (Q : Value → PHeap → Prop) : Prop :=
 ∃ (I_1 : Nat → Int → PHeap → Prop), (∃ (m2 : Nat), I_1 m2 i1 h) ∧
 ∀ (m1 : Nat) (i2 : Int) (h_1 : PHeap), I_1 m1 i2 h_1 →
 br (decide (i2 < (l1.length : Int)))
 (0 ≤ i2 ∧ ∃ (c1 : UInt8), (l1)[(i2).toNat]? = some c1 ∧
 Tri Tryz.prog 113 [vU (c1.toNat : Int)] h_1 fun v_1 h_2 =>
 ∃ (c2 : Bool), v_1 = vB c2 ∧
 br c2
 (∃ (m3 : Nat), m3 < m1 ∧ I_1 m3 (IntKind.i64.wrap (i2 + 1)) h_2 ∧
 True)
 (0 ≤ i2 ∧ ∃ (c3 : UInt8), (l1)[(i2).toNat]? = some c3 ∧
 Tri Tryz.prog 117 [vU (c3.toNat : Int)] h_2 fun v_2 h_3 =>
 ∃ (c4 : Bool), v_2 = vB c4 ∧
 br c4
 (∃ (m4 : Nat), m4 < m1 ∧ I_1 m4 (IntKind.i64.wrap (i2 + 1)) h_3 ∧
 True)
 (Q (vI i2) h_3)))
 (Q (vI i2) h_1)
theorem T114 {l1 : Bs} {i1 : Int} {h : PHeap} {Q : Value → PHeap → Prop} (hR : R114 l1 i1 h Q) : Tri Tryz.prog 114 [vS l1, vI i1] h Q :=
 tri_of_dn mixed Tryz.func114 rfl (by kernel_rfl) low114 (rs := [.tmp 4]) (by kernel_rfl) rfl (Eq.mpr (by kernel_rfl : dnF Tryz.prog Tryz.f114.ntmps d114 [.tmp 4] [vS l1, vI i1] h Q = R114 l1 i1 h Q) hR)
noncomputable def d115 : DCode := up ⟨[(15, .l [.str])], [], [(6, 14, [(5, qi)], [])]⟩ (low Tryz.prog (fun _ => false) (Tryz.f115.body.getD .skip))
theorem low115 : low Tryz.prog (fun _ => false) (Tryz.f115.body.getD .skip) = some (eC d115) := by kernel_rfl
def R115 (a1 : OA) (n1 : Nat) (dvk1 : Nat) (l1 : Bs) (h : PHeap) (Q : Value → PHeap → Prop) : Prop :=
 ∃ (I_1 : Nat → Int → PHeap → Prop), (∃ (m2 : Nat), I_1 m2 (0 : Int) h) ∧
 ∀ (m1 : Nat) (i1 : Int) (h_1 : PHeap), I_1 m1 i1 h_1 →
 br (decide (i1 < ((n1 : Nat) : Int)))
 (∃ (b1 o1 : Nat), a1 = some ⟨b1, o1, none⟩ ∧ (0 ≤ i1 ∧ i1 < n1) ∧
 ∃ (l2 : Bs), h_1.cell b1 (o1 + (i1).toNat * 1) = some (vS l2) ∧
 br (l2 == l1)
 (Q (vB true) h_1)
 (∃ (m3 : Nat), m3 < m1 ∧ I_1 m3 (IntKind.i64.wrap (i1 + 1)) h_1 ∧
 True))
 (Q (vB false) h_1)
theorem T115 {a1 : OA} {n1 : Nat} {dvk1 : Nat} {l1 : Bs} {h : PHeap} {Q : Value → PHeap → Prop} (hR : R115 a1 n1 dvk1 l1 h Q) : Tri Tryz.prog 115 [vL a1 n1 dvk1, vS l1] h Q :=
 tri_of_dn mixed Tryz.func115 rfl (by kernel_rfl) low115 (rs := [.tmp 4]) (by kernel_rfl) rfl (Eq.mpr (by kernel_rfl : dnF Tryz.prog Tryz.f115.ntmps d115 [.tmp 4] [vL a1 n1 dvk1, vS l1] h Q = R115 a1 n1 dvk1 l1 h Q) hR)
noncomputable def d116 : DCode := up ⟨[], [], []⟩ (low Tryz.prog (fun _ => false) (Tryz.f116.body.getD .skip))
theorem low116 : low Tryz.prog (fun _ => false) (Tryz.f116.body.getD .skip) = some (eC d116) := by kernel_rfl
def R116 (h : PHeap) (Q : Value → PHeap → Prop) : Prop :=
 ∀ (b1 : Nat), h b1 = none → ∀ (h_1 : PHeap), h_1 = h.put b1 (.cells ⟨[vS [98, 114, 101, 97, 107], vS [99, 111, 110, 116, 105, 110, 117, 101], vS [101, 108, 115, 101], vS [102, 117, 110, 99], vS [105, 102], vS [114, 101, 116, 117, 114, 110], vS [118, 97, 114], vS [119, 104, 105, 108, 101]]⟩ 9) →
 Q (vL (ad b1 0) 8 8) h_1
theorem T116 {h : PHeap} {Q : Value → PHeap → Prop} (hR : R116  h Q) : Tri Tryz.prog 116 [] h Q :=
 tri_of_dn mixed Tryz.func116 rfl (by kernel_rfl) low116 (rs := [.tmp 0]) (by kernel_rfl) rfl (Eq.mpr (by kernel_rfl : dnF Tryz.prog Tryz.f116.ntmps d116 [.tmp 0] [] h Q = R116  h Q) hR)
noncomputable def d117 : DCode := up ⟨[], [], []⟩ (low Tryz.prog (fun _ => false) (Tryz.f117.body.getD .skip))
theorem low117 : low Tryz.prog (fun _ => false) (Tryz.f117.body.getD .skip) = some (eC d117) := by kernel_rfl
def R117 (i1 : Int) (h : PHeap) (Q : Value → PHeap → Prop) : Prop :=
 br (decide (i1 ≥ 48))
 (Q (vB (decide (i1 ≤ 57))) h)
 (Q (vB false) h)
theorem T117 {i1 : Int} {h : PHeap} {Q : Value → PHeap → Prop} (hR : R117 i1 h Q) : Tri Tryz.prog 117 [vU i1] h Q :=
 tri_of_dn mixed Tryz.func117 rfl (by kernel_rfl) low117 (rs := [.tmp 2]) (by kernel_rfl) rfl (Eq.mpr (by kernel_rfl : dnF Tryz.prog Tryz.f117.ntmps d117 [.tmp 2] [vU i1] h Q = R117 i1 h Q) hR)
noncomputable def d118 : DCode := up ⟨[(26, .c (.one false [qi])), (37, .c (.one false [qi])), (49, .c (.one false [.bool]))], [], [(17, 26, [(4, qi), (5, qi)], []), (40, 40, [(6, qi), (7, .bool), (8, qi)], [])]⟩ (low Tryz.prog (fun _ => false) (Tryz.f118.body.getD .skip))
theorem low118 : low Tryz.prog (fun _ => false) (Tryz.f118.body.getD .skip) = some (eC d118) := by kernel_rfl
def R118 (l1 : Bs) (h : PHeap) (Q : Value → PHeap → Prop) : Prop :=
 br (decide ((l1.length : Int) > 2))
 ((0 ≤ (0 : Int) ∧ (0 : Int) ≤ 2 ∧ 2 ≤ (l1.length : Int)) ∧
 br (((l1.drop 0).take (2 - 0)) == [48, 120])
 (∃ (I_1 : Nat → Int → Int → PHeap → Prop), (∃ (m2 : Nat), I_1 m2 (0 : Int) (2 : Int) h) ∧
 ∀ (m1 : Nat) (i1 : Int) (i2 : Int) (h_1 : PHeap), I_1 m1 i1 i2 h_1 →
 br (decide (i2 < (l1.length : Int)))
 (0 ≤ i2 ∧ ∃ (c1 : UInt8), (l1)[(i2).toNat]? = some c1 ∧
 Tri Tryz.prog 154 [vU (c1.toNat : Int)] h_1 fun v_1 h_2 =>
 ∃ (i3 : Int), v_1 = vI i3 ∧
 br (decide (i3 < 0))
 (Q (vT [vI 0, vI 3]) h_2)
 (br (decide (i2 ≥ 10))
 (Q (vT [vI 0, vI 3]) h_2)
 (0 ≤ i2 ∧ ∃ (c2 : UInt8), (l1)[(i2).toNat]? = some c2 ∧
 Tri Tryz.prog 154 [vU (c2.toNat : Int)] h_2 fun v_2 h_3 =>
 ∃ (i4 : Int), v_2 = vI i4 ∧
 ∃ (m3 : Nat), m3 < m1 ∧ I_1 m3 (IntKind.i64.wrap ((IntKind.i64.wrap (16 * i1)) + i4)) (IntKind.i64.wrap (i2 + 1)) h_3 ∧
 True)))
 (Q (vT [vI i1, vI 0]) h_1))
 (∃ (I_2 : Nat → Int → Bool → Int → PHeap → Prop), (∃ (m5 : Nat), I_2 m5 (0 : Int) false (0 : Int) h) ∧
 ∀ (m4 : Nat) (i5 : Int) (c3 : Bool) (i6 : Int) (h_4 : PHeap), I_2 m4 i5 c3 i6 h_4 →
 br (decide (i6 < (l1.length : Int)))
 (0 ≤ i6 ∧ ∃ (c4 : UInt8), (l1)[(i6).toNat]? = some c4 ∧
 Tri Tryz.prog 117 [vU (c4.toNat : Int)] h_4 fun v_3 h_5 =>
 ∃ (c5 : Bool), v_3 = vB c5 ∧
 br (!c5)
 (Q (vT [vI 0, vI 3]) h_5)
 (br (i6 == 1)
 (0 ≤ (0 : Int) ∧ ∃ (c6 : UInt8), (l1)[0]? = some c6 ∧
 br ((c6.toNat : Int) == 48)
 (Q (vT [vI 0, vI 3]) h_5)
 (br (!c3)
 (0 ≤ i6 ∧ ∃ (c7 : UInt8), (l1)[(i6).toNat]? = some c7 ∧
 br c3
 (∃ (m6 : Nat), m6 < m4 ∧ I_2 m6 (IntKind.i64.wrap ((IntKind.i64.wrap (10 * i5)) + (IntKind.i64.wrap ((IntKind.u8.wrap ((c7.toNat : Int) - 48)))))) true (IntKind.i64.wrap (i6 + 1)) h_5 ∧
 True)
 (∃ (m7 : Nat), m7 < m4 ∧ I_2 m7 (IntKind.i64.wrap ((IntKind.i64.wrap (10 * i5)) + (IntKind.i64.wrap ((IntKind.u8.wrap ((c7.toNat : Int) - 48)))))) (decide ((IntKind.i64.wrap ((IntKind.i64.wrap (10 * i5)) + (IntKind.i64.wrap ((IntKind.u8.wrap ((c7.toNat : Int) - 48)))))) > 4294967295)) (IntKind.i64.wrap (i6 + 1)) h_5 ∧
 True))
 (br c3
 (∃ (m8 : Nat), m8 < m4 ∧ I_2 m8 i5 true (IntKind.i64.wrap (i6 + 1)) h_5 ∧
 True)
 (∃ (m9 : Nat), m9 < m4 ∧ I_2 m9 i5 (decide (i5 > 4294967295)) (IntKind.i64.wrap (i6 + 1)) h_5 ∧
 True))))
 (br (!c3)
 (0 ≤ i6 ∧ ∃ (c8 : UInt8), (l1)[(i6).toNat]? = some c8 ∧
 br c3
 (∃ (m10 : Nat), m10 < m4 ∧ I_2 m10 (IntKind.i64.wrap ((IntKind.i64.wrap (10 * i5)) + (IntKind.i64.wrap ((IntKind.u8.wrap ((c8.toNat : Int) - 48)))))) true (IntKind.i64.wrap (i6 + 1)) h_5 ∧
 True)
 (∃ (m11 : Nat), m11 < m4 ∧ I_2 m11 (IntKind.i64.wrap ((IntKind.i64.wrap (10 * i5)) + (IntKind.i64.wrap ((IntKind.u8.wrap ((c8.toNat : Int) - 48)))))) (decide ((IntKind.i64.wrap ((IntKind.i64.wrap (10 * i5)) + (IntKind.i64.wrap ((IntKind.u8.wrap ((c8.toNat : Int) - 48)))))) > 4294967295)) (IntKind.i64.wrap (i6 + 1)) h_5 ∧
 True))
 (br c3
 (∃ (m12 : Nat), m12 < m4 ∧ I_2 m12 i5 true (IntKind.i64.wrap (i6 + 1)) h_5 ∧
 True)
 (∃ (m13 : Nat), m13 < m4 ∧ I_2 m13 i5 (decide (i5 > 4294967295)) (IntKind.i64.wrap (i6 + 1)) h_5 ∧
 True)))))
 (br c3
 (Q (vT [vI 0, vI 2]) h_4)
 (Q (vT [vI i5, vI 0]) h_4))))
 (∃ (I_3 : Nat → Int → Bool → Int → PHeap → Prop), (∃ (m15 : Nat), I_3 m15 (0 : Int) false (0 : Int) h) ∧
 ∀ (m14 : Nat) (i7 : Int) (c9 : Bool) (i8 : Int) (h_6 : PHeap), I_3 m14 i7 c9 i8 h_6 →
 br (decide (i8 < (l1.length : Int)))
 (0 ≤ i8 ∧ ∃ (c10 : UInt8), (l1)[(i8).toNat]? = some c10 ∧
 Tri Tryz.prog 117 [vU (c10.toNat : Int)] h_6 fun v_4 h_7 =>
 ∃ (c11 : Bool), v_4 = vB c11 ∧
 br (!c11)
 (Q (vT [vI 0, vI 3]) h_7)
 (br (i8 == 1)
 (0 ≤ (0 : Int) ∧ ∃ (c12 : UInt8), (l1)[0]? = some c12 ∧
 br ((c12.toNat : Int) == 48)
 (Q (vT [vI 0, vI 3]) h_7)
 (br (!c9)
 (0 ≤ i8 ∧ ∃ (c13 : UInt8), (l1)[(i8).toNat]? = some c13 ∧
 br c9
 (∃ (m16 : Nat), m16 < m14 ∧ I_3 m16 (IntKind.i64.wrap ((IntKind.i64.wrap (10 * i7)) + (IntKind.i64.wrap ((IntKind.u8.wrap ((c13.toNat : Int) - 48)))))) true (IntKind.i64.wrap (i8 + 1)) h_7 ∧
 True)
 (∃ (m17 : Nat), m17 < m14 ∧ I_3 m17 (IntKind.i64.wrap ((IntKind.i64.wrap (10 * i7)) + (IntKind.i64.wrap ((IntKind.u8.wrap ((c13.toNat : Int) - 48)))))) (decide ((IntKind.i64.wrap ((IntKind.i64.wrap (10 * i7)) + (IntKind.i64.wrap ((IntKind.u8.wrap ((c13.toNat : Int) - 48)))))) > 4294967295)) (IntKind.i64.wrap (i8 + 1)) h_7 ∧
 True))
 (br c9
 (∃ (m18 : Nat), m18 < m14 ∧ I_3 m18 i7 true (IntKind.i64.wrap (i8 + 1)) h_7 ∧
 True)
 (∃ (m19 : Nat), m19 < m14 ∧ I_3 m19 i7 (decide (i7 > 4294967295)) (IntKind.i64.wrap (i8 + 1)) h_7 ∧
 True))))
 (br (!c9)
 (0 ≤ i8 ∧ ∃ (c14 : UInt8), (l1)[(i8).toNat]? = some c14 ∧
 br c9
 (∃ (m20 : Nat), m20 < m14 ∧ I_3 m20 (IntKind.i64.wrap ((IntKind.i64.wrap (10 * i7)) + (IntKind.i64.wrap ((IntKind.u8.wrap ((c14.toNat : Int) - 48)))))) true (IntKind.i64.wrap (i8 + 1)) h_7 ∧
 True)
 (∃ (m21 : Nat), m21 < m14 ∧ I_3 m21 (IntKind.i64.wrap ((IntKind.i64.wrap (10 * i7)) + (IntKind.i64.wrap ((IntKind.u8.wrap ((c14.toNat : Int) - 48)))))) (decide ((IntKind.i64.wrap ((IntKind.i64.wrap (10 * i7)) + (IntKind.i64.wrap ((IntKind.u8.wrap ((c14.toNat : Int) - 48)))))) > 4294967295)) (IntKind.i64.wrap (i8 + 1)) h_7 ∧
 True))
 (br c9
 (∃ (m22 : Nat), m22 < m14 ∧ I_3 m22 i7 true (IntKind.i64.wrap (i8 + 1)) h_7 ∧
 True)
 (∃ (m23 : Nat), m23 < m14 ∧ I_3 m23 i7 (decide (i7 > 4294967295)) (IntKind.i64.wrap (i8 + 1)) h_7 ∧
 True)))))
 (br c9
 (Q (vT [vI 0, vI 2]) h_6)
 (Q (vT [vI i7, vI 0]) h_6)))
theorem T118 {l1 : Bs} {h : PHeap} {Q : Value → PHeap → Prop} (hR : R118 l1 h Q) : Tri Tryz.prog 118 [vS l1] h Q :=
 tri_of_dn mixed Tryz.func118 rfl (by kernel_rfl) low118 (rs := [.tmp 2, .tmp 3]) (by kernel_rfl) rfl (Eq.mpr (by kernel_rfl : dnF Tryz.prog Tryz.f118.ntmps d118 [.tmp 2, .tmp 3] [vS l1] h Q = R118 l1 h Q) hR)
noncomputable def d119 : DCode := up ⟨[(42, .c (.tup [(false, [.int .u8]), (false, [qi]), (false, [qi]), (false, [qi])])), (100, .c (.tup [(false, [.int .u8]), (false, [qi]), (false, [qi]), (false, [qi])]))], [], [(86, 45, [(12, .str), (13, qi)], [(4, dvk1)])]⟩ (low Tryz.prog (fun _ => false) (Tryz.f119.body.getD .skip))
theorem low119 : low Tryz.prog (fun _ => false) (Tryz.f119.body.getD .skip) = some (eC d119) := by kernel_rfl
def R119 (l1 : Bs) (i1 : Int) (h : PHeap) (Q : Value → PHeap → Prop) : Prop :=
 0 ≤ i1 ∧ ∃ (c1 : UInt8), (l1)[(i1).toNat]? = some c1 ∧
 br ((c1.toNat : Int) == 39)
 (br (decide ((IntKind.i64.wrap (i1 + 1)) < (l1.length : Int)))
 (0 ≤ (IntKind.i64.wrap (i1 + 1)) ∧ ∃ (c2 : UInt8), (l1)[(IntKind.i64.wrap (i1 + 1)).toNat]? = some c2 ∧
 br ((c2.toNat : Int) == 39)
 (Q (vT [vA [vI 0, vS [], vI 0, vS [], vI 0], vI i1, vI 6, vI (IntKind.i64.wrap (i1 + 1))]) h)
 (Tri Tryz.prog 155 [vS l1, vI (IntKind.i64.wrap (i1 + 1))] h fun v_1 h_1 =>
 ∃ (i2 i3 i4 i5 : Int), v_1 = vT [vU i2, vI i3, vI i4, vI i5] ∧
 br (i4 == 0)
 (br (decide (i3 ≥ (l1.length : Int)))
 (Q (vT [vA [vI 0, vS [], vI 0, vS [], vI 0], vI i1, vI 4, vI i1]) h_1)
 (br (i4 == 4)
 (Q (vT [vA [vI 0, vS [], vI 0, vS [], vI 0], vI i1, vI 4, vI i1]) h_1)
 (br (i4 != 0)
 (Q (vT [vA [vI 0, vS [], vI 0, vS [], vI 0], vI i1, vI i4, vI i5]) h_1)
 (0 ≤ i3 ∧ ∃ (c3 : UInt8), (l1)[(i3).toNat]? = some c3 ∧
 br ((c3.toNat : Int) != 39)
 (Q (vT [vA [vI 0, vS [], vI 0, vS [], vI 0], vI i1, vI 6, vI i3]) h_1)
 ((0 ≤ i1 ∧ i1 ≤ (IntKind.i64.wrap (i3 + 1)) ∧ (IntKind.i64.wrap (i3 + 1)) ≤ (l1.length : Int)) ∧
 Q (vT [vA [vI 2, vS ((l1.drop (i1).toNat).take ((IntKind.i64.wrap (i3 + 1)).toNat - (i1).toNat)), vI (IntKind.i64.wrap (i2)), vS [], vI i1], vI (IntKind.i64.wrap (i3 + 1)), vI 0, vI 0]) h_1)))))
 (br (i4 == 4)
 (Q (vT [vA [vI 0, vS [], vI 0, vS [], vI 0], vI i1, vI 4, vI i1]) h_1)
 (br (i4 != 0)
 (Q (vT [vA [vI 0, vS [], vI 0, vS [], vI 0], vI i1, vI i4, vI i5]) h_1)
 (0 ≤ i3 ∧ ∃ (c4 : UInt8), (l1)[(i3).toNat]? = some c4 ∧
 br ((c4.toNat : Int) != 39)
 (Q (vT [vA [vI 0, vS [], vI 0, vS [], vI 0], vI i1, vI 6, vI i3]) h_1)
 ((0 ≤ i1 ∧ i1 ≤ (IntKind.i64.wrap (i3 + 1)) ∧ (IntKind.i64.wrap (i3 + 1)) ≤ (l1.length : Int)) ∧
 Q (vT [vA [vI 2, vS ((l1.drop (i1).toNat).take ((IntKind.i64.wrap (i3 + 1)).toNat - (i1).toNat)), vI (IntKind.i64.wrap (i2)), vS [], vI i1], vI (IntKind.i64.wrap (i3 + 1)), vI 0, vI 0]) h_1))))))
 (Tri Tryz.prog 155 [vS l1, vI (IntKind.i64.wrap (i1 + 1))] h fun v_2 h_2 =>
 ∃ (i6 i7 i8 i9 : Int), v_2 = vT [vU i6, vI i7, vI i8, vI i9] ∧
 br (i8 == 0)
 (br (decide (i7 ≥ (l1.length : Int)))
 (Q (vT [vA [vI 0, vS [], vI 0, vS [], vI 0], vI i1, vI 4, vI i1]) h_2)
 (br (i8 == 4)
 (Q (vT [vA [vI 0, vS [], vI 0, vS [], vI 0], vI i1, vI 4, vI i1]) h_2)
 (br (i8 != 0)
 (Q (vT [vA [vI 0, vS [], vI 0, vS [], vI 0], vI i1, vI i8, vI i9]) h_2)
 (0 ≤ i7 ∧ ∃ (c5 : UInt8), (l1)[(i7).toNat]? = some c5 ∧
 br ((c5.toNat : Int) != 39)
 (Q (vT [vA [vI 0, vS [], vI 0, vS [], vI 0], vI i1, vI 6, vI i7]) h_2)
 ((0 ≤ i1 ∧ i1 ≤ (IntKind.i64.wrap (i7 + 1)) ∧ (IntKind.i64.wrap (i7 + 1)) ≤ (l1.length : Int)) ∧
 Q (vT [vA [vI 2, vS ((l1.drop (i1).toNat).take ((IntKind.i64.wrap (i7 + 1)).toNat - (i1).toNat)), vI (IntKind.i64.wrap (i6)), vS [], vI i1], vI (IntKind.i64.wrap (i7 + 1)), vI 0, vI 0]) h_2)))))
 (br (i8 == 4)
 (Q (vT [vA [vI 0, vS [], vI 0, vS [], vI 0], vI i1, vI 4, vI i1]) h_2)
 (br (i8 != 0)
 (Q (vT [vA [vI 0, vS [], vI 0, vS [], vI 0], vI i1, vI i8, vI i9]) h_2)
 (0 ≤ i7 ∧ ∃ (c6 : UInt8), (l1)[(i7).toNat]? = some c6 ∧
 br ((c6.toNat : Int) != 39)
 (Q (vT [vA [vI 0, vS [], vI 0, vS [], vI 0], vI i1, vI 6, vI i7]) h_2)
 ((0 ≤ i1 ∧ i1 ≤ (IntKind.i64.wrap (i7 + 1)) ∧ (IntKind.i64.wrap (i7 + 1)) ≤ (l1.length : Int)) ∧
 Q (vT [vA [vI 2, vS ((l1.drop (i1).toNat).take ((IntKind.i64.wrap (i7 + 1)).toNat - (i1).toNat)), vI (IntKind.i64.wrap (i6)), vS [], vI i1], vI (IntKind.i64.wrap (i7 + 1)), vI 0, vI 0]) h_2))))))
 (∃ (I_1 : Nat → Bs → Int → Int → Bs → Int → Bs → Int → PHeap → Prop), (∃ (m2 : Nat), I_1 m2 [] (IntKind.i64.wrap (i1 + 1)) (0 : Int) [] (0 : Int) [] (0 : Int) h) ∧
 ∀ (m1 : Nat) (l2 : Bs) (i10 : Int) (i11 : Int) (l3 : Bs) (i12 : Int) (l4 : Bs) (i13 : Int) (h_3 : PHeap), I_1 m1 l2 i10 i11 l3 i12 l4 i13 h_3 →
 br (decide (i10 ≥ (l1.length : Int)))
 (Q (vT [vA [vI 0, vS [], vI 0, vS [], vI 0], vI i1, vI 4, vI i1]) h_3)
 (0 ≤ i10 ∧ ∃ (c7 : UInt8), (l1)[(i10).toNat]? = some c7 ∧
 br ((c7.toNat : Int) == 34)
 (br (decide ((l2.length : Int) > 200))
 (Q (vT [vA [vI 0, vS [], vI 0, vS [], vI 0], vI i1, vI 5, vI i1]) h_3)
 ((0 ≤ i1 ∧ i1 ≤ (IntKind.i64.wrap (i10 + 1)) ∧ (IntKind.i64.wrap (i10 + 1)) ≤ (l1.length : Int)) ∧
 Q (vT [vA [vI 3, vS ((l1.drop (i1).toNat).take ((IntKind.i64.wrap (i10 + 1)).toNat - (i1).toNat)), vI 0, vS l2, vI i1], vI (IntKind.i64.wrap (i10 + 1)), vI 0, vI 0]) h_3))
 (Tri Tryz.prog 155 [vS l1, vI i10] h_3 fun v_3 h_4 =>
 ∃ (i14 i15 i16 i17 : Int), v_3 = vT [vU i14, vI i15, vI i16, vI i17] ∧
 br (i16 == 4)
 (Q (vT [vA [vI 0, vS [], vI 0, vS [], vI 0], vI i1, vI 4, vI i1]) h_4)
 (br (i16 != 0)
 (Q (vT [vA [vI 0, vS [], vI 0, vS [], vI 0], vI i1, vI i16, vI i17]) h_4)
 (∀ (b1 : Nat), h_4 b1 = none → ∀ (h_5 : PHeap), h_5 = h_4.put b1 (.cells ⟨[vU i14]⟩ 5) →
 ∃ (l5 : Bs), BytesAt h_5 (ad b1 0) 1 l5 ∧
 l2.length + l5.length ≤ 9223372036854775807 ∧
 ∃ (m3 : Nat), m3 < m1 ∧ I_1 m3 (l2 ++ l5) i15 i11 l3 i12 l4 i13 h_5 ∧
 True)))))
theorem T119 {l1 : Bs} {i1 : Int} {h : PHeap} {Q : Value → PHeap → Prop} (hR : R119 l1 i1 h Q) : Tri Tryz.prog 119 [vS l1, vI i1] h Q :=
 tri_of_dn mixed Tryz.func119 rfl (by kernel_rfl) low119 (rs := [.cell 4 true 5, .tmp 5, .tmp 6, .tmp 7]) (by kernel_rfl) rfl (Eq.mpr (by kernel_rfl : dnF Tryz.prog Tryz.f119.ntmps d119 [.cell 4 true 5, .tmp 5, .tmp 6, .tmp 7] [vS l1, vI i1] h Q = R119 l1 i1 h Q) hR)
noncomputable def d120 : DCode := up ⟨[], [], []⟩ (low Tryz.prog (fun _ => false) (Tryz.f120.body.getD .skip))
theorem low120 : low Tryz.prog (fun _ => false) (Tryz.f120.body.getD .skip) = some (eC d120) := by kernel_rfl
def R120 (h : PHeap) (Q : Value → PHeap → Prop) : Prop :=
 ∀ (b1 : Nat), h b1 = none → ∀ (h_1 : PHeap), h_1 = h.put b1 (.cells ⟨[vS [33], vS [33, 61], vS [37], vS [38], vS [38, 38], vS [40], vS [41], vS [42], vS [43], vS [44], vS [45], vS [47], vS [59], vS [60], vS [60, 60], vS [60, 61], vS [61], vS [61, 61], vS [62], vS [62, 61], vS [62, 62], vS [91], vS [93], vS [94], vS [123], vS [124], vS [124, 124], vS [125], vS [126]]⟩ 9) →
 Q (vL (ad b1 0) 29 29) h_1
theorem T120 {h : PHeap} {Q : Value → PHeap → Prop} (hR : R120  h Q) : Tri Tryz.prog 120 [] h Q :=
 tri_of_dn mixed Tryz.func120 rfl (by kernel_rfl) low120 (rs := [.tmp 0]) (by kernel_rfl) rfl (Eq.mpr (by kernel_rfl : dnF Tryz.prog Tryz.f120.ntmps d120 [.tmp 0] [] h Q = R120  h Q) hR)
noncomputable def d154 : DCode := up ⟨[(5, .c (.one false [.bool]))], [], []⟩ (low Tryz.prog (fun _ => false) (Tryz.f154.body.getD .skip))
theorem low154 : low Tryz.prog (fun _ => false) (Tryz.f154.body.getD .skip) = some (eC d154) := by kernel_rfl
def R154 (i1 : Int) (h : PHeap) (Q : Value → PHeap → Prop) : Prop :=
 Tri Tryz.prog 117 [vU i1] h fun v_1 h_1 =>
 ∃ (c1 : Bool), v_1 = vB c1 ∧
 br c1
 (Q (vI (IntKind.i64.wrap ((IntKind.u8.wrap (i1 - 48))))) h_1)
 (br (decide (i1 ≥ 97))
 (br (decide (i1 ≤ 102))
 (Q (vI (IntKind.i64.wrap ((IntKind.i64.wrap ((IntKind.u8.wrap (i1 - 97)))) + 10))) h_1)
 (Q (vI (-1)) h_1))
 (Q (vI (-1)) h_1))
theorem T154 {i1 : Int} {h : PHeap} {Q : Value → PHeap → Prop} (hR : R154 i1 h Q) : Tri Tryz.prog 154 [vU i1] h Q :=
 tri_of_dn mixed Tryz.func154 rfl (by kernel_rfl) low154 (rs := [.tmp 2]) (by kernel_rfl) rfl (Eq.mpr (by kernel_rfl : dnF Tryz.prog Tryz.f154.ntmps d154 [.tmp 2] [vU i1] h Q = R154 i1 h Q) hR)
noncomputable def d155 : DCode := up ⟨[(89, .c (.one false [qi])), (98, .c (.one false [qi]))], [], [(74, 32, [(8, qi), (9, qi)], [])]⟩ (low Tryz.prog (fun _ => false) (Tryz.f155.body.getD .skip))
theorem low155 : low Tryz.prog (fun _ => false) (Tryz.f155.body.getD .skip) = some (eC d155) := by kernel_rfl
def R155 (l1 : Bs) (i1 : Int) (h : PHeap) (Q : Value → PHeap → Prop) : Prop :=
 br (decide (i1 ≥ (l1.length : Int)))
 (Q (vT [vU 0, vI i1, vI 4, vI i1]) h)
 (0 ≤ i1 ∧ ∃ (c1 : UInt8), (l1)[(i1).toNat]? = some c1 ∧
 br (decide ((c1.toNat : Int) < 32))
 (Q (vT [vU 0, vI i1, vI 6, vI i1]) h)
 (0 ≤ i1 ∧ ∃ (c2 : UInt8), (l1)[(i1).toNat]? = some c2 ∧
 br (decide ((c2.toNat : Int) > 126))
 (Q (vT [vU 0, vI i1, vI 6, vI i1]) h)
 (0 ≤ i1 ∧ ∃ (c3 : UInt8), (l1)[(i1).toNat]? = some c3 ∧
 br ((c3.toNat : Int) != 92)
 (0 ≤ i1 ∧ ∃ (c4 : UInt8), (l1)[(i1).toNat]? = some c4 ∧
 Q (vT [vU (c4.toNat : Int), vI (IntKind.i64.wrap (i1 + 1)), vI 0, vI 0]) h)
 (br (decide ((IntKind.i64.wrap (i1 + 1)) ≥ (l1.length : Int)))
 (Q (vT [vU 0, vI i1, vI 4, vI i1]) h)
 (0 ≤ (IntKind.i64.wrap (i1 + 1)) ∧ ∃ (c5 : UInt8), (l1)[(IntKind.i64.wrap (i1 + 1)).toNat]? = some c5 ∧
 br ((c5.toNat : Int) == 110)
 (Q (vT [vU 10, vI (IntKind.i64.wrap (i1 + 2)), vI 0, vI 0]) h)
 (br ((c5.toNat : Int) == 116)
 (Q (vT [vU 9, vI (IntKind.i64.wrap (i1 + 2)), vI 0, vI 0]) h)
 (br ((c5.toNat : Int) == 48)
 (Q (vT [vU 0, vI (IntKind.i64.wrap (i1 + 2)), vI 0, vI 0]) h)
 (br ((c5.toNat : Int) == 92)
 (0 ≤ (IntKind.i64.wrap (i1 + 1)) ∧ ∃ (c6 : UInt8), (l1)[(IntKind.i64.wrap (i1 + 1)).toNat]? = some c6 ∧
 Q (vT [vU (c6.toNat : Int), vI (IntKind.i64.wrap (i1 + 2)), vI 0, vI 0]) h)
 (br ((c5.toNat : Int) == 39)
 (0 ≤ (IntKind.i64.wrap (i1 + 1)) ∧ ∃ (c7 : UInt8), (l1)[(IntKind.i64.wrap (i1 + 1)).toNat]? = some c7 ∧
 Q (vT [vU (c7.toNat : Int), vI (IntKind.i64.wrap (i1 + 2)), vI 0, vI 0]) h)
 (br ((c5.toNat : Int) == 34)
 (0 ≤ (IntKind.i64.wrap (i1 + 1)) ∧ ∃ (c8 : UInt8), (l1)[(IntKind.i64.wrap (i1 + 1)).toNat]? = some c8 ∧
 Q (vT [vU (c8.toNat : Int), vI (IntKind.i64.wrap (i1 + 2)), vI 0, vI 0]) h)
 (br ((c5.toNat : Int) == 120)
 (∃ (I_1 : Nat → Int → Int → PHeap → Prop), (∃ (m2 : Nat), I_1 m2 (0 : Int) (IntKind.i64.wrap (i1 + 2)) h) ∧
 ∀ (m1 : Nat) (i2 : Int) (i3 : Int) (h_1 : PHeap), I_1 m1 i2 i3 h_1 →
 br (decide (i3 < (IntKind.i64.wrap (i1 + 4))))
 (br (decide (i3 ≥ (l1.length : Int)))
 (Q (vT [vU 0, vI i1, vI 4, vI i1]) h_1)
 (0 ≤ i3 ∧ ∃ (c9 : UInt8), (l1)[(i3).toNat]? = some c9 ∧
 Tri Tryz.prog 154 [vU (c9.toNat : Int)] h_1 fun v_1 h_2 =>
 ∃ (i4 : Int), v_1 = vI i4 ∧
 br (decide (i4 < 0))
 (Q (vT [vU 0, vI i1, vI 6, vI i3]) h_2)
 (0 ≤ i3 ∧ ∃ (c10 : UInt8), (l1)[(i3).toNat]? = some c10 ∧
 Tri Tryz.prog 154 [vU (c10.toNat : Int)] h_2 fun v_2 h_3 =>
 ∃ (i5 : Int), v_2 = vI i5 ∧
 ∃ (m3 : Nat), m3 < m1 ∧ I_1 m3 (IntKind.i64.wrap ((IntKind.i64.wrap (16 * i2)) + i5)) (IntKind.i64.wrap (i3 + 1)) h_3 ∧
 True)))
 (Q (vT [vU (IntKind.u8.wrap (i2)), vI (IntKind.i64.wrap (i1 + 4)), vI 0, vI 0]) h_1))
 (Q (vT [vU 0, vI i1, vI 6, vI (IntKind.i64.wrap (i1 + 1))]) h))))))))))))
theorem T155 {l1 : Bs} {i1 : Int} {h : PHeap} {Q : Value → PHeap → Prop} (hR : R155 l1 i1 h Q) : Tri Tryz.prog 155 [vS l1, vI i1] h Q :=
 tri_of_dn mixed Tryz.func155 rfl (by kernel_rfl) low155 (rs := [.tmp 4, .tmp 5, .tmp 6, .tmp 7]) (by kernel_rfl) rfl (Eq.mpr (by kernel_rfl : dnF Tryz.prog Tryz.f155.ntmps d155 [.tmp 4, .tmp 5, .tmp 6, .tmp 7] [vS l1, vI i1] h Q = R155 l1 i1 h Q) hR)
end Go.Proofs.D
namespace Go.Proofs.D
open Go Go.Den Go.Sx
set_option maxRecDepth 100000
attribute [local irreducible] IntKind.wrap Tri marks words oneS
theorem vB_of {a b : Bool} {h : PHeap} (e : a = b) : vB a = vB b ∧ h = h := ⟨by rw [e], rfl⟩
theorem letter_r (c : UInt8) (h : PHeap) : Tri Tryz.prog 113 [vU (c.toNat : Int)] h fun v h' => v = vB (isLetter c) ∧ h' = h := by
 refine T113 ?_
 unfold R113
 refine br_split (fun e1 => br_split (fun e2 => vB_of ?_) (fun e2 => br_split (fun e3 => br_split (fun e4 => vB_of ?_) (fun e4 => vB_of ?_)) (fun e3 => vB_of ?_))) (fun e1 => br_split (fun e3 => br_split (fun e4 => vB_of ?_) (fun e4 => vB_of ?_)) (fun e3 => vB_of ?_)) <;>
  (simp only [decide_eq_true_eq, decide_eq_false_iff_not] at *; rw [Bool.eq_iff_iff]; simp [isLetter]; omega)
theorem digit_r (c : UInt8) (h : PHeap) : Tri Tryz.prog 117 [vU (c.toNat : Int)] h fun v h' => v = vB (isDigit c) ∧ h' = h := by
 refine T117 ?_
 unfold R117
 refine br_split (fun e1 => vB_of ?_) (fun e1 => vB_of ?_) <;>
  (simp only [decide_eq_true_eq, decide_eq_false_iff_not] at *; rw [Bool.eq_iff_iff]; simp [isDigit]; omega)
def hexI (c : UInt8) : Int := if isHex c then (hexV c : Nat) else -1
theorem isDigit_iff {c : UInt8} : isDigit c = true ↔ 48 ≤ c.toNat ∧ c.toNat ≤ 57 := by simp [isDigit]
theorem isHex_iff {c : UInt8} : isHex c = true ↔ (48 ≤ c.toNat ∧ c.toNat ≤ 57) ∨ (97 ≤ c.toNat ∧ c.toNat ≤ 102) := by simp [isHex, isDigit]
theorem hexV_lt {c : UInt8} (h : isHex c = true) : hexV c < 16 := by
 rw [isHex_iff] at h
 unfold hexV
 split
 · rename_i hd; rw [isDigit_iff] at hd; omega
 · rename_i hd; rw [isDigit_iff] at hd; omega
theorem hex_r (c : UInt8) (h : PHeap) : Tri Tryz.prog 154 [vU (c.toNat : Int)] h fun v h' => v = vI (hexI c) ∧ h' = h := by
 refine T154 ?_
 unfold R154
 refine Tri.mono (digit_r c h) ?_
 rintro _ h ⟨rfl, rfl⟩
 refine ⟨_, rfl, br_split (fun e1 => ?_) (fun e1 => ?_)⟩
 · have h1 := isDigit_iff.1 e1
   rw [L.wrap8 (by omega) (by omega), wrap64 (by omega) (by omega)]
   refine ⟨?_, rfl⟩
   rw [hexI, if_pos (isHex_iff.2 (.inl h1)), hexV, if_pos e1]
   congr 1; omega
 · have h1 : ¬ (48 ≤ c.toNat ∧ c.toNat ≤ 57) := fun h => by rw [isDigit_iff.2 h] at e1; cases e1
   refine br_split (fun e2 => br_split (fun e3 => ?_) (fun e3 => ?_)) (fun e2 => ?_)
   · simp only [decide_eq_true_eq] at e2 e3
     have h2 : 97 ≤ c.toNat ∧ c.toNat ≤ 102 := by omega
     rw [L.wrap8 (by omega) (by omega), wrap64 (n := (c.toNat : Int) - 97) (by omega) (by omega), wrap64 (by omega) (by omega)]
     refine ⟨?_, rfl⟩
     rw [hexI, if_pos (isHex_iff.2 (.inr h2)), hexV, if_neg (by rw [e1]; decide)]
     congr 1; omega
   · simp only [decide_eq_true_eq, decide_eq_false_iff_not] at e2 e3
     refine ⟨?_, rfl⟩
     rw [hexI, if_neg (by rw [isHex_iff]; omega)]
   · simp only [decide_eq_true_eq, decide_eq_false_iff_not] at e2
     refine ⟨?_, rfl⟩
     rw [hexI, if_neg (by rw [isHex_iff]; omega)]
theorem contains_false {L : List Bytes} {s : Bytes} (hb : ∀ j (hj : j < L.length), (L[j] == s) = false) : L.contains s = false := by
 cases h : L.contains s with
 | false => rfl
 | true =>
   have : s ∈ L := by simpa using h
   obtain ⟨j, hj, e⟩ := List.getElem_of_mem this
   have := hb j hj
   rw [e] at this; simp at this
theorem contains_r {h : PHeap} {a : Option Addr} {L : List Bytes} {c : Nat} (s : Bytes) (hs : StrAt h a L) (hl : L.length ≤ 1000000) : Tri Tryz.prog 115 [vL a L.length c, vS s] h fun v h' => v = vB (L.contains s) ∧ h' = h := by
 refine T115 ?_
 unfold R115
 refine ⟨fun m i h' => h' = h ∧ ∃ n : Nat, i = n ∧ n + m = L.length ∧ ∀ j (hj : j < n) (hj' : j < L.length), (L[j] == s) = false, ⟨L.length, rfl, 0, rfl, by omega, fun j hj => by omega⟩, ?_⟩
 rintro m _ _ ⟨rfl, n, rfl, hnm, hb⟩
 refine br_split (fun e => ?_) (fun e => ?_)
 · have hn : n < L.length := by simpa using e
   obtain ⟨b, o, ha, hc⟩ := hs.get hn
   refine ⟨b, o, ha, ⟨by omega, by omega⟩, _, hc, br_split (fun e2 => ?_) (fun e2 => ?_)⟩
   · have e2 : L[n] = s := by simpa using e2
     have : L.contains s = true := by rw [← e2]; simp
     rw [this]; exact ⟨rfl, rfl⟩
   · refine ⟨m - 1, by omega, ⟨rfl, n + 1, ?_, by omega, fun j hj hj' => ?_⟩, trivial⟩
     · rw [wrap64 (by omega) (by omega)]; rfl
     · by_cases e3 : j = n
       · subst e3; exact e2
       · exact hb j (by omega) hj'
 · have hn : ¬ n < L.length := by simpa using e
   rw [contains_false fun j hj => hb j (by omega) hj]
   exact ⟨rfl, rfl⟩
theorem StrAt_put {h h1 : PHeap} {b : Nat} {L : List Bytes} {t : TypeId} (hh : h1 = h.put b (.cells ⟨L.map fun l => vS l⟩ t)) : StrAt h1 (ad b 0) L :=
 .inr ⟨b, 0, rfl, fun j l hj => by
  rw [cell_of (Put.at hh), Nat.zero_add, List.getElem?_map, hj]; rfl⟩
section
attribute [local semireducible] marks words
theorem words_len : words.length = 8 := rfl
theorem marks_len : marks.length = 29 := rfl
theorem words_r (h : PHeap) : Tri Tryz.prog 116 [] h fun v h' => ∃ b, v = vL (ad b 0) words.length 8 ∧ Ext h h' ∧ StrAt h' (ad b 0) words := by
 refine T116 ?_
 unfold R116
 intro b hb h1 hh1
 exact ⟨b, rfl, Put.ext hh1 hb, StrAt_put (t := 9) hh1⟩
theorem marks_r (h : PHeap) : Tri Tryz.prog 120 [] h fun v h' => ∃ b, v = vL (ad b 0) marks.length 29 ∧ Ext h h' ∧ StrAt h' (ad b 0) marks := by
 refine T120 ?_
 unfold R120
 intro b hb h1 hh1
 exact ⟨b, rfl, Put.ext hh1 hb, StrAt_put (t := 9) hh1⟩
end
theorem get_of_lt {s : Bytes} {n : Nat} (h : n < s.length) : ∃ c r, s.drop n = c :: r ∧ s[n]? = some c ∧ s.drop (n + 1) = r := by
 cases hd : s.drop n with
 | nil => have := congrArg List.length hd; simp at this; omega
 | cons c r => exact ⟨c, r, rfl, drop_head hd, drop_tail hd⟩
theorem alnum_r {s : Bytes} {n : Nat} (h : PHeap) (hn : n ≤ s.length) (hl : s.length ≤ 1000000) : Tri Tryz.prog 114 [vS s, vI n] h fun v h' => v = vI ((n + lead isAl (s.drop n) : Nat) : Int) ∧ h' = h := by
 refine T114 ?_
 unfold R114
 refine ⟨fun m i h' => h' = h ∧ ∃ k : Nat, i = k ∧ k + m = s.length ∧ k + lead isAl (s.drop k) = n + lead isAl (s.drop n), ⟨s.length - n, rfl, n, rfl, by omega, rfl⟩, ?_⟩
 rintro m _ h ⟨rfl, k, rfl, hkm, hk⟩
 refine br_split (fun e => ?_) (fun e => ?_)
 · have hlt : k < s.length := by
    have : (k : Int) < s.length := by simpa using e
    omega
   obtain ⟨c, r, hd, hg, ht⟩ := get_of_lt hlt
   have next : isAl c = true → ∃ m3, m3 < m ∧ (h = h ∧ ∃ k' : Nat, IntKind.i64.wrap ((k : Int) + 1) = k' ∧ k' + m3 = s.length ∧ k' + lead isAl (s.drop k') = n + lead isAl (s.drop n)) ∧ True := fun ha => by
    refine ⟨m - 1, by omega, ⟨rfl, k + 1, ?_, by omega, ?_⟩, trivial⟩
    · rw [wrap64 (by omega) (by omega)]; rfl
    · rw [← hk, ht, hd]; simp only [lead, ha, if_true]; omega
   refine ⟨by omega, c, by simpa using hg, ?_⟩
   refine Tri.mono (letter_r c _) ?_
   rintro _ h1 ⟨rfl, rfl⟩
   refine ⟨_, rfl, br_split (fun e1 => next (by simp [isAl, e1])) (fun e1 => ?_)⟩
   refine ⟨by omega, c, by simpa using hg, ?_⟩
   refine Tri.mono (digit_r c _) ?_
   rintro _ h1 ⟨rfl, rfl⟩
   refine ⟨_, rfl, br_split (fun e2 => next (by simp [isAl, e2])) (fun e2 => ?_)⟩
   have : isAl c = false := by simp [isAl, e1, e2]
   rw [← hk, hd]; simp [lead, this]
 · have : k = s.length := by
    have : ¬ (k : Int) < s.length := by simpa using e
    omega
   rw [← hk, List.drop_eq_nil_of_le (by omega)]; simp [lead]
theorem skip_r {s : Bytes} {n : Nat} (h : PHeap) (hn : n ≤ s.length) (hl : s.length ≤ 1000000) : Tri Tryz.prog 70 [vS s, vI n] h fun v h' => v = vI ((n + skipN false (s.drop n) : Nat) : Int) ∧ h' = h := by
 refine T70 ?_
 unfold R70
 refine ⟨fun m i h' => h' = h ∧ ∃ k : Nat, i = k ∧ k + m = s.length ∧ k + skipN false (s.drop k) = n + skipN false (s.drop n), ⟨s.length - n, rfl, n, rfl, by omega, rfl⟩, ?_⟩
 rintro m _ h ⟨rfl, k, rfl, hkm, hk⟩
 refine br_split (fun e => ?_) (fun e => ?_)
 · have hlt : k < s.length := by
    have : (k : Int) < s.length := by simpa using e
    omega
   obtain ⟨c, r, hd, hg, ht⟩ := get_of_lt hlt
   have hg' : s[((k : Int)).toNat]? = some c := by simpa using hg
   have hw : IntKind.i64.wrap ((k : Int) + 1) = ((k + 1 : Nat) : Int) := by rw [wrap64 (by omega) (by omega)]; rfl
   rw [hw]
   have next : skipN false (c :: r) = skipN false r + 1 → ∃ m3, m3 < m ∧ (h = h ∧ ∃ k' : Nat, ((k + 1 : Nat) : Int) = k' ∧ k' + m3 = s.length ∧ k' + skipN false (s.drop k') = n + skipN false (s.drop n)) ∧ True := fun ha =>
    ⟨m - 1, by omega, ⟨rfl, k + 1, rfl, by omega, by rw [← hk, ht, hd, ha]; omega⟩, trivial⟩
   have stop : skipN false (c :: r) = 0 → vI (k : Int) = vI ((n + skipN false (s.drop n) : Nat) : Int) ∧ h = h := fun h0 => by
    rw [← hk, hd, h0]; exact ⟨rfl, rfl⟩
   refine ⟨by omega, c, hg', br_split (fun e1 => next (skipN_sp _ (.inl (u8_eq e1)))) (fun e1 => ?_)⟩
   refine ⟨by omega, c, hg', br_split (fun e2 => next (skipN_sp _ (.inr (u8_eq e2)))) (fun e2 => ?_)⟩
   refine ⟨by omega, c, hg', br_split (fun e3 => next ?_) (fun e3 => ?_)⟩
   · have : c = 10 := u8_eq e3
     subst this; exact skipN_nl r
   refine ⟨by omega, c, hg', br_split (fun e4 => ?_) (fun e4 => ?_)⟩
   · have h47 : c = 47 := u8_eq e4
     refine br_split (fun e5 => ?_) (fun e5 => ?_)
     · have hlt2 : k + 1 < s.length := by
        have : ((k + 1 : Nat) : Int) < s.length := by simpa using e5
        omega
       obtain ⟨c2, r2, hd2, hg2, ht2⟩ := get_of_lt hlt2
       rw [ht] at hd2
       refine ⟨by omega, c2, by simpa using hg2, br_split (fun e6 => ?_) (fun e6 => ?_)⟩
       · have h47' : c2 = 47 := u8_eq e6
         have hcom : skipN false (c :: r) = lead (fun c => !(c == 10)) (c :: r) + skipN false ((c :: r).drop (lead (fun c => !(c == 10)) (c :: r))) := by
          rw [h47, hd2, h47']; exact skipN_com r2
         have hl2 : 1 ≤ lead (fun c => !(c == 10)) (c :: r) := by rw [h47]; show 1 ≤ lead _ r + 1; omega
         have hle := L.lead_le (fun c => !(c == 10)) (c :: r)
         have hrl : (c :: r).length + k = s.length := by rw [← hd, List.length_drop]; omega
         have fin : ∀ {j : Nat}, j = k + lead (fun c => !(c == 10)) (c :: r) → ∃ m3, m3 < m ∧ (h = h ∧ ∃ k' : Nat, (j : Int) = k' ∧ k' + m3 = s.length ∧ k' + skipN false (s.drop k') = n + skipN false (s.drop n)) ∧ True := by
          rintro j rfl
          refine ⟨m - lead (fun c => !(c == 10)) (c :: r), by omega, ⟨rfl, _, rfl, by omega, ?_⟩, trivial⟩
          rw [← hk, ← List.drop_drop, hd, hcom]; omega
         refine ⟨fun m' i' h' => h' = h ∧ ∃ j : Nat, i' = j ∧ j + m' = s.length ∧ k ≤ j ∧ j + lead (fun c => !(c == 10)) (s.drop j) = k + lead (fun c => !(c == 10)) (c :: r), ⟨s.length - k, rfl, k, rfl, by omega, Nat.le_refl _, by rw [hd]⟩, ?_⟩
         rintro m' _ h ⟨rfl, j, rfl, hjm, hkj, hj⟩
         refine br_split (fun e7 => ?_) (fun e7 => ?_)
         · have hltj : j < s.length := by
            have : (j : Int) < s.length := by simpa using e7
            omega
           obtain ⟨c3, r3, hd3, hg3, ht3⟩ := get_of_lt hltj
           refine ⟨by omega, c3, by simpa using hg3, br_split (fun e8 => ?_) (fun e8 => ?_)⟩
           · have h10 : (c3 == 10) = false := by
              have : ¬ c3 = 10 := fun e => by subst e; simp at e8
              simpa using this
             refine ⟨m' - 1, by omega, ⟨rfl, j + 1, ?_, by omega, by omega, ?_⟩, trivial⟩
             · rw [wrap64 (by omega) (by omega)]; rfl
             · rw [← hj, ht3, hd3]; simp only [lead, h10, Bool.not_false, if_true]; omega
           · have h10 : c3 = 10 := by
              have e8 : ((c3.toNat : Int) == ((10 : UInt8).toNat : Int)) = true := by
               cases hh : ((c3.toNat : Int) == ((10 : UInt8).toNat : Int)) with
               | true => rfl
               | false =>
                 have : ((c3.toNat : Int) != 10) = true := by
                  show (!((c3.toNat : Int) == ((10 : UInt8).toNat : Int))) = true
                  rw [hh]; rfl
                 rw [this] at e8; cases e8
              exact u8_eq e8
             refine fin ?_
             rw [← hj, hd3, h10]; simp [lead]
         · have : j = s.length := by
            have : ¬ (j : Int) < s.length := by simpa using e7
            omega
           refine fin ?_
           rw [← hj, List.drop_eq_nil_of_le (by omega)]; simp [lead]
       · refine stop (skipN_no (u8_ne e3) (u8_ne e1) (u8_ne e2) ?_)
         rw [h47, hd2]
         have : c2 ≠ 47 := u8_ne e6
         simp [List.isPrefixOf, this.symm]
     · have : k + 1 = s.length := by
        have : ¬ ((k + 1 : Nat) : Int) < s.length := by simpa using e5
        omega
       have hr : r = [] := by rw [← ht]; exact List.drop_eq_nil_of_le (by omega)
       refine stop (skipN_no (u8_ne e3) (u8_ne e1) (u8_ne e2) ?_)
       rw [hr]; simp [List.isPrefixOf]
   · refine stop (skipN_no (u8_ne e3) (u8_ne e1) (u8_ne e2) ?_)
     have : c ≠ 47 := u8_ne e4
     simp [List.isPrefixOf, this.symm]
 · have : k = s.length := by
    have : ¬ (k : Int) < s.length := by simpa using e
    omega
   rw [← hk, List.drop_eq_nil_of_le (by omega)]; simp [skipN]
end Go.Proofs.D
namespace Go.Proofs.D
open Go Go.Den Go.Sx
set_option maxRecDepth 100000
attribute [local irreducible] IntKind.wrap Tri marks words oneS
def numD (w : Bytes) : Except Nat Nat := if !w.all isDigit || (1 < w.length && w.head? == some 48) then .error 3 else if 4294967295 < decNum w then .error 2 else .ok (decNum w)
def decL (w : Bytes) (h : PHeap) (Q : Value → PHeap → Prop) : Prop :=
 ∃ (I_3 : Nat → Int → Bool → Int → PHeap → Prop), (∃ (m15 : Nat), I_3 m15 (0 : Int) false (0 : Int) h) ∧
   ∀ (m14 : Nat) (i7 : Int) (c9 : Bool) (i8 : Int) (h_6 : PHeap), I_3 m14 i7 c9 i8 h_6 →
   br (decide (i8 < (w.length : Int)))
   (0 ≤ i8 ∧ ∃ (c10 : UInt8), (w)[(i8).toNat]? = some c10 ∧
    Tri Tryz.prog 117 [vU (c10.toNat : Int)] h_6 fun v_4 h_7 =>
    ∃ (c11 : Bool), v_4 = vB c11 ∧
    br (!c11)
    (Q (vT [vI 0, vI 3]) h_7)
    (br (i8 == 1)
     (0 ≤ (0 : Int) ∧ ∃ (c12 : UInt8), (w)[0]? = some c12 ∧
      br ((c12.toNat : Int) == 48)
      (Q (vT [vI 0, vI 3]) h_7)
      (br (!c9)
       (0 ≤ i8 ∧ ∃ (c13 : UInt8), (w)[(i8).toNat]? = some c13 ∧
        br c9
        (∃ (m16 : Nat), m16 < m14 ∧ I_3 m16 (IntKind.i64.wrap ((IntKind.i64.wrap (10 * i7)) + (IntKind.i64.wrap ((IntKind.u8.wrap ((c13.toNat : Int) - 48)))))) true (IntKind.i64.wrap (i8 + 1)) h_7 ∧
         True)
        (∃ (m17 : Nat), m17 < m14 ∧ I_3 m17 (IntKind.i64.wrap ((IntKind.i64.wrap (10 * i7)) + (IntKind.i64.wrap ((IntKind.u8.wrap ((c13.toNat : Int) - 48)))))) (decide ((IntKind.i64.wrap ((IntKind.i64.wrap (10 * i7)) + (IntKind.i64.wrap ((IntKind.u8.wrap ((c13.toNat : Int) - 48)))))) > 4294967295)) (IntKind.i64.wrap (i8 + 1)) h_7 ∧
         True))
       (br c9
        (∃ (m18 : Nat), m18 < m14 ∧ I_3 m18 i7 true (IntKind.i64.wrap (i8 + 1)) h_7 ∧
         True)
        (∃ (m19 : Nat), m19 < m14 ∧ I_3 m19 i7 (decide (i7 > 4294967295)) (IntKind.i64.wrap (i8 + 1)) h_7 ∧
         True))))
     (br (!c9)
      (0 ≤ i8 ∧ ∃ (c14 : UInt8), (w)[(i8).toNat]? = some c14 ∧
       br c9
       (∃ (m20 : Nat), m20 < m14 ∧ I_3 m20 (IntKind.i64.wrap ((IntKind.i64.wrap (10 * i7)) + (IntKind.i64.wrap ((IntKind.u8.wrap ((c14.toNat : Int) - 48)))))) true (IntKind.i64.wrap (i8 + 1)) h_7 ∧
        True)
       (∃ (m21 : Nat), m21 < m14 ∧ I_3 m21 (IntKind.i64.wrap ((IntKind.i64.wrap (10 * i7)) + (IntKind.i64.wrap ((IntKind.u8.wrap ((c14.toNat : Int) - 48)))))) (decide ((IntKind.i64.wrap ((IntKind.i64.wrap (10 * i7)) + (IntKind.i64.wrap ((IntKind.u8.wrap ((c14.toNat : Int) - 48)))))) > 4294967295)) (IntKind.i64.wrap (i8 + 1)) h_7 ∧
        True))
      (br c9
       (∃ (m22 : Nat), m22 < m14 ∧ I_3 m22 i7 true (IntKind.i64.wrap (i8 + 1)) h_7 ∧
        True)
       (∃ (m23 : Nat), m23 < m14 ∧ I_3 m23 i7 (decide (i7 > 4294967295)) (IntKind.i64.wrap (i8 + 1)) h_7 ∧
        True)))))
   (br c9
    (Q (vT [vI 0, vI 2]) h_6)
    (Q (vT [vI i7, vI 0]) h_6))
theorem decL_ok (w : Bytes) (h : PHeap) (hl : w.length ≤ 1000000) : decL w h fun v h' => v = L.numV (numD w) ∧ h' = h := by
 unfold decL
 refine ⟨fun m n ov i h' => h' = h ∧ ∃ k : Nat, i = k ∧ k + m = w.length ∧ (∀ j (hj : j < w.length), j < k → isDigit w[j] = true) ∧ (2 ≤ k → w.head? ≠ some 48) ∧ ((ov = false ∧ n = (decNum (w.take k) : Nat) ∧ decNum (w.take k) ≤ 4294967295) ∨ (ov = true ∧ 4294967295 < decNum (w.take k))),
  ⟨w.length, rfl, 0, rfl, by omega, fun j hj h0 => by omega, fun h0 => by omega, .inl ⟨rfl, by simp [decNum], by simp [decNum]⟩⟩, ?_⟩
 rintro m n ov _ h ⟨rfl, k, rfl, hkm, hdig, hz, hst⟩
 refine br_split (fun e => ?_) (fun e => ?_)
 · have hlt : k < w.length := by
    have : (k : Int) < w.length := by simpa using e
    omega
   have hg : w[((k : Int)).toNat]? = some w[k] := by simp [hlt]
   refine ⟨by omega, w[k], hg, ?_⟩
   refine Tri.mono (digit_r w[k] h) ?_
   rintro _ h ⟨rfl, rfl⟩
   refine ⟨_, rfl, br_split (fun e1 => ?_) (fun e1 => ?_)⟩
   · have e1 : isDigit w[k] = false := by simpa using e1
     refine ⟨?_, rfl⟩
     have : w.all isDigit = false := by
      cases hh : w.all isDigit with
      | false => rfl
      | true =>
        rw [List.all_eq_true] at hh
        have := hh w[k] (List.getElem_mem hlt)
        rw [e1] at this; cases this
     simp [numD, this, L.numV, L.n0, L.n1]
   · have e1 : isDigit w[k] = true := by simpa using e1
     have hd := isDigit_iff.1 e1
     have hw : IntKind.i64.wrap ((k : Int) + 1) = ((k + 1 : Nat) : Int) := by rw [wrap64 (by omega) (by omega)]; rfl
     rw [hw]
     have hdig' : ∀ j (hj : j < w.length), j < k + 1 → isDigit w[j] = true := fun j hj hjk => by
      by_cases hh : j = k
      · subst hh; exact e1
      · exact hdig j hj (by omega)
     have hsn : decNum (w.take (k + 1)) = 10 * decNum (w.take k) + (w[k].toNat - 48) := by
      rw [List.take_succ_eq_append_getElem hlt, L.decNum_snoc]
     have step : (2 ≤ k + 1 → w.head? ≠ some 48) →
      (br (!ov)
       (0 ≤ (k : Int) ∧ ∃ (c14 : UInt8), (w)[((k : Int)).toNat]? = some c14 ∧
        br ov
        (∃ (m20 : Nat), m20 < m ∧ (h = h ∧ ∃ k' : Nat, ((k + 1 : Nat) : Int) = k' ∧ k' + m20 = w.length ∧ (∀ j (hj : j < w.length), j < k' → isDigit w[j] = true) ∧ (2 ≤ k' → w.head? ≠ some 48) ∧ (((true : Bool) = false ∧ (IntKind.i64.wrap ((IntKind.i64.wrap (10 * n)) + (IntKind.i64.wrap ((IntKind.u8.wrap ((c14.toNat : Int) - 48)))))) = (decNum (w.take k') : Nat) ∧ decNum (w.take k') ≤ 4294967295) ∨ ((true : Bool) = true ∧ 4294967295 < decNum (w.take k')))) ∧
         True)
        (∃ (m21 : Nat), m21 < m ∧ (h = h ∧ ∃ k' : Nat, ((k + 1 : Nat) : Int) = k' ∧ k' + m21 = w.length ∧ (∀ j (hj : j < w.length), j < k' → isDigit w[j] = true) ∧ (2 ≤ k' → w.head? ≠ some 48) ∧ (((decide ((IntKind.i64.wrap ((IntKind.i64.wrap (10 * n)) + (IntKind.i64.wrap ((IntKind.u8.wrap ((c14.toNat : Int) - 48)))))) > 4294967295)) = false ∧ (IntKind.i64.wrap ((IntKind.i64.wrap (10 * n)) + (IntKind.i64.wrap ((IntKind.u8.wrap ((c14.toNat : Int) - 48)))))) = (decNum (w.take k') : Nat) ∧ decNum (w.take k') ≤ 4294967295) ∨ ((decide ((IntKind.i64.wrap ((IntKind.i64.wrap (10 * n)) + (IntKind.i64.wrap ((IntKind.u8.wrap ((c14.toNat : Int) - 48)))))) > 4294967295)) = true ∧ 4294967295 < decNum (w.take k')))) ∧
         True))
       (br ov
        (∃ (m22 : Nat), m22 < m ∧ (h = h ∧ ∃ k' : Nat, ((k + 1 : Nat) : Int) = k' ∧ k' + m22 = w.length ∧ (∀ j (hj : j < w.length), j < k' → isDigit w[j] = true) ∧ (2 ≤ k' → w.head? ≠ some 48) ∧ (((true : Bool) = false ∧ n = (decNum (w.take k') : Nat) ∧ decNum (w.take k') ≤ 4294967295) ∨ ((true : Bool) = true ∧ 4294967295 < decNum (w.take k')))) ∧
         True)
        (∃ (m23 : Nat), m23 < m ∧ (h = h ∧ ∃ k' : Nat, ((k + 1 : Nat) : Int) = k' ∧ k' + m23 = w.length ∧ (∀ j (hj : j < w.length), j < k' → isDigit w[j] = true) ∧ (2 ≤ k' → w.head? ≠ some 48) ∧ (((decide (n > 4294967295)) = false ∧ n = (decNum (w.take k') : Nat) ∧ decNum (w.take k') ≤ 4294967295) ∨ ((decide (n > 4294967295)) = true ∧ 4294967295 < decNum (w.take k')))) ∧
         True))) := fun hz' => by
      rcases hst with ⟨rfl, hn, hle⟩ | ⟨rfl, hgt⟩
      · refine br_pos rfl ⟨by omega, w[k], hg, br_neg rfl ?_⟩
        have hv : IntKind.i64.wrap ((IntKind.i64.wrap (10 * n)) + (IntKind.i64.wrap ((IntKind.u8.wrap ((w[k].toNat : Int) - 48))))) = (decNum (w.take (k + 1)) : Nat) := by
         subst hn
         rw [L.wrap8 (by omega) (by omega), wrap64 (n := (w[k].toNat : Int) - 48) (by omega) (by omega), wrap64 (n := 10 * ((decNum (w.take k) : Nat) : Int)) (by omega) (by omega), wrap64 (by omega) (by omega), hsn]
         omega
        rw [hv]
        refine ⟨m - 1, by omega, ⟨rfl, k + 1, rfl, by omega, hdig', hz', ?_⟩, trivial⟩
        by_cases hc : 4294967295 < decNum (w.take (k + 1))
        · exact .inr ⟨decide_eq_true (by omega), hc⟩
        · exact .inl ⟨decide_eq_false (by omega), rfl, by omega⟩
      · refine br_neg rfl (br_pos rfl ⟨m - 1, by omega, ⟨rfl, k + 1, rfl, by omega, hdig', hz', .inr ⟨rfl, by omega⟩⟩, trivial⟩)
     refine br_split (fun e2 => ?_) (fun e2 => ?_)
     · have hk1 : k = 1 := by
        have : (k : Int) = 1 := by simpa using e2
        omega
       have h0 : 0 < w.length := by omega
       refine ⟨Int.le_refl _, w[0], by simp [h0], br_split (fun e3 => ?_) (fun e3 => ?_)⟩
       · have : w[0] = 48 := u8_eq e3
         have hh : w.head? = some 48 := by rw [List.head?_eq_getElem?, List.getElem?_eq_getElem h0, this]
         refine ⟨?_, rfl⟩
         have h1l : 1 < w.length := by omega
         simp [numD, hh, h1l, L.numV, L.n0, L.n1]
       · have : w[0] ≠ 48 := u8_ne e3
         refine step fun _ hh => this ?_
         rw [List.head?_eq_getElem?, List.getElem?_eq_getElem h0] at hh
         injection hh
     · have hk1 : k ≠ 1 := by
        have : ¬ (k : Int) = 1 := by simpa using e2
        omega
       exact step fun h2 => hz (by omega)
 · have hk : k = w.length := by
    have : ¬ (k : Int) < w.length := by simpa using e
    omega
   have hall : w.all isDigit = true := by
    rw [List.all_eq_true]
    intro x hx
    obtain ⟨j, hj, rfl⟩ := List.getElem_of_mem hx
    exact hdig j hj (by omega)
   have hc : (!w.all isDigit || (1 < w.length && w.head? == some 48)) = false := by
    rw [hall]
    by_cases h1 : 1 < w.length
    · have := hz (by omega)
      have : (w.head? == some 48) = false := by simpa using this
      simp [this]
    · simp [h1]
   rw [hk, List.take_length] at hst
   have hnd : numD w = if 4294967295 < decNum w then .error 2 else .ok (decNum w) := by simp only [numD, hc]; rfl
   rcases hst with ⟨rfl, rfl, hle⟩ | ⟨rfl, hgt⟩
   · refine br_neg rfl ⟨?_, rfl⟩
     rw [hnd, if_neg (by omega)]; rfl
   · refine br_pos rfl ⟨?_, rfl⟩
     rw [hnd, if_pos hgt]; rfl
theorem number_r (w : Bytes) (h : PHeap) (hl : w.length ≤ 1000000) : Tri Tryz.prog 118 [vS w] h fun v h' => v = L.numV (numS w) ∧ h' = h := by
 refine T118 ?_
 unfold R118
 refine br_split (fun e => ?_) (fun e => ?_)
 · have h2 : 2 < w.length := by
    have : (w.length : Int) > 2 := by simpa using e
    omega
   refine ⟨⟨by omega, by omega, by omega⟩, br_split (fun e1 => ?_) (fun e1 => ?_)⟩
   · have e1 : w.take 2 = [48, 120] := by simpa using e1
     obtain ⟨l, rfl⟩ : ∃ l, w = 48 :: 120 :: l := by
      match w, h2, e1 with
      | a :: b :: l, _, e1 => simp at e1; exact ⟨l, by rw [e1.1, e1.2]⟩
     have hll : 1 ≤ l.length := by simp at h2; omega
     have hnum : numS (48 :: 120 :: l) = if l.length = 0 || 8 < l.length || !l.all isHex then .error 3 else .ok (hexNum l) := rfl
     simp only [List.length_cons] at hl ⊢
     refine ⟨fun m n i h' => h' = h ∧ ∃ k : Nat, i = (k + 2 : Nat) ∧ k + m = l.length ∧ k ≤ 8 ∧ (∀ j (hj : j < l.length), j < k → isHex l[j] = true) ∧ n = (hexNum (l.take k) : Nat), ⟨l.length, rfl, 0, rfl, by omega, by omega, fun j hj h0 => by omega, by simp [hexNum]⟩, ?_⟩
     rintro m _ _ h ⟨rfl, k, rfl, hkm, hk8, hhex, rfl⟩
     have htk : (l.take k).all isHex = true := by
      rw [List.all_eq_true]
      intro x hx
      obtain ⟨j, hj, rfl⟩ := List.getElem_of_mem hx
      rw [List.getElem_take]
      rw [List.length_take] at hj
      exact hhex j (by omega) (by omega)
     have hb : hexNum (l.take k) < 4294967296 := by
      have := L.hexNum_lt (l.take k).length (l.take k) rfl htk
      have h16 : 16 ^ (l.take k).length ≤ 16 ^ 8 := Nat.pow_le_pow_right (by decide) (by rw [List.length_take]; omega)
      have : (16 : Nat) ^ 8 = 4294967296 := by decide
      omega
     refine br_split (fun e2 => ?_) (fun e2 => ?_)
     · have hlt : k < l.length := by
        have := of_decide_eq_true e2
        omega
       have hg : (48 :: 120 :: l)[(((k + 2 : Nat) : Int)).toNat]? = some l[k] := by
        rw [Int.toNat_natCast]; simp [hlt]
       refine ⟨by omega, l[k], hg, ?_⟩
       refine Tri.mono (hex_r l[k] h) ?_
       rintro _ h ⟨rfl, rfl⟩
       refine ⟨_, rfl, br_split (fun e3 => ?_) (fun e3 => ?_)⟩
       · have hx : isHex l[k] = false := by
          cases hh : isHex l[k] with
          | false => rfl
          | true =>
            have := of_decide_eq_true e3
            rw [hexI, if_pos hh] at this; omega
         have : l.all isHex = false := by
          cases hh : l.all isHex with
          | false => rfl
          | true =>
            rw [List.all_eq_true] at hh
            have := hh l[k] (List.getElem_mem hlt)
            rw [hx] at this; cases this
         refine ⟨?_, rfl⟩
         rw [hnum]; simp [this, L.numV, L.n0, L.n1]
       · have hx : isHex l[k] = true := by
          cases hh : isHex l[k] with
          | true => rfl
          | false =>
            have := of_decide_eq_false e3
            rw [hexI, if_neg (by rw [hh]; decide)] at this; omega
         have hx16 := hexV_lt hx
         refine br_split (fun e4 => ?_) (fun e4 => ?_)
         · have : 8 ≤ k := by
            have := of_decide_eq_true e4
            omega
           have : 8 < l.length := by omega
           refine ⟨?_, rfl⟩
           rw [hnum]; simp [this, L.numV, L.n0, L.n1]
         · have hk7 : k < 8 := by
            have := of_decide_eq_false e4
            omega
           refine ⟨by omega, l[k], hg, ?_⟩
           refine Tri.mono (hex_r l[k] h) ?_
           rintro _ h ⟨rfl, rfl⟩
           refine ⟨_, rfl, m - 1, by omega, ⟨rfl, k + 1, ?_, by omega, by omega, fun j hj hjk => ?_, ?_⟩, trivial⟩
           · rw [wrap64 (by omega) (by omega)]; omega
           · by_cases hh : j = k
             · subst hh; exact hx
             · exact hhex j hj (by omega)
           · rw [hexI, if_pos hx, wrap64 (n := 16 * ((hexNum (l.take k) : Nat) : Int)) (by omega) (by omega), wrap64 (by omega) (by omega), List.take_succ_eq_append_getElem hlt, L.hexNum_snoc]
             omega
     · have hk : k = l.length := by
        have := of_decide_eq_false e2
        omega
       have hall : l.all isHex = true := by rw [hk, List.take_length] at htk; exact htk
       refine ⟨?_, rfl⟩
       have h0 : ¬ l.length = 0 := by omega
       have h8 : ¬ 8 < l.length := by omega
       rw [hk, List.take_length, hnum]; simp [hall, h0, h8, L.numV, L.n0, L.n1]
   · have hp : ¬ (([48, 120] : Bytes).isPrefixOf w) = true := fun hp => by
      match w, h2, e1, hp with
      | a :: b :: l, _, e1, hp =>
        simp [List.isPrefixOf] at hp
        simp [← hp.1, ← hp.2] at e1
     have : numS w = numD w := L.numS_dec hp
     rw [this]
     exact decL_ok w h hl
 · have h2 : w.length ≤ 2 := by
    have : ¬ (w.length : Int) > 2 := by simpa using e
    omega
   have : numS w = numD w := by
    by_cases hp : (([48, 120] : Bytes).isPrefixOf w) = true
    · match w, h2, hp with
      | [a, b], _, hp =>
        simp [List.isPrefixOf] at hp
        rw [← hp.1, ← hp.2]; rfl
      | [a], _, hp => simp [List.isPrefixOf] at hp
      | [], _, hp => simp [List.isPrefixOf] at hp
    · exact L.numS_dec hp
   rw [this]
   exact decL_ok w h hl
def chV (n : Nat) : Except (Nat × Nat) (UInt8 × Nat) → Value
 | .ok (b, k) => vT [vU (b.toNat : Int), vI ((n + k : Nat) : Int), vI 0, vI 0]
 | .error (e, k) => vT [vU 0, vI n, vI e, vI ((n + k : Nat) : Int)]
theorem u8_byte (a b : UInt8) (ha : isHex a = true) (hb : isHex b = true) : IntKind.u8.wrap ((16 * hexV a + hexV b : Nat) : Int) = ((UInt8.ofNat (16 * hexV a + hexV b)).toNat : Int) := by
 have := hexV_lt ha
 have := hexV_lt hb
 rw [L.wrap8 (by omega) (by omega)]
 have : (UInt8.ofNat (16 * hexV a + hexV b)).toNat = 16 * hexV a + hexV b := by
  rw [UInt8.toNat_ofNat']; exact Nat.mod_eq_of_lt (by omega)
 rw [this]
theorem char_r {s : Bytes} {n : Nat} (h : PHeap) (hn : n ≤ s.length) (hl : s.length ≤ 1000000) : Tri Tryz.prog 155 [vS s, vI n] h fun v h' => v = chV n (charS (s.drop n)) ∧ h' = h := by
 refine T155 ?_
 unfold R155
 have w1 : IntKind.i64.wrap ((n : Int) + 1) = ((n + 1 : Nat) : Int) := by rw [wrap64 (by omega) (by omega)]; rfl
 have w2 : IntKind.i64.wrap ((n : Int) + 2) = ((n + 2 : Nat) : Int) := by rw [wrap64 (by omega) (by omega)]; rfl
 have w4 : IntKind.i64.wrap ((n : Int) + 4) = ((n + 4 : Nat) : Int) := by rw [wrap64 (by omega) (by omega)]; rfl
 rw [w1, w2, w4]
 refine br_split (fun e => ?_) (fun e => ?_)
 · have : s.length ≤ n := by
    have := of_decide_eq_true e
    omega
   rw [List.drop_eq_nil_of_le this]; exact ⟨rfl, rfl⟩
 have hlt : n < s.length := by
  have := of_decide_eq_false e
  omega
 obtain ⟨c, r, hd, hg, ht⟩ := get_of_lt hlt
 have hg' : s[((n : Int)).toNat]? = some c := by simpa using hg
 rw [hd]
 refine ⟨by omega, c, hg', br_split (fun e1 => ?_) (fun e1 => ?_)⟩
 · have h32 : c.toNat < 32 := by
    have := of_decide_eq_true e1
    omega
   have hc : c ≠ 92 := fun e => by subst e; exact absurd h32 (by decide)
   refine ⟨?_, rfl⟩
   rw [L.charS_plain hc, if_pos (by simp [h32])]; rfl
 have h32 : ¬ c.toNat < 32 := by
  have := of_decide_eq_false e1
  omega
 refine ⟨by omega, c, hg', br_split (fun e2 => ?_) (fun e2 => ?_)⟩
 · have h126 : 126 < c.toNat := by
    have := of_decide_eq_true e2
    omega
   have hc : c ≠ 92 := fun e => by subst e; exact absurd h126 (by decide)
   refine ⟨?_, rfl⟩
   rw [L.charS_plain hc, if_pos (by simp [h126])]; rfl
 have h126 : ¬ 126 < c.toNat := by
  have := of_decide_eq_false e2
  omega
 refine ⟨by omega, c, hg', br_split (fun e3 => ?_) (fun e3 => ?_)⟩
 · have hc : c ≠ 92 := fun e => by subst e; simp at e3
   refine ⟨by omega, c, hg', ?_, rfl⟩
   rw [L.charS_plain hc, if_neg (by simp [h32, h126])]; rfl
 have hc : c = 92 := by
  have : (c.toNat : Int) = 92 := by simpa using e3
  exact UInt8.toNat_inj.1 (by show c.toNat = 92; omega)
 subst hc
 refine br_split (fun e4 => ?_) (fun e4 => ?_)
 · have hr : r = [] := by
    have := of_decide_eq_true e4
    rw [← ht]; exact List.drop_eq_nil_of_le (by omega)
   rw [hr]; exact ⟨rfl, rfl⟩
 have hlt1 : n + 1 < s.length := by
  have := of_decide_eq_false e4
  omega
 obtain ⟨d, r2, hd2, hg2, ht2⟩ := get_of_lt hlt1
 rw [ht] at hd2
 have hg2' : s[(((n + 1 : Nat) : Int)).toNat]? = some d := by simpa using hg2
 rw [hd2]
 have esc : ∀ (x b : UInt8), d = x → x ≠ 120 → escS x = some b → chV n (charS (92 :: d :: r2)) = vT [vU (b.toNat : Int), vI ((n + 2 : Nat) : Int), vI 0, vI 0] := by
  rintro x b rfl h1 h2
  rw [L.charS_esc h1, h2]; rfl
 refine ⟨by omega, d, hg2', br_split (fun e5 => ?_) (fun e5 => ?_)⟩
 · exact ⟨(esc 110 10 (u8_eq e5) (by decide) rfl).symm, rfl⟩
 refine br_split (fun e6 => ?_) (fun e6 => ?_)
 · exact ⟨(esc 116 9 (u8_eq e6) (by decide) rfl).symm, rfl⟩
 refine br_split (fun e7 => ?_) (fun e7 => ?_)
 · exact ⟨(esc 48 0 (u8_eq e7) (by decide) rfl).symm, rfl⟩
 refine br_split (fun e8 => ?_) (fun e8 => ?_)
 · refine ⟨by omega, d, hg2', ?_, rfl⟩
   rw [esc 92 92 (u8_eq e8) (by decide) rfl, (u8_eq e8 : d = 92)]
 refine br_split (fun e9 => ?_) (fun e9 => ?_)
 · refine ⟨by omega, d, hg2', ?_, rfl⟩
   rw [esc 39 39 (u8_eq e9) (by decide) rfl, (u8_eq e9 : d = 39)]
 refine br_split (fun e10 => ?_) (fun e10 => ?_)
 · refine ⟨by omega, d, hg2', ?_, rfl⟩
   rw [esc 34 34 (u8_eq e10) (by decide) rfl, (u8_eq e10 : d = 34)]
 refine br_split (fun e11 => ?_) (fun e11 => ?_)
 · have hd120 : d = 120 := u8_eq e11
   subst hd120
   refine ⟨fun m i1 i2 h' => h' = h ∧ ((m = 2 ∧ i1 = 0 ∧ i2 = ((n + 2 : Nat) : Int)) ∨ (m = 1 ∧ ∃ a r3, r2 = a :: r3 ∧ isHex a = true ∧ i1 = (hexV a : Nat) ∧ i2 = ((n + 3 : Nat) : Int)) ∨ (m = 0 ∧ ∃ a b r4, r2 = a :: b :: r4 ∧ isHex a = true ∧ isHex b = true ∧ i1 = (16 * hexV a + hexV b : Nat) ∧ i2 = ((n + 4 : Nat) : Int))),
    ⟨2, rfl, .inl ⟨rfl, rfl, rfl⟩⟩, ?_⟩
   rintro m i1 i2 h ⟨rfl, hst⟩
   rcases hst with ⟨rfl, rfl, rfl⟩ | ⟨rfl, a, r3, rfl, ha, rfl, rfl⟩ | ⟨rfl, a, b, r4, rfl, ha, hb, rfl, rfl⟩
   · refine br_pos (decide_eq_true (by omega)) (br_split (fun f1 => ?_) (fun f1 => ?_))
     · have : s.length ≤ n + 2 := by
        have := of_decide_eq_true f1
        omega
       have : r2 = [] := by rw [← ht2]; exact List.drop_eq_nil_of_le (by omega)
       rw [this]; exact ⟨rfl, rfl⟩
     · have hlt2 : n + 2 < s.length := by
        have := of_decide_eq_false f1
        omega
       obtain ⟨a, r3, hd3, hg3, ht3⟩ := get_of_lt hlt2
       rw [show n + 2 = n + 1 + 1 from rfl, ht2] at hd3
       subst hd3
       refine ⟨by omega, a, by rw [Int.toNat_natCast]; exact hg3, ?_⟩
       refine Tri.mono (hex_r a h) ?_
       rintro _ h ⟨rfl, rfl⟩
       refine ⟨_, rfl, br_split (fun f2 => ?_) (fun f2 => ?_)⟩
       · have hx : isHex a = false := by
          cases hh : isHex a with
          | false => rfl
          | true =>
            have := of_decide_eq_true f2
            rw [hexI, if_pos hh] at this; omega
         refine ⟨?_, rfl⟩
         rw [show charS (92 :: 120 :: a :: r3) = .error (6, 2) by simp [charS, hx]]; rfl
       · have hx : isHex a = true := by
          cases hh : isHex a with
          | true => rfl
          | false =>
            have := of_decide_eq_false f2
            rw [hexI, if_neg (by rw [hh]; decide)] at this; omega
         refine ⟨by omega, a, by rw [Int.toNat_natCast]; exact hg3, ?_⟩
         refine Tri.mono (hex_r a h) ?_
         rintro _ h ⟨rfl, rfl⟩
         have := hexV_lt hx
         refine ⟨_, rfl, 1, by omega, ⟨rfl, .inr (.inl ⟨rfl, a, r3, rfl, hx, ?_, ?_⟩)⟩, trivial⟩
         · rw [hexI, if_pos hx, wrap64 (n := 16 * 0) (by omega) (by omega), wrap64 (by omega) (by omega)]; omega
         · rw [wrap64 (by omega) (by omega)]; omega
   · refine br_pos (decide_eq_true (by omega)) (br_split (fun f1 => ?_) (fun f1 => ?_))
     · have : s.length ≤ n + 3 := by
        have := of_decide_eq_true f1
        omega
       have : r3 = [] := by
        have h3 : s.drop (n + 3) = r3 := drop_tail ht2
        rw [← h3]; exact List.drop_eq_nil_of_le (by omega)
       refine ⟨?_, rfl⟩
       rw [this, show charS [92, 120, a] = .error (4, 0) by simp [charS, ha]]; rfl
     · have hlt2 : n + 3 < s.length := by
        have := of_decide_eq_false f1
        omega
       obtain ⟨b, r4, hd3, hg3, ht3⟩ := get_of_lt hlt2
       have h3 : s.drop (n + 3) = r3 := drop_tail ht2
       rw [h3] at hd3
       subst hd3
       refine ⟨by omega, b, by rw [Int.toNat_natCast]; exact hg3, ?_⟩
       refine Tri.mono (hex_r b h) ?_
       rintro _ h ⟨rfl, rfl⟩
       refine ⟨_, rfl, br_split (fun f2 => ?_) (fun f2 => ?_)⟩
       · have hx : isHex b = false := by
          cases hh : isHex b with
          | false => rfl
          | true =>
            have := of_decide_eq_true f2
            rw [hexI, if_pos hh] at this; omega
         refine ⟨?_, rfl⟩
         rw [show charS (92 :: 120 :: a :: b :: r4) = .error (6, 3) by simp [charS, ha, hx]]; rfl
       · have hx : isHex b = true := by
          cases hh : isHex b with
          | true => rfl
          | false =>
            have := of_decide_eq_false f2
            rw [hexI, if_neg (by rw [hh]; decide)] at this; omega
         refine ⟨by omega, b, by rw [Int.toNat_natCast]; exact hg3, ?_⟩
         refine Tri.mono (hex_r b h) ?_
         rintro _ h ⟨rfl, rfl⟩
         have := hexV_lt hx
         have := hexV_lt ha
         refine ⟨_, rfl, 0, by omega, ⟨rfl, .inr (.inr ⟨rfl, a, b, r4, rfl, ha, hx, ?_, ?_⟩)⟩, trivial⟩
         · rw [hexI, if_pos hx, wrap64 (n := 16 * ((hexV a : Nat) : Int)) (by omega) (by omega), wrap64 (by omega) (by omega)]; omega
         · rw [wrap64 (by omega) (by omega)]; omega
   · refine br_neg (decide_eq_false (by omega)) ⟨?_, rfl⟩
     rw [show charS (92 :: 120 :: a :: b :: r4) = .ok (UInt8.ofNat (16 * hexV a + hexV b), 4) by simp [charS, ha, hb]]
     rw [u8_byte a b ha hb]; rfl
 · refine ⟨?_, rfl⟩
   have h120 : d ≠ 120 := u8_ne e11
   have hno : escS d = none := by
    have f5 : d ≠ 110 := u8_ne e5
    have f6 : d ≠ 116 := u8_ne e6
    have f7 : d ≠ 48 := u8_ne e7
    have f8 : d ≠ 92 := u8_ne e8
    have f9 : d ≠ 39 := u8_ne e9
    have f10 : d ≠ 34 := u8_ne e10
    simp [escS, f5, f6, f7, f8, f9, f10]
   rw [L.charS_esc h120, hno]; rfl
end Go.Proofs.D
namespace Go.Den
open Go
section
variable {P : Program} {h : PHeap} {f : Operand → Value}
theorem raw_makeMap {t ty : TypeId} {Q : Value → PHeap → Prop} (hq : ∀ b, h b = none → Q (.map (some b)) (h.put b (.map ⟨[]⟩ 0))) : Raw P (execOp f (mkO (.makeMap t none) ty)) h Q := by
 intro w hs
 refine ⟨.value (.map (some w.heap.size)), .map (some w.heap.size), w.alloc (.map ⟨[]⟩ 0), h.put w.heap.size (.map ⟨[]⟩ 0), ?_, .inl rfl, hq _ hs.fresh, hs.allocReal _, Keep.allocReal w h _⟩
 rfl
theorem beq_bytesS (a b : List UInt8) : ((⟨⟨a⟩⟩ : ByteArray) == ⟨⟨b⟩⟩) = (a == b) := by
 show ((⟨a⟩ : Array UInt8) == ⟨b⟩) = (a == b)
 rw [Bool.eq_iff_iff, beq_iff_eq, beq_iff_eq]
 constructor
 · intro e; cases e; rfl
 · rintro rfl; rfl
def ents (L : List (List UInt8 × Value × Nat)) : List MapEntry := L.map fun x => ⟨vS x.1, x.2.1, x.2.2⟩
def findS (k : List UInt8) : List (List UInt8 × Value × Nat) → Nat → Option (Nat × Value)
 | [], _ => none
 | (k', v, _) :: L, i => if k == k' then some (i, v) else findS k L (i + 1)
def mapGet (L : List (List UInt8 × Value × Nat)) (k : List UInt8) : Option Value := (findS k L 0).map (·.2)
theorem findNow_S (k : List UInt8) : ∀ (L : List (List UInt8 × Value × Nat)) (i : Nat), Instr.findNow .string (vS k) (ents L) i = some (findS k L i)
 | [], _ => rfl
 | (k', v, b) :: L, i => by
   simp only [ents, List.map_cons, Instr.findNow, Instr.sameNow, beq_bytesS, findS]
   cases e : k == k' with
   | true => rfl
   | false =>
     simp only [Bool.false_eq_true, if_false]
     exact findNow_S k L (i + 1)
theorem checkKey_S {t : TypeId} (hu : P.underlying t = some .string) (e : Bool) (v : Value) (w : World) : (Instr.checkKey e 10000 t v).run P w = .ok () w := by
 have : Instr.checkKey e 10000 t v = Instr.checkKey e (9999 + 1) t v := rfl
 rw [this, Instr.checkKey]
 simp [run_underlying hu]
def getD2 (z : Value) : Option Value → Value
 | some v => v
 | none => z
theorem raw_lookupS {t key elem ty : TypeId} {ok : Bool} {m k : Operand} {r clock : Nat} {L : List (List UInt8 × Value × Nat)} {lk : List UInt8} {z : Value}
 (hu : P.underlying t = some (.map key elem)) (hks : P.underlying key = some .string) (hz : zeroT P elem = some z) (hm : f m = vM r) (hk : f k = vS lk) (hr : h r = some (.map ⟨ents L⟩ clock)) :
 Raw P (execOp f (mkO (.lookup t m k ok) ty)) h fun v h' => v = (if ok then vT [getD2 z (mapGet L lk), vB (mapGet L lk).isSome] else getD2 z (mapGet L lk)) ∧ h = h' := by
 intro w hs
 have hw := hs _ _ hr
 have hfn := findNow_S lk L 0
 have hgo : (getObj r).run P w = .ok (.map ⟨ents L⟩ clock) w := by simp [getObj, Sem.run, hw]
 have hzr : (zeroValue elem).run P w = .ok z w := by
  unfold zeroT at hz
  cases hi : P.info? elem with
  | none => rw [hi] at hz; cases hz
  | some i => rw [hi] at hz; simp at hz; simp [zeroValue, typeInfo, program, Sem.run, hi, hz]
 refine ⟨_, _, w, h, ?_, .inl rfl, ⟨rfl, rfl⟩, hs, Keep.refl w h⟩
 unfold mapGet
 cases hres : findS lk L 0 with
 | none => rw [hres] at hfn; cases ok <;> simp [execOp, mkO, Instr.lookup, run_underlying hu, hm, hk, hgo, checkKey_S hks, Instr.findKey, run_underlying hks, hfn, hzr, getD2]
 | some p => obtain ⟨i, v⟩ := p; rw [hres] at hfn; cases ok <;> simp [execOp, mkO, Instr.lookup, run_underlying hu, hm, hk, hgo, checkKey_S hks, Instr.findKey, run_underlying hks, hfn, getD2]
theorem setObj_keepS {w : World} {r : Nat} {o o2 : Obj} (hs : Sub w h) (hr : h r = some o) : Sub { w with heap := w.heap.setIfInBounds r o2 } (h.put r o2) ∧ Keep w h { w with heap := w.heap.setIfInBounds r o2 } (h.put r o2) := by
 have hw := hs _ _ hr
 have hlt := (Array.getElem?_eq_some_iff.1 hw).1
 refine ⟨fun k o' hk => ?_, rfl, rfl, rfl, by simp, fun k hk hn => ?_⟩
 · simp only [PHeap.put] at hk
   split at hk
   · rename_i e; subst e; cases hk; simp [hlt]
   · rename_i e
     show (w.heap.setIfInBounds r o2)[k]? = _
     rw [Array.getElem?_setIfInBounds_ne (Ne.symm e)]; exact hs _ _ hk
 · have : k ≠ r := fun e => by subst e; rw [hr] at hn; cases hn
   refine ⟨by simp only [PHeap.put]; rw [if_neg this]; exact hn, ?_⟩
   show (w.heap.setIfInBounds r o2)[k]? = _
   rw [Array.getElem?_setIfInBounds_ne (Ne.symm this)]
def mapSet (k : List UInt8) (x : Value) (ck : Nat) : List (List UInt8 × Value × Nat) → List (List UInt8 × Value × Nat)
 | [] => [(k, x, ck)]
 | (k', v, b) :: L => if k == k' then (k, x, b) :: L else (k', v, b) :: mapSet k x ck L
theorem findS_shift (k : List UInt8) : ∀ (L : List (List UInt8 × Value × Nat)) (i j : Nat), findS k L (i + j) = (findS k L i).map fun p => (p.1 + j, p.2)
 | [], _, _ => rfl
 | (k', v, b) :: L, i, j => by
   simp only [findS]
   cases e : k == k' with
   | true => rfl
   | false =>
     have := findS_shift k L (i + 1) j
     rw [show i + 1 + j = i + j + 1 by omega] at this
     simpa using this
theorem mapGet_cons (k' : List UInt8) (v : Value) (b : Nat) (L : List (List UInt8 × Value × Nat)) (k : List UInt8) : mapGet ((k', v, b) :: L) k = if k == k' then some v else mapGet L k := by
 simp only [mapGet, findS]
 cases e : k == k' with
 | true => rfl
 | false =>
   have := findS_shift k L 0 1
   rw [Nat.zero_add] at this
   simp only [Nat.zero_add, Bool.false_eq_true, if_false]
   rw [this]; cases findS k L 0 <;> rfl
theorem mapGet_set (k : List UInt8) (x : Value) (ck : Nat) (k2 : List UInt8) : ∀ (L : List (List UInt8 × Value × Nat)), mapGet (mapSet k x ck L) k2 = if k2 == k then some x else mapGet L k2
 | [] => by simp [mapSet, mapGet_cons]
 | (k', v, b) :: L => by
   simp only [mapSet]
   cases e : k == k' with
   | true =>
     have e : k = k' := by simpa using e
     subst e
     simp only [if_true, mapGet_cons]
     cases k2 == k <;> rfl
   | false =>
     simp only [Bool.false_eq_true, if_false, mapGet_cons, mapGet_set k x ck k2 L]
     cases e2 : k2 == k' with
     | true =>
       have e2 : k2 = k' := by simpa using e2
       subst e2
       have : (k2 == k) = false := by rw [Bool.beq_comm]; exact e
       simp [this]
     | false => rfl
theorem set_ents (k : List UInt8) (x : Value) (ck : Nat) : ∀ (L : List (List UInt8 × Value × Nat)), (∀ i v, findS k L 0 = some (i, v) → (ents L).modify i (fun e => { e with key := vS k, val := x }) = ents (mapSet k x ck L) ∧ ∃ e, (ents L)[i]? = some e ∧ e.key = vS k) ∧
 (findS k L 0 = none → ents L ++ [⟨vS k, x, ck⟩] = ents (mapSet k x ck L))
 | [] => ⟨(fun i v h => by cases h), fun _ => rfl⟩
 | (k', v', b) :: L => by
   obtain ⟨h1, h2⟩ := set_ents k x ck L
   simp only [findS, mapSet]
   cases e : k == k' with
   | true =>
     have e : k = k' := by simpa using e
     subst e
     refine ⟨fun i v h => ?_, fun h => by simp at h⟩
     simp at h
     obtain ⟨rfl, rfl⟩ := h
     exact ⟨rfl, _, rfl, rfl⟩
   | false =>
     have hs := findS_shift k L 0 1
     simp only [Nat.zero_add] at hs
     simp only [Nat.zero_add, Bool.false_eq_true, if_false, hs]
     refine ⟨fun i v h => ?_, fun h => ?_⟩
     · cases hf : findS k L 0 with
       | none => rw [hf] at h; cases h
       | some p =>
         obtain ⟨j, u⟩ := p
         rw [hf] at h; simp at h
         obtain ⟨rfl, rfl⟩ := h
         obtain ⟨g1, g2⟩ := h1 j u hf
         exact ⟨by simpa [ents] using g1, by simpa [ents] using g2⟩
     · cases hf : findS k L 0 with
       | none => simpa [ents] using h2 hf
       | some p => rw [hf] at h; cases h
theorem raw_updS {t key elem ty : TypeId} {m k v : Operand} {op : Op} {r clock : Nat} {L : List (List UInt8 × Value × Nat)} {lk : List UInt8} {x : Value}
 (hop : op = .mapUpdate t m k v ∨ op = .insert t m k v) (hu : P.underlying t = some (.map key elem)) (hks : P.underlying key = some .string) (hm : f m = vM r) (hk : f k = vS lk) (hv : f v = x) (hr : h r = some (.map ⟨ents L⟩ clock)) :
 Raw P (execOp f (mkO op ty)) h fun v h' => v = vT [] ∧ ∃ ck, h' = h.put r (.map ⟨ents (mapSet lk x clock L)⟩ ck) ∧ (mapGet L lk = none → ck = clock + 1) := by
 intro w hs
 have hw := hs _ _ hr
 have hfn := findNow_S lk L 0
 have hgo : (getObj r).run P w = .ok (.map ⟨ents L⟩ clock) w := by simp [getObj, Sem.run, hw]
 have hso : ∀ o, (setObj r o).run P w = .ok () { w with heap := w.heap.setIfInBounds r o } := fun o => by simp [setObj, Sem.run, hw]
 have hset := set_ents lk x clock L
 cases hres : findS lk L 0 with
 | none =>
   rw [hres] at hfn
   obtain ⟨k1, k2⟩ := setObj_keepS (o2 := .map ⟨ents (mapSet lk x clock L)⟩ (clock + 1)) hs hr
   refine ⟨.skip, undef, _, _, ?_, .inr ⟨rfl, rfl⟩, ⟨rfl, clock + 1, rfl, fun _ => rfl⟩, k1, k2⟩
   rw [← hset.2 hres]
   rcases hop with rfl | rfl <;> simp [execOp, mkO, hm, hk, hv, Instr.mapUpdate, run_underlying hu, hgo, checkKey_S hks, Instr.findKey, run_underlying hks, hfn, hso]
 | some p =>
   obtain ⟨i, u⟩ := p
   rw [hres] at hfn
   obtain ⟨g1, e, he, hek⟩ := hset.1 i u hres
   obtain ⟨k1, k2⟩ := setObj_keepS (o2 := .map ⟨ents (mapSet lk x clock L)⟩ clock) hs hr
   refine ⟨.skip, undef, _, _, ?_, .inr ⟨rfl, rfl⟩, ⟨rfl, clock, rfl, fun hn => by simp [mapGet, hres] at hn⟩, k1, k2⟩
   rw [← g1]
   have hsb : Instr.sameBits 10000 e.key (vS lk) = true := by rw [hek]; simp [Instr.sameBits, beq_bytesS]
   rcases hop with rfl | rfl <;> simp [execOp, mkO, hm, hk, hv, Instr.mapUpdate, run_underlying hu, hgo, checkKey_S hks, Instr.findKey, run_underlying hks, hfn, hso, he, Instr.keyThatStays, hsb]
end
end Go.Den
namespace Go.Proofs.D
open Go Go.Den Go.Sx
set_option maxRecDepth 100000
attribute [local irreducible] IntKind.wrap Tri
mutual
def RS (pl : Nat → List Value) (we ws : Nat) (h : PHeap) : S → List Value → Prop
 | .mk k nm args body els pos, cs => ∃ a ac b bc e ec, cs = [vI k, vS nm, vL a args.length ac, vL b body.length bc, vL e els.length ec] ++ pl pos ∧ At we (RE pl we) h a args ∧
  (body = [] ∨ ∃ b' o, b = ad b' o ∧ RSs pl we ws h b' o body) ∧ (els = [] ∨ ∃ b' o, e = ad b' o ∧ RSs pl we ws h b' o els)
def RSs (pl : Nat → List Value) (we ws : Nat) (h : PHeap) (b : Nat) : Nat → List S → Prop
 | _, [] => True
 | o, x :: xs => (∃ cs, h.row b o cs ∧ RS pl we ws h x cs) ∧ RSs pl we ws h b (o + ws) xs
end
mutual
theorem RS.ext {pl : Nat → List Value} {we ws : Nat} {h h' : PHeap} (x : Ext h h') : ∀ {e : S} {cs : List Value}, RS pl we ws h e cs → RS pl we ws h' e cs
 | .mk k nm args body els pos, cs, hr => by
   obtain ⟨a, ac, b, bc, e, ec, h1, h2, h3, h4⟩ := hr
   refine ⟨a, ac, b, bc, e, ec, h1, h2.ext (RE_mono _ _) x, ?_, ?_⟩
   · rcases h3 with h3 | ⟨b, o, h3, h5⟩
     · exact .inl h3
     · exact .inr ⟨b, o, h3, RSs.ext x h5⟩
   · rcases h4 with h4 | ⟨b, o, h4, h5⟩
     · exact .inl h4
     · exact .inr ⟨b, o, h4, RSs.ext x h5⟩
theorem RSs.ext {pl : Nat → List Value} {we ws : Nat} {h h' : PHeap} (x : Ext h h') {b : Nat} : ∀ {es : List S} {o : Nat}, RSs pl we ws h b o es → RSs pl we ws h' b o es
 | [], _, _ => trivial
 | e :: es, o, hr => by
   obtain ⟨⟨cs, h1, h2⟩, h3⟩ := hr
   exact ⟨⟨cs, row_ext (fun ob => x b ob) h1, RS.ext x h2⟩, RSs.ext x h3⟩
end
theorem RS_mono (pl : Nat → List Value) (we ws : Nat) : Mono (RS pl we ws) := ⟨fun x h => h.ext x⟩
theorem RSs_of {pl : Nat → List Value} {we ws : Nat} {H : PHeap} {b : Nat} : ∀ {es : List S} {o : Nat}, (∀ (j : Nat) (x : S), es[j]? = some x → ∃ cs, H.row b (o + j * ws) cs ∧ RS pl we ws H x cs) → RSs pl we ws H b o es
 | [], _, _ => trivial
 | e :: es, o, hj => by
   refine ⟨?_, RSs_of fun j x hx => ?_⟩
   · obtain ⟨cs, h1, h2⟩ := hj 0 e rfl
     exact ⟨cs, by simpa using h1, h2⟩
   · obtain ⟨cs, h1, h2⟩ := hj (j + 1) x (by simpa using hx)
     exact ⟨cs, by rw [show o + ws + j * ws = o + (j + 1) * ws by rw [Nat.add_mul]; omega]; exact h1, h2⟩
theorem RSs_get {pl : Nat → List Value} {we ws : Nat} {H : PHeap} {b : Nat} : ∀ {es : List S} {o : Nat}, RSs pl we ws H b o es → ∀ (j : Nat) (x : S), es[j]? = some x → ∃ cs, H.row b (o + j * ws) cs ∧ RS pl we ws H x cs
 | [], _, _, j, x, hx => by simp at hx
 | e :: es, o, hr, 0, x, hx => by
   simp at hx; subst hx
   obtain ⟨cs, h1, h2⟩ := hr.1
   exact ⟨cs, by simpa using h1, h2⟩
 | e :: es, o, hr, j + 1, x, hx => by
   obtain ⟨cs, h1, h2⟩ := RSs_get hr.2 j x (by simpa using hx)
   exact ⟨cs, by rw [show o + (j + 1) * ws = o + ws + j * ws by rw [Nat.add_mul]; omega]; exact h1, h2⟩
theorem REs_get {pl : Nat → List Value} {w : Nat} {H : PHeap} {b : Nat} : ∀ {es : List E} {o : Nat}, REs pl w H b o es → ∀ (j : Nat) (x : E), es[j]? = some x → ∃ cs, H.row b (o + j * w) cs ∧ RE pl w H x cs
 | [], _, _, j, x, hx => by simp at hx
 | e :: es, o, hr, 0, x, hx => by
   simp at hx; subst hx
   obtain ⟨cs, h1, h2⟩ := hr.1
   exact ⟨cs, by simpa using h1, h2⟩
 | e :: es, o, hr, j + 1, x, hx => by
   obtain ⟨cs, h1, h2⟩ := REs_get hr.2 j x (by simpa using hx)
   exact ⟨cs, by rw [show o + (j + 1) * w = o + w + j * w by rw [Nat.add_mul]; omega]; exact h1, h2⟩
theorem RS_iff {pl : Nat → List Value} {we ws : Nat} {h : PHeap} {k : Nat} {nm : Bytes} {args : List E} {body els : List S} {pos : Nat} {cs : List Value} :
 RS pl we ws h (.mk k nm args body els pos) cs ↔ ∃ a ac b bc e ec, cs = [vI k, vS nm, vL a args.length ac, vL b body.length bc, vL e els.length ec] ++ pl pos ∧ At we (RE pl we) h a args ∧ At ws (RS pl we ws) h b body ∧ At ws (RS pl we ws) h e els := by
 have key : ∀ {a : Option Addr} {l : List S}, (l = [] ∨ ∃ b' o, a = ad b' o ∧ RSs pl we ws h b' o l) ↔ At ws (RS pl we ws) h a l := fun {a l} => by
  constructor
  · rintro (h1 | ⟨b, o, h1, h2⟩)
    · exact .inl h1
    · exact .inr ⟨b, o, h1, RSs_get h2⟩
  · rintro (h1 | ⟨b, o, h1, h2⟩)
    · exact .inl h1
    · exact .inr ⟨b, o, h1, RSs_of h2⟩
 constructor
 · rintro ⟨a, ac, b, bc, e, ec, h1, h2, h3, h4⟩
   exact ⟨a, ac, b, bc, e, ec, h1, h2, key.1 h3, key.1 h4⟩
 · rintro ⟨a, ac, b, bc, e, ec, h1, h2, h3, h4⟩
   exact ⟨a, ac, b, bc, e, ec, h1, h2, key.2 h3, key.2 h4⟩
theorem RE_iff {pl : Nat → List Value} {w : Nat} {h : PHeap} {k : Nat} {op nm : Bytes} {v : Nat} {t : Bytes} {args : List E} {pos : Nat} {cs : List Value} :
 RE pl w h (.mk k op nm v t args pos) cs ↔ ∃ a c, cs = [vI k, vS op, vS nm, vI v, vS t, vL a args.length c] ++ pl pos ∧ At w (RE pl w) h a args := by
 constructor
 · rintro ⟨a, c, h1, h2⟩
   refine ⟨a, c, h1, ?_⟩
   rcases h2 with h2 | ⟨b, o, h2, h3⟩
   · exact .inl h2
   · exact .inr ⟨b, o, h2, REs_get h3⟩
 · rintro ⟨a, c, h1, h2⟩
   exact ⟨a, c, h1, h2.res⟩
theorem At.nil {α : Type} {k : Nat} {rel : PHeap → α → List Value → Prop} {h : PHeap} {a : Option Addr} : At k rel h a [] := .inl rfl
theorem At.one {α : Type} {k : Nat} {rel : PHeap → α → List Value → Prop} {H : PHeap} {b : Nat} {x : α} {l : List Value} {t : TypeId} {z : Nat × Nat} (hb : H b = some (.cells ⟨l⟩ t z)) (he : rel H x l) : At k rel H (ad b 0) [x] :=
 .inr ⟨b, 0, rfl, fun j y hy => by
  match j, hy with
  | 0, hy => simp at hy; subst hy; exact ⟨l, row_lit hb fun j v hj => by simpa using hj, he⟩
  | j + 1, hy => simp at hy⟩
theorem At.two {α : Type} {k : Nat} {rel : PHeap → α → List Value → Prop} {H : PHeap} {b : Nat} {x y : α} {l m : List Value} {t : TypeId} {z : Nat × Nat} (hw : l.length = k) (hb : H b = some (.cells ⟨l ++ m⟩ t z)) (hx : rel H x l) (hy : rel H y m) : At k rel H (ad b 0) [x, y] :=
 .inr ⟨b, 0, rfl, fun j u hu => by
  match j, hu with
  | 0, hu =>
    simp at hu; subst hu
    refine ⟨l, row_lit hb fun j v hj => ?_, hx⟩
    have : j < l.length := (List.getElem?_eq_some_iff.1 hj).1
    simp only [Nat.zero_mul, Nat.zero_add]; rw [List.getElem?_append_left this]; exact hj
  | 1, hu =>
    simp at hu; subst hu
    refine ⟨m, row_lit hb fun j v hj => ?_, hy⟩
    simp only [Nat.zero_add, Nat.one_mul]; rw [List.getElem?_append_right (by omega)]; rw [show k + j - l.length = j by omega]; exact hj
  | j + 2, hu => simp at hu⟩
def PSt (K : PK) (s : Bytes) (p : Nat) (h : PHeap) (r : R S) (v : Value) (h' : PHeap) : Prop :=
 ∃ c : SC, v = vA c.l ∧ Away p h h' ∧ PX K s h' p r fun x => RS (plP s) 8 7 (only (New h) h') x c.l
def PBk (K : PK) (s : Bytes) (p : Nat) (h : PHeap) (r : R (List S)) (v : Value) (h' : PHeap) : Prop :=
 ∃ a n c, v = vL a n c ∧ Away p h h' ∧ PX K s h' p r fun l => n = l.length ∧ At 7 (RS (plP s) 8 7) (only (New h) h') a l
def PCo (K : PK) (s : Bytes) (p : Nat) (h : PHeap) (r : R E) (v : Value) (h' : PHeap) : Prop :=
 ∃ a c, v = vL a 1 c ∧ Away p h h' ∧ PX K s h' p r fun e => At 8 (RE (plP s) 8) (only (New h) h') a [e]
section
variable {K : PK} {s : Bytes} {p : Nat}
theorem cond_tri {f : Nat} (hf : f ≤ 5000000) {α : Type} (r : R α) (h : PHeap) (hP : PS K s h p r) (hn : NF (bindR r fun _ ts d => pCond f ts d)) : Tri Tryz.prog 93 [vP p 0] h (PCo K s p h (bindR r fun _ ts d => pCond f ts d)) := by
 refine T93 ?_
 unfold R93
 have he : (bindR r fun _ ts d => pCond f ts d) = thenR (bindR (bindR r fun _ ts d => takeT [40] ts d) fun _ ts d => pBin f 1 ts d) fun ts d => takeT [41] ts d := by
  simp only [thenR, bindR_bind, bindR_ok, pCond]
 rw [he] at hn ⊢
 have hp0 := hP.mem
 refine Tri.mono (take_tri hP [40]) ?_
 rintro _ h1 ⟨rfl, hc1, hP1⟩
 refine ⟨rfl, ?_⟩
 refine Tri.mono (expr_tri (xok f hf) _ h1 hP1 hn.then.bind) ?_
 rintro _ h2 ⟨c, rfl, hA2, hx2⟩
 refine ⟨_, _, _, _, _, _, _, _, _, _, rfl, ?_⟩
 refine Tri.mono (take_tri hx2.ps [41]) ?_
 rintro _ h3 ⟨rfl, hc3, hP3⟩
 refine ⟨rfl, ?_⟩
 intro b hb h4 hh
 have hA3 : Away p h h3 := (hc1.away.trans hA2).trans hc3.away
 have hb0 : h b = none := hA3.dom hP3.mem b hb
 have hbk : only (New h) h4 b = some (.cells ⟨c.l⟩ 48 (0, 0)) := only_some.2 ⟨hb0, Put.at hh⟩
 refine ⟨ad b 0, 1, rfl, hA3.trans (Put.ext hh hb).away, ?_⟩
 have hx3 := hx2.then (rel' := fun e => RE (plP s) 8 (only (New h) h4) e c.l) hP3 fun e he => he.ext ((only_new (hc1.away.dom hP1.mem)).trans (only_away hp0 (hc3.away.trans (Put.ext hh hb).away)))
 exact hx3.ext (Put.ext hh hb) fun e he => At.one hbk he
theorem RS_mk {pl : Nat → List Value} {we ws : Nat} {h : PHeap} (k : Nat) (nm : Bytes) {args : List E} {body els : List S} (pos : Nat) {a : Option Addr} (ac : Nat) {b : Option Addr} (bc : Nat) {e : Option Addr} (ec : Nat)
 (h1 : At we (RE pl we) h a args) (h2 : At ws (RS pl we ws) h b body) (h3 : At ws (RS pl we ws) h e els) :
 RS pl we ws h (.mk k nm args body els pos) ([vI k, vS nm, vL a args.length ac, vL b body.length bc, vL e els.length ec] ++ pl pos) := RS_iff.2 ⟨a, ac, b, bc, e, ec, rfl, h1, h2, h3⟩
def pWord (k : Nat) (ts : List Tok) (d : Int) : R S := bindR (takeT [59] ts.tail d) fun _ ts' d => .ok (.mk k [] [] [] [] (hd ts).pos, ts', d)
theorem word_tri (k : Nat) {ts : List Tok} {d : Int} {h : PHeap} (hP : POk K s h p ts d) (hk : (hd ts).kind ≠ 0) : Tri Tryz.prog 41 [vP p 0, vI k] h (PSt K s p h (pWord k ts d)) := by
 refine T41 ?_
 unfold R41
 refine Tri.mono (begin_tri hP hk k) ?_
 rintro _ h1 ⟨rfl, hc1, hP1⟩
 refine ⟨_, _, _, _, _, _, _, _, _, _, _, _, _, rfl, ?_⟩
 refine Tri.mono (take_tri (r := (.ok ((), ts.tail, d) : R Unit)) hP1 [59]) ?_
 rintro _ h2 ⟨rfl, hc2, hP2⟩
 refine ⟨rfl, ⟨k, [], none, 0, 0, none, 0, 0, none, 0, 0, _, _⟩, rfl, hc1.away.trans hc2.away, ?_⟩
 have hx : PX K s h2 p (takeT [59] ts.tail d) fun _ => True := PX.unit hP2
 exact hx.map (k := fun _ => S.mk k [] [] [] [] (hd ts).pos) fun _ _ => RS_mk k [] _ 0 0 0 At.nil At.nil At.nil
theorem word8_tri {ts : List Tok} {d : Int} {h : PHeap} (hP : POk K s h p ts d) (hk : (hd ts).kind ≠ 0) : Tri Tryz.prog 40 [vP K.box 0] h (PSt K s p h (pWord 8 ts d)) := by
 refine T40 ?_
 unfold R40
 obtain ⟨⟨_, _, _, _, _, _, _, _, hq⟩, _⟩ := id hP
 refine ⟨p, 0, cell_of hq 0, ?_⟩
 refine Tri.mono (word_tri 8 hP hk) ?_
 rintro _ h1 hE
 have hE' := hE
 obtain ⟨c, rfl, _⟩ := hE
 exact ⟨_, _, _, _, _, _, _, _, _, _, _, _, _, rfl, hE'⟩
theorem word9_tri {ts : List Tok} {d : Int} {h : PHeap} (hP : POk K s h p ts d) (hk : (hd ts).kind ≠ 0) : Tri Tryz.prog 42 [vP K.box 0] h (PSt K s p h (pWord 9 ts d)) := by
 refine T42 ?_
 unfold R42
 obtain ⟨⟨_, _, _, _, _, _, _, _, hq⟩, _⟩ := id hP
 refine ⟨p, 0, cell_of hq 0, ?_⟩
 refine Tri.mono (word_tri 9 hP hk) ?_
 rintro _ h1 hE
 have hE' := hE
 obtain ⟨c, rfl, _⟩ := hE
 exact ⟨_, _, _, _, _, _, _, _, _, _, _, _, _, rfl, hE'⟩
end
end Go.Proofs.D
namespace Go.Proofs.D
open Go Go.Den Go.Sx
set_option maxRecDepth 100000
attribute [local irreducible] IntKind.wrap Tri
section
variable {K : PK} {s : Bytes} {p : Nat}
def pDecl (f : Nat) (ts : List Tok) (d : Int) : R S := bindR (takeK 1 ts.tail d) fun t ts' d =>
 if isT ts' [61] then bindR (takeT [61] ts' d) fun _ ts' d => bindR (pBin f 1 ts' d) fun e ts' d => bindR (takeT [59] ts' d) fun _ ts' d => .ok (.mk 1 t.text [e] [] [] (hd ts).pos, ts', d)
 else bindR (takeT [59] ts' d) fun _ ts' d => .ok (.mk 1 t.text [] [] [] (hd ts).pos, ts', d)
def pWhile (f : Nat) (ts : List Tok) (d : Int) : R S := bindR (pCond f ts.tail d) fun e ts' d => bindR (pBlock f ts' d) fun b ts' d => .ok (.mk 6 [] [e] b [] (hd ts).pos, ts', d)
def pRet (f : Nat) (ts : List Tok) (d : Int) : R S :=
 if isT ts.tail [59] then bindR (takeT [59] ts.tail d) fun _ ts' d => .ok (.mk 7 [] [] [] [] (hd ts).pos, ts', d)
 else bindR (pBin f 1 ts.tail d) fun e ts' d => bindR (takeT [59] ts' d) fun _ ts' d => .ok (.mk 7 [] [e] [] [] (hd ts).pos, ts', d)
theorem decl_tri {f : Nat} (hf : f ≤ 5000000) {ts : List Tok} {d : Int} {h : PHeap} (hP : POk K s h p ts d) (hk : (hd ts).kind ≠ 0) (hn : NF (pDecl f ts d)) : Tri Tryz.prog 36 [vP p 0] h (PSt K s p h (pDecl f ts d)) := by
 refine T36 ?_
 unfold R36
 have hp0 : h p ≠ none := PS.mem (r := (.ok ((), ts, d) : R Unit)) hP
 refine Tri.mono (begin_tri hP hk 1) ?_
 rintro _ h1 ⟨rfl, hc1, hP1⟩
 refine ⟨_, _, _, _, _, _, _, _, _, _, _, _, _, rfl, ?_⟩
 refine Tri.mono (takeKind_tri (r := (.ok ((), ts.tail, d) : R Unit)) hP1 1 (by decide)) ?_
 rintro _ h2 ⟨t, rfl, hc2, hx2⟩
 refine ⟨_, _, _, _, _, _, rfl, ?_⟩
 rw [bindR_ok] at hx2
 unfold pDecl at hn ⊢
 generalize takeK 1 ts.tail d = r2 at *
 refine Tri.mono (accept_tri hx2.ps [61]) ?_
 rintro _ h3 ⟨rfl, hc3, hP3⟩
 have hA3 : Away p h h3 := (hc1.away.trans hc2.away).trans hc3.away
 refine ⟨_, rfl, br_split (fun e => ?_) (fun e => ?_)⟩
 · obtain ⟨x, ts2, d2, rfl, hT, hac⟩ := accB_true e
   rw [hac] at hP3
   obtain ⟨_, rfl⟩ := hx2
   have he : (bindR (.ok (x, ts2, d2) : R Tok) fun t ts' d =>
    if isT ts' [61] then bindR (takeT [61] ts' d) fun _ ts' d => bindR (pBin f 1 ts' d) fun e ts' d => bindR (takeT [59] ts' d) fun _ ts' d => (.ok (.mk 1 t.text [e] [] [] (hd ts).pos, ts', d) : R S)
    else bindR (takeT [59] ts' d) fun _ ts' d => .ok (.mk 1 t.text [] [] [] (hd ts).pos, ts', d)) =
    mapR (fun e => .mk 1 x.text [e] [] [] (hd ts).pos) (thenR (bindR (takeT [61] ts2 d2) fun _ ts d => pBin f 1 ts d) fun ts d => takeT [59] ts d) := by
     rw [bindR_ok, if_pos hT]; simp only [mapR, thenR, bindR_bind, bindR_ok]
   rw [he] at hn ⊢
   refine Tri.mono (expr_tri (xok f hf) _ h3 hP3 hn.map.then.bind) ?_
   rintro _ h4 ⟨c, rfl, hA4, hx4⟩
   refine ⟨_, _, _, _, _, _, _, _, _, _, rfl, ?_⟩
   intro b hb h5 hh
   refine Tri.mono (take_tri (hx4.ps.ext (Put.ext hh hb)) [59]) ?_
   rintro _ h6 ⟨rfl, hc6, hP6⟩
   have hb0 : h b = none := (hA3.trans hA4).dom hx4.ps.mem b hb
   have hbp : b ≠ p := fun e => by subst e; exact hp0 hb0
   have hA46 : Away p h4 h6 := (Put.ext hh hb).away.trans hc6.away
   have hbk : only (New h) h6 b = some (.cells ⟨c.l⟩ 48 (0, 0)) := only_some.2 ⟨hb0, (hc6 b hbp).trans (Put.at hh)⟩
   have hx6 := hx4.then (rel' := fun e => RE (plP s) 8 (only (New h) h6) e c.l) hP6 fun e he => he.ext ((only_new (hA3.dom hP3.mem)).trans (only_away hp0 hA46))
   exact ⟨rfl, ⟨1, x.text, ad b 0, 1, 1, none, 0, 0, none, 0, 0, _, _⟩, rfl, (hA3.trans hA4).trans hA46, hx6.map fun e he => RS_mk 1 _ _ 1 0 0 (At.one hbk he) At.nil At.nil⟩
 · obtain ⟨hnt, hac⟩ := accB_false rfl e
   rw [hac] at hP3
   refine Tri.mono (take_tri hP3 [59]) ?_
   rintro _ h4 ⟨rfl, hc4, hP4⟩
   have hP4' : PS K s h4 p (bindR r2 fun _ ts d => takeT [59] ts d) := by
    simp only [mapR, bindR_bind, bindR_ok] at hP4; exact hP4
   have he : (bindR r2 fun t ts' d =>
    if isT ts' [61] then bindR (takeT [61] ts' d) fun _ ts' d => bindR (pBin f 1 ts' d) fun e ts' d => bindR (takeT [59] ts' d) fun _ ts' d => (.ok (.mk 1 t.text [e] [] [] (hd ts).pos, ts', d) : R S)
    else bindR (takeT [59] ts' d) fun _ ts' d => .ok (.mk 1 t.text [] [] [] (hd ts).pos, ts', d)) = mapR (fun t => .mk 1 t.text [] [] [] (hd ts).pos) (thenR r2 fun ts d => takeT [59] ts d) := by
    match r2, hnt with
    | .error x, _ => rfl
    | .ok (x, ts2, d2), hnt => rw [bindR_ok, if_neg (by rw [show isT ts2 [61] = false from hnt]; decide)]; simp only [mapR, thenR, bindR_bind, bindR_ok]
   rw [he]
   refine ⟨rfl, ⟨1, t.text, none, 0, 0, none, 0, 0, none, 0, 0, _, _⟩, rfl, hA3.trans hc4.away, ?_⟩
   refine (hx2.then hP4' fun _ h => h).map fun x hx => ?_
   subst hx
   exact RS_mk 1 _ _ 0 0 0 At.nil At.nil At.nil
theorem ret_tri {f : Nat} (hf : f ≤ 5000000) {ts : List Tok} {d : Int} {h : PHeap} (hP : POk K s h p ts d) (hk : (hd ts).kind ≠ 0) (hn : NF (pRet f ts d)) : Tri Tryz.prog 39 [vP p 0] h (PSt K s p h (pRet f ts d)) := by
 refine T39 ?_
 unfold R39
 have hp0 : h p ≠ none := PS.mem (r := (.ok ((), ts, d) : R Unit)) hP
 refine Tri.mono (begin_tri hP hk 7) ?_
 rintro _ h1 ⟨rfl, hc1, hP1⟩
 refine ⟨_, _, _, _, _, _, _, _, _, _, _, _, _, rfl, ?_⟩
 refine Tri.mono (is_tri (r := (.ok ((), ts.tail, d) : R Unit)) hP1 [59]) ?_
 rintro _ h1 ⟨rfl, rfl⟩
 unfold pRet at hn ⊢
 refine ⟨_, rfl, br_split (fun e => ?_) (fun e => ?_)⟩
 · have e : isT ts.tail [59] = false := by simpa [isTr] using e
   rw [if_neg (by rw [e]; decide)] at hn ⊢
   have he : (bindR (pBin f 1 ts.tail d) fun e ts' d => bindR (takeT [59] ts' d) fun _ ts' d => (.ok (.mk 7 [] [e] [] [] (hd ts).pos, ts', d) : R S)) =
    mapR (fun e => .mk 7 [] [e] [] [] (hd ts).pos) (thenR (pBin f 1 ts.tail d) fun ts d => takeT [59] ts d) := by simp only [mapR, thenR, bindR_bind, bindR_ok]
   rw [he] at hn ⊢
   refine Tri.mono (expr_tri (xok f hf) (.ok ((), ts.tail, d) : R Unit) h1 hP1 hn.map.then.bind) ?_
   rintro _ h4 ⟨c, rfl, hA4, hx4⟩
   refine ⟨_, _, _, _, _, _, _, _, _, _, rfl, ?_⟩
   intro b hb h5 hh
   refine Tri.mono (take_tri (hx4.ps.ext (Put.ext hh hb)) [59]) ?_
   rintro _ h6 ⟨rfl, hc6, hP6⟩
   have hb0 : h b = none := (hc1.away.trans hA4).dom hx4.ps.mem b hb
   have hbp : b ≠ p := fun e => by subst e; exact hp0 hb0
   have hA46 : Away p h4 h6 := (Put.ext hh hb).away.trans hc6.away
   have hbk : only (New h) h6 b = some (.cells ⟨c.l⟩ 48 (0, 0)) := only_some.2 ⟨hb0, (hc6 b hbp).trans (Put.at hh)⟩
   have hx6 := hx4.then (rel' := fun e => RE (plP s) 8 (only (New h) h6) e c.l) hP6 fun e he => he.ext ((only_new (hc1.away.dom (PS.mem (r := (.ok ((), ts.tail, d) : R Unit)) hP1))).trans (only_away hp0 hA46))
   exact ⟨rfl, ⟨7, [], ad b 0, 1, 1, none, 0, 0, none, 0, 0, _, _⟩, rfl, (hc1.away.trans hA4).trans hA46, hx6.map fun e he => RS_mk 7 _ _ 1 0 0 (At.one hbk he) At.nil At.nil⟩
 · have e : isT ts.tail [59] = true := by simpa [isTr] using e
   rw [if_pos e]
   refine Tri.mono (take_tri (r := (.ok ((), ts.tail, d) : R Unit)) hP1 [59]) ?_
   rintro _ h2 ⟨rfl, hc2, hP2⟩
   refine ⟨rfl, ⟨7, [], none, 0, 0, none, 0, 0, none, 0, 0, _, _⟩, rfl, hc1.away.trans hc2.away, ?_⟩
   have hx : PX K s h2 p (takeT [59] ts.tail d) fun _ => True := PX.unit hP2
   exact hx.map (k := fun _ => S.mk 7 [] [] [] [] (hd ts).pos) fun _ _ => RS_mk 7 [] _ 0 0 0 At.nil At.nil At.nil
theorem accT {ts : List Tok} {d : Int} {t : Bytes} (ho : opens t = true) (hT : isT ts t = true) : (accB (.ok ((), ts, d) : R Unit) t = false ∧ d = 32 ∧ accR (.ok ((), ts, d) : R Unit) t = .error (9, (hd ts).pos)) ∨ (accB (.ok ((), ts, d) : R Unit) t = true ∧ accR (.ok ((), ts, d) : R Unit) t = takeT t ts d) := by
 by_cases hd : d = 32
 · left; simp [accB, accR, hT, ho, hd, takeT]
 · right; simp [accB, accR, hT, ho, hd]
theorem pNamed_succ (f : Nat) (ts : List Tok) (d : Int) : pNamed (f + 1) ts d = if isT ts.tail [61] then bindR (takeT [61] ts.tail d) fun _ ts' d => bindR (pBin f 1 ts' d) fun e ts' d => bindR (takeT [59] ts' d) fun _ ts' d => .ok (.mk 2 (hd ts).text [e] [] [] (hd ts).pos, ts', d)
 else if isT ts.tail [91] then bindR (takeT [91] ts.tail d) fun _ ts' d => bindR (pBin f 1 ts' d) fun i ts' d => bindR (takeT [93] ts' d) fun _ ts' d => bindR (takeT [61] ts' d) fun _ ts' d =>
  bindR (pBin f 1 ts' d) fun e ts' d => bindR (takeT [59] ts' d) fun _ ts' d => .ok (.mk 3 (hd ts).text [i, e] [] [] (hd ts).pos, ts', d)
 else bindR (pCall f (hd ts) ts.tail d) fun e ts' d => bindR (takeT [59] ts' d) fun _ ts' d => .ok (.mk 4 [] [e] [] [] (hd ts).pos, ts', d) := by
 conv => lhs; unfold pNamed
theorem named_ok {f : Nat} (hf : f ≤ 5000000) {ts : List Tok} {d : Int} {h : PHeap} (hP : POk K s h p ts d) (hk1 : isK ts 1 = true) (hn : NF (pNamed (f + 1) ts d)) : Tri Tryz.prog 173 [vP p 0] h (PSt K s p h (pNamed (f + 1) ts d)) := by
 refine T173 ?_
 unfold R173
 have hk : (hd ts).kind ≠ 0 := by simp [isK] at hk1; omega
 have hp0 : h p ≠ none := PS.mem (r := (.ok ((), ts, d) : R Unit)) hP
 obtain ⟨⟨o, c', l', k', hp, hT, hc, _⟩, hI, hend, hlo, hhi, hl2, hwf⟩ := id hP
 refine ⟨_, _, _, PB_cell hp 0, K.tok, o, rfl, ⟨Int.le_refl _, len_pos hend⟩, _, _, _, _, _, _, POk.row hT hend, ?_⟩
 refine Tri.mono (begin_tri hP hk 2) ?_
 rintro _ h1 ⟨rfl, hc1, hP1⟩
 refine ⟨_, _, _, _, _, _, _, _, _, _, _, _, _, rfl, ?_⟩
 refine Tri.mono (accept_tri (r := (.ok ((), ts.tail, d) : R Unit)) hP1 [61]) ?_
 rintro _ h2 ⟨rfl, hc2, hP2⟩
 have hA2 : Away p h h2 := hc1.away.trans hc2.away
 rw [pNamed_succ] at hn ⊢
 refine ⟨_, rfl, br_split (fun e => ?_) (fun e => ?_)⟩
 · obtain ⟨x, ts2, d2, heq, hT, hac⟩ := accB_true e
   cases heq
   rw [hac] at hP2
   rw [if_pos hT] at hn ⊢
   have he : (bindR (takeT [61] ts.tail d) fun _ ts' d => bindR (pBin f 1 ts' d) fun e ts' d => bindR (takeT [59] ts' d) fun _ ts' d => (.ok (.mk 2 (hd ts).text [e] [] [] (hd ts).pos, ts', d) : R S)) =
    mapR (fun e => .mk 2 (hd ts).text [e] [] [] (hd ts).pos) (thenR (bindR (takeT [61] ts.tail d) fun _ ts d => pBin f 1 ts d) fun ts d => takeT [59] ts d) := by simp only [mapR, thenR, bindR_bind, bindR_ok]
   rw [he] at hn ⊢
   refine Tri.mono (expr_tri (xok f hf) _ h2 hP2 hn.map.then.bind) ?_
   rintro _ h4 ⟨c, rfl, hA4, hx4⟩
   refine ⟨_, _, _, _, _, _, _, _, _, _, rfl, ?_⟩
   intro b hb h5 hh
   refine Tri.mono (take_tri (hx4.ps.ext (Put.ext hh hb)) [59]) ?_
   rintro _ h6 ⟨rfl, hc6, hP6⟩
   have hb0 : h b = none := (hA2.trans hA4).dom hx4.ps.mem b hb
   have hbp : b ≠ p := fun e => by subst e; exact hp0 hb0
   have hA46 : Away p h4 h6 := (Put.ext hh hb).away.trans hc6.away
   have hbk : only (New h) h6 b = some (.cells ⟨c.l⟩ 48 (0, 0)) := only_some.2 ⟨hb0, (hc6 b hbp).trans (Put.at hh)⟩
   have hx6 := hx4.then (rel' := fun e => RE (plP s) 8 (only (New h) h6) e c.l) hP6 fun e he => he.ext ((only_new (hA2.dom hP2.mem)).trans (only_away hp0 hA46))
   exact ⟨rfl, ⟨2, (hd ts).text, ad b 0, 1, 1, none, 0, 0, none, 0, 0, _, _⟩, rfl, (hA2.trans hA4).trans hA46, hx6.map fun e he => RS_mk 2 _ _ 1 0 0 (At.one hbk he) At.nil At.nil⟩
 obtain ⟨hnt, hac⟩ := accB_false rfl e
 have hnt : isT ts.tail [61] = false := hnt
 rw [hac] at hP2
 have hP2 : POk K s h2 p ts.tail d := hP2
 rw [if_neg (by rw [hnt]; decide)] at hn ⊢
 refine Tri.mono (accept_tri (r := (.ok ((), ts.tail, d) : R Unit)) hP2 [91]) ?_
 rintro _ h3 ⟨rfl, hc3, hP3⟩
 have hA3 : Away p h h3 := hA2.trans hc3.away
 refine ⟨_, rfl, br_split (fun e2 => ?_) (fun e2 => ?_)⟩
 · obtain ⟨x, ts2, d2, heq, hT, hac⟩ := accB_true e2
   cases heq
   rw [hac] at hP3
   rw [if_pos hT] at hn ⊢
   have he : (bindR (takeT [91] ts.tail d) fun _ ts' d => bindR (pBin f 1 ts' d) fun i ts' d => bindR (takeT [93] ts' d) fun _ ts' d => bindR (takeT [61] ts' d) fun _ ts' d =>
    bindR (pBin f 1 ts' d) fun e ts' d => bindR (takeT [59] ts' d) fun _ ts' d => (.ok (.mk 3 (hd ts).text [i, e] [] [] (hd ts).pos, ts', d) : R S)) =
    mapR (fun ie : E × E => .mk 3 (hd ts).text [ie.1, ie.2] [] [] (hd ts).pos) (thenR (pairR (thenR (thenR (bindR (takeT [91] ts.tail d) fun _ ts d => pBin f 1 ts d) fun ts d => takeT [93] ts d) fun ts d => takeT [61] ts d) fun ts d => pBin f 1 ts d) fun ts d => takeT [59] ts d) := by
     simp only [mapR, thenR, pairR, bindR_bind, bindR_ok]
   rw [he] at hn ⊢
   have n1 := hn.map.then.bind
   have n2 := n1.bind
   refine ⟨rfl, ?_⟩
   refine Tri.mono (expr_tri (xok f hf) _ h3 hP3 n2.then.bind.bind) ?_
   rintro _ h4 ⟨c, rfl, hA4, hx4⟩
   refine ⟨_, _, _, _, _, _, _, _, _, _, rfl, ?_⟩
   refine Tri.mono (take_tri hx4.ps [93]) ?_
   rintro _ h5 ⟨rfl, hc5, hP5⟩
   refine ⟨rfl, ?_⟩
   have hx5 := hx4.then (rel' := fun e => RE (plP s) 8 (only (New h) h5) e c.l) hP5 fun e he => he.ext ((only_new (hA3.dom hP3.mem)).trans (only_away hp0 hc5.away))
   refine Tri.mono (take_tri hx5.ps [61]) ?_
   rintro _ h6 ⟨rfl, hc6, hP6⟩
   refine ⟨rfl, ?_⟩
   have hx6 := hx5.then (rel' := fun e => RE (plP s) 8 (only (New h) h6) e c.l) hP6 fun e he => he.ext (only_away hp0 hc6.away)
   have hA6 : Away p h h6 := ((hA3.trans hA4).trans hc5.away).trans hc6.away
   refine Tri.mono (expr_tri (xok f hf) _ h6 hx6.ps n1.pair) ?_
   rintro _ h7 ⟨c2, rfl, hA7, hx7⟩
   refine ⟨_, _, _, _, _, _, _, _, _, _, rfl, rfl, ?_⟩
   intro b hb h8 hh
   have hx8 := (hx6.pair (rel3 := fun ie => RE (plP s) 8 (only (New h) h7) ie.1 c.l ∧ RE (plP s) 8 (only (New h) h7) ie.2 c2.l) hx7 fun x y hx hy => ⟨hx.ext (only_away hp0 hA7), hy.ext (only_new (hA6.dom hx6.ps.mem))⟩)
   refine Tri.mono (take_tri (hx8.ps.ext (Put.ext hh hb)) [59]) ?_
   rintro _ h9 ⟨rfl, hc9, hP9⟩
   have hb0 : h b = none := (hA6.trans hA7).dom hx7.ps.mem b hb
   have hbp : b ≠ p := fun e => by subst e; exact hp0 hb0
   have hA79 : Away p h7 h9 := (Put.ext hh hb).away.trans hc9.away
   have hbk : only (New h) h9 b = some (.cells ⟨c.l ++ c2.l⟩ 48 (0, 0)) := only_some.2 ⟨hb0, (hc9 b hbp).trans (Put.at hh)⟩
   have hx9 := hx8.then (rel' := fun ie => RE (plP s) 8 (only (New h) h9) ie.1 c.l ∧ RE (plP s) 8 (only (New h) h9) ie.2 c2.l) hP9 fun ie hie => ⟨hie.1.ext (only_away hp0 hA79), hie.2.ext (only_away hp0 hA79)⟩
   exact ⟨rfl, ⟨3, (hd ts).text, ad b 0, 2, 2, none, 0, 0, none, 0, 0, _, _⟩, rfl, (hA6.trans hA7).trans hA79, hx9.map fun ie hie => RS_mk 3 _ _ 2 0 0 (At.two rfl hbk hie.1 hie.2) At.nil At.nil⟩
 · generalize hr3 : accR (.ok ((), ts.tail, d) : R Unit) [91] = r3 at *
   have he : (if isT ts.tail [91] then bindR (takeT [91] ts.tail d) fun _ ts' d => bindR (pBin f 1 ts' d) fun i ts' d => bindR (takeT [93] ts' d) fun _ ts' d => bindR (takeT [61] ts' d) fun _ ts' d =>
    bindR (pBin f 1 ts' d) fun e ts' d => bindR (takeT [59] ts' d) fun _ ts' d => (.ok (.mk 3 (hd ts).text [i, e] [] [] (hd ts).pos, ts', d) : R S)
    else bindR (pCall f (hd ts) ts.tail d) fun e ts' d => bindR (takeT [59] ts' d) fun _ ts' d => .ok (.mk 4 [] [e] [] [] (hd ts).pos, ts', d)) =
    mapR (fun e => .mk 4 [] [e] [] [] (hd ts).pos) (thenR (bindR r3 fun _ ts' d => pCall f (hd ts) ts' d) fun ts d => takeT [59] ts d) := by
     subst hr3
     cases h91 : isT ts.tail [91] with
     | true =>
       rcases accT rfl h91 (d := d) with ⟨_, h32, hac⟩ | ⟨h1, _⟩
       · rw [hac, if_pos rfl]; simp [takeT, h91, opens, h32, bindR_err, mapR, thenR]
       · rw [h1] at e2; cases e2
     | false =>
       have hac := (accB_false rfl e : _ ∧ _)
       have : accR (.ok ((), ts.tail, d) : R Unit) [91] = .ok ((), ts.tail, d) := by simp [accR, h91]
       rw [this, if_neg (by decide)]; simp only [mapR, thenR, bindR_bind, bindR_ok]
   rw [he] at hn ⊢
   refine Tri.mono ((xok f hf).call (hd ts) r3 h3 hP3 hn.map.then.bind) ?_
   rintro _ h4 ⟨c, rfl, hA4, hx4⟩
   refine ⟨_, _, _, _, _, _, _, _, _, _, rfl, ?_⟩
   intro b hb h5 hh
   refine Tri.mono (take_tri (hx4.ps.ext (Put.ext hh hb)) [59]) ?_
   rintro _ h6 ⟨rfl, hc6, hP6⟩
   have hb0 : h b = none := (hA3.trans hA4).dom hx4.ps.mem b hb
   have hbp : b ≠ p := fun e => by subst e; exact hp0 hb0
   have hA46 : Away p h4 h6 := (Put.ext hh hb).away.trans hc6.away
   have hbk : only (New h) h6 b = some (.cells ⟨c.l⟩ 48 (0, 0)) := only_some.2 ⟨hb0, (hc6 b hbp).trans (Put.at hh)⟩
   have hx6 := hx4.then (rel' := fun e => RE (plP s) 8 (only (New h) h6) e c.l) hP6 fun e he => he.ext ((only_new (hA3.dom hP3.mem)).trans (only_away hp0 hA46))
   exact ⟨rfl, ⟨4, [], ad b 0, 1, 1, none, 0, 0, none, 0, 0, _, _⟩, rfl, (hA3.trans hA4).trans hA46, hx6.map fun e he => RS_mk 4 _ _ 1 0 0 (At.one hbk he) At.nil At.nil⟩
structure SOk (K : PK) (s : Bytes) (p : Nat) (f : Nat) : Prop where
 blk : ∀ {α : Type} (r : R α) (h : PHeap), PS K s h p r → NF (bindR r fun _ ts d => pBlock f ts d) → Tri Tryz.prog 94 [vP p 0] h (PBk K s p h (bindR r fun _ ts d => pBlock f ts d))
 stm : ∀ {α : Type} (r : R α) (h : PHeap), PS K s h p r → NF (bindR r fun _ ts d => pStmt f ts d) → Tri Tryz.prog 141 [vP p 0] h (PSt K s p h (bindR r fun _ ts d => pStmt f ts d))
 iff : ∀ (ts : List Tok) (d : Int) (h : PHeap), POk K s h p ts d → (hd ts).kind ≠ 0 → NF (pIf f ts d) → Tri Tryz.prog 37 [vP p 0] h (PSt K s p h (pIf f ts d))
theorem while_tri {f : Nat} (hf : f ≤ 5000000) (X : SOk K s p f) {ts : List Tok} {d : Int} {h : PHeap} (hP : POk K s h p ts d) (hk : (hd ts).kind ≠ 0) (hn : NF (pWhile f ts d)) : Tri Tryz.prog 38 [vP p 0] h (PSt K s p h (pWhile f ts d)) := by
 refine T38 ?_
 unfold R38
 have hp0 : h p ≠ none := PS.mem (r := (.ok ((), ts, d) : R Unit)) hP
 have he : pWhile f ts d = mapR (fun eb : E × List S => .mk 6 [] [eb.1] eb.2 [] (hd ts).pos) (pairR (pCond f ts.tail d) fun ts d => pBlock f ts d) := by
  simp only [pWhile, mapR, pairR, bindR_bind, bindR_ok]
 rw [he] at hn ⊢
 refine Tri.mono (begin_tri hP hk 6) ?_
 rintro _ h1 ⟨rfl, hc1, hP1⟩
 refine ⟨_, _, _, _, _, _, _, _, _, _, _, _, _, rfl, ?_⟩
 refine Tri.mono (cond_tri hf (.ok ((), ts.tail, d) : R Unit) h1 hP1 hn.map.pair.bind) ?_
 rintro _ h2 ⟨a, c, rfl, hA2, hx2⟩
 refine ⟨_, _, _, rfl, ?_⟩
 rw [bindR_ok] at hx2
 refine Tri.mono (X.blk _ h2 hx2.ps hn.map.pair) ?_
 rintro _ h3 ⟨a3, n3, c3, rfl, hA3, hx3⟩
 refine ⟨_, _, _, rfl, ⟨6, [], a, 1, c, a3, n3, c3, none, 0, 0, _, _⟩, rfl, (hc1.away.trans hA2).trans hA3, ?_⟩
 have hA12 := hc1.away.trans hA2
 have hx := hx2.pair (rel3 := fun eb => At 8 (RE (plP s) 8) (only (New h) h3) a [eb.1] ∧ n3 = eb.2.length ∧ At 7 (RS (plP s) 8 7) (only (New h) h3) a3 eb.2) hx3 fun x y hx hy =>
  ⟨hx.ext (RE_mono _ _) ((only_new (hc1.away.dom (PS.mem (r := (.ok ((), ts.tail, d) : R Unit)) hP1))).trans (only_away hp0 hA3)), hy.1, hy.2.ext (RS_mono _ _ _) (only_new (hA12.dom hx2.ps.mem))⟩
 refine hx.map fun eb hh => ?_
 obtain ⟨g1, g2, g3⟩ := hh
 rw [g2]
 exact RS_mk 6 _ _ c c3 0 g1 g3 At.nil
theorem pIf_succ (f : Nat) (ts : List Tok) (d : Int) : pIf (f + 1) ts d = bindR (pCond f ts.tail d) fun e ts' d => bindR (pBlock f ts' d) fun b ts' d =>
 if isT ts' [101, 108, 115, 101] then
  if isT ts'.tail [105, 102] then bindR (pIf f ts'.tail d) fun s ts' d => .ok (.mk 5 [] [e] b [s] (hd ts).pos, ts', d)
  else bindR (pBlock f ts'.tail d) fun b' ts' d => .ok (.mk 5 [] [e] b b' (hd ts).pos, ts', d)
 else .ok (.mk 5 [] [e] b [] (hd ts).pos, ts', d) := by
 conv => lhs; unfold pIf
theorem takeT_else {ts : List Tok} {d : Int} (h : isT ts [101, 108, 115, 101] = true) : takeT [101, 108, 115, 101] ts d = .ok ((), ts.tail, d) := by
 simp [takeT, h, opens, closes]
theorem if_ok {f : Nat} (hf : f ≤ 5000000) (X : SOk K s p f) (ts : List Tok) (d : Int) (h : PHeap) (hP : POk K s h p ts d) (hk : (hd ts).kind ≠ 0) (hn : NF (pIf (f + 1) ts d)) : Tri Tryz.prog 37 [vP p 0] h (PSt K s p h (pIf (f + 1) ts d)) := by
 refine T37 ?_
 unfold R37
 have hp0 : h p ≠ none := PS.mem (r := (.ok ((), ts, d) : R Unit)) hP
 have he : pIf (f + 1) ts d = bindR (pairR (pCond f ts.tail d) fun ts d => pBlock f ts d) fun eb ts' d =>
  if isT ts' [101, 108, 115, 101] then
   if isT ts'.tail [105, 102] then bindR (pIf f ts'.tail d) fun s ts' d => .ok (.mk 5 [] [eb.1] eb.2 [s] (hd ts).pos, ts', d)
   else bindR (pBlock f ts'.tail d) fun b' ts' d => .ok (.mk 5 [] [eb.1] eb.2 b' (hd ts).pos, ts', d)
  else .ok (.mk 5 [] [eb.1] eb.2 [] (hd ts).pos, ts', d) := by
  rw [pIf_succ]; simp only [pairR, bindR_bind, bindR_ok]
 rw [he] at hn ⊢
 refine Tri.mono (begin_tri hP hk 5) ?_
 rintro _ h1 ⟨rfl, hc1, hP1⟩
 refine ⟨_, _, _, _, _, _, _, _, _, _, _, _, _, rfl, ?_⟩
 refine Tri.mono (cond_tri hf (.ok ((), ts.tail, d) : R Unit) h1 hP1 hn.bind.pair.bind) ?_
 rintro _ h2 ⟨a, c, rfl, hA2, hx2⟩
 refine ⟨_, _, _, rfl, ?_⟩
 rw [bindR_ok] at hx2
 refine Tri.mono (X.blk _ h2 hx2.ps hn.bind.pair) ?_
 rintro _ h3 ⟨a3, n3, c3, rfl, hA3, hx3⟩
 refine ⟨_, _, _, rfl, ?_⟩
 have hA12 := hc1.away.trans hA2
 have hA03 := hA12.trans hA3
 have hx := hx2.pair (rel3 := fun eb => At 8 (RE (plP s) 8) (only (New h) h3) a [eb.1] ∧ n3 = eb.2.length ∧ At 7 (RS (plP s) 8 7) (only (New h) h3) a3 eb.2) hx3 fun x y hx hy =>
  ⟨hx.ext (RE_mono _ _) ((only_new (hc1.away.dom (PS.mem (r := (.ok ((), ts.tail, d) : R Unit)) hP1))).trans (only_away hp0 hA3)), hy.1, hy.2.ext (RS_mono _ _ _) (only_new (hA12.dom hx2.ps.mem))⟩
 generalize (pairR (pCond f ts.tail d) fun ts d => pBlock f ts d) = r3 at *
 refine Tri.mono (accept_tri hx.ps [101, 108, 115, 101]) ?_
 rintro _ h4 ⟨rfl, hc4, hP4⟩
 refine ⟨_, rfl, br_split (fun e => ?_) (fun e => ?_)⟩
 · obtain ⟨⟨e1, b1⟩, ts4, d4, rfl, hT, hac⟩ := accB_true e
   rw [hac, takeT_else hT] at hP4
   rw [bindR_ok, if_pos hT] at hn ⊢
   obtain ⟨_, g1, g2, g3⟩ := hx
   have hA04 := hA03.trans hc4.away
   refine Tri.mono (is_tri (r := (.ok ((), ts4.tail, d4) : R Unit)) hP4 [105, 102]) ?_
   rintro _ h4 ⟨rfl, rfl⟩
   refine ⟨_, rfl, br_split (fun e2 => ?_) (fun e2 => ?_)⟩
   · have e2 : isT ts4.tail [105, 102] = true := e2
     rw [if_pos e2] at hn ⊢
     refine Tri.mono (X.iff ts4.tail d4 h4 hP4 (isT_kind e2) hn.bind) ?_
     rintro _ h5 ⟨c5, rfl, hA5, hx5⟩
     refine ⟨_, _, _, _, _, _, _, _, _, _, _, _, _, rfl, ?_⟩
     intro b hb h6 hh
     have hb0 : h b = none := (hA04.trans hA5).dom hx5.ps.mem b hb
     have hA46 : Away p h4 h6 := hA5.trans (Put.ext hh hb).away
     have hbk : only (New h) h6 b = some (.cells ⟨c5.l⟩ 56 (0, 0)) := only_some.2 ⟨hb0, Put.at hh⟩
     have hx6 := hx5.ext (rel' := fun x => RS (plP s) 8 7 (only (New h) h6) x c5.l) (Put.ext hh hb) fun x hx => hx.ext ((only_new (hA04.dom (PS.mem (r := (.ok ((), ts4.tail, d4) : R Unit)) hP4))).trans (only_away hp0 (Put.ext hh hb).away))
     refine ⟨⟨5, [], a, 1, c, a3, n3, c3, ad b 0, 1, 1, _, _⟩, rfl, hA04.trans hA46, hx6.map fun x hx => ?_⟩
     rw [g2]
     have hX := only_away hp0 (hc4.away.trans hA46)
     exact RS_mk 5 _ _ c c3 1 (g1.ext (RE_mono _ _) hX) (g3.ext (RS_mono _ _ _) hX) (At.one hbk hx)
   · have e2 : isT ts4.tail [105, 102] = false := e2
     rw [if_neg (by rw [e2]; decide)] at hn ⊢
     refine Tri.mono (X.blk (.ok ((), ts4.tail, d4) : R Unit) h4 hP4 hn.bind) ?_
     rintro _ h5 ⟨a5, n5, c5, rfl, hA5, hx5⟩
     refine ⟨_, _, _, rfl, ⟨5, [], a, 1, c, a3, n3, c3, a5, n5, c5, _, _⟩, rfl, hA04.trans hA5, hx5.map fun x hx => ?_⟩
     rw [g2, hx.1]
     have hX := only_away hp0 (hc4.away.trans hA5)
     exact RS_mk 5 _ _ c c3 c5 (g1.ext (RE_mono _ _) hX) (g3.ext (RS_mono _ _ _) hX) (hx.2.ext (RS_mono _ _ _) (only_new (hA04.dom (PS.mem (r := (.ok ((), ts4.tail, d4) : R Unit)) hP4))))
 · obtain ⟨hnt, hac⟩ := accB_false rfl e
   rw [hac] at hP4
   have he2 : (bindR r3 fun eb ts' d =>
    if isT ts' [101, 108, 115, 101] then
     if isT ts'.tail [105, 102] then bindR (pIf f ts'.tail d) fun s ts' d => (.ok (.mk 5 [] [eb.1] eb.2 [s] (hd ts).pos, ts', d) : R S)
     else bindR (pBlock f ts'.tail d) fun b' ts' d => .ok (.mk 5 [] [eb.1] eb.2 b' (hd ts).pos, ts', d)
    else .ok (.mk 5 [] [eb.1] eb.2 [] (hd ts).pos, ts', d)) = mapR (fun eb => .mk 5 [] [eb.1] eb.2 [] (hd ts).pos) r3 := by
    match r3, hnt with
    | .error x, _ => rfl
    | .ok (x, ts2, d2), hnt => rw [bindR_ok, if_neg (by rw [show isT ts2 [101, 108, 115, 101] = false from hnt]; decide)]; rfl
   rw [he2]
   refine ⟨⟨5, [], a, 1, c, a3, n3, c3, none, 0, 0, _, _⟩, rfl, hA03.trans hc4.away, ?_⟩
   have hX := only_away hp0 hc4.away
   have hx4 : PX K s h4 p r3 fun eb => At 8 (RE (plP s) 8) (only (New h) h4) a [eb.1] ∧ n3 = eb.2.length ∧ At 7 (RS (plP s) 8 7) (only (New h) h4) a3 eb.2 := by
    match r3, hx, hP4 with
    | .error x, _, hP4 => exact hP4
    | .ok (x, ts2, d2), hx, hP4 => exact ⟨hP4, hx.2.1.ext (RE_mono _ _) hX, hx.2.2.1, hx.2.2.2.ext (RS_mono _ _ _) hX⟩
   refine hx4.map fun eb hh => ?_
   rw [hh.2.1]
   exact RS_mk 5 _ _ c c3 0 hh.1 hh.2.2 At.nil
end
end Go.Proofs.D
namespace Go.Proofs.D
open Go Go.Den Go.Sx
set_option maxRecDepth 100000
attribute [local irreducible] IntKind.wrap Tri
section
variable {K : PK} {s : Bytes} {p : Nat}
theorem pStmts_succ (f : Nat) (l : List S) (ts : List Tok) (d : Int) : pStmts (f + 1) l ts d = if isT ts [125] then bindR (takeT [125] ts d) fun _ ts d => .ok (l, ts, d) else bindR (pStmt f ts d) fun s ts d => pStmts f (l ++ [s]) ts d := by
 conv => lhs; unfold pStmts
theorem pBlock_succ (f : Nat) (ts : List Tok) (d : Int) : pBlock (f + 1) ts d = bindR (takeT [123] ts d) fun _ ts d => pStmts f [] ts d := by
 conv => lhs; unfold pBlock
theorem SC.one (c : SC) : allOne c.l = true := rfl
theorem block_ok {f : Nat} (X : ∀ g, g ≤ f → SOk K s p g) (hf : f ≤ 5000000) {α : Type} (r : R α) (h : PHeap) (hP : PS K s h p r) (hn : NF (bindR r fun _ ts d => pBlock (f + 1) ts d)) : Tri Tryz.prog 94 [vP p 0] h (PBk K s p h (bindR r fun _ ts d => pBlock (f + 1) ts d)) := by
 refine T94 ?_
 unfold R94
 have hp0 := hP.mem
 have hI := hP.isin
 have he : (bindR r fun _ ts d => pBlock (f + 1) ts d) = bindR (bindR r fun _ ts d => takeT [123] ts d) fun _ ts d => pStmts f [] ts d := by
  simp only [bindR_bind, pBlock_succ]
 rw [he] at hn ⊢
 refine Tri.mono (take_tri hP [123]) ?_
 rintro _ h1 ⟨rfl, hc1, hP1⟩
 refine ⟨rfl, ?_⟩
 generalize (bindR r fun _ ts d => takeT [123] ts d) = r1 at *
 generalize hfin : (bindR r1 fun _ ts d => pStmts f [] ts d) = fin at *
 refine ⟨fun m a n cc h' => ∃ (r' : R (List S)) (css : List (List Value)), n + m ≤ f ∧ Away p h h' ∧ LM 56 7 h h' a n cc css ∧ PX K s h' p r' (fun l => LR (RS (plP s) 8 7) h h' a css l) ∧ (bindR r' fun l ts d => pStmts m l ts d) = fin,
  ⟨f, mapR (fun _ => []) r1, [], by omega, hc1.away, LM.nil, (PX.unit hP1).map fun _ _ => LR.nil, by rw [← hfin]; simp only [mapR, bindR_bind, bindR_ok]⟩, ?_⟩
 rintro m a n cc h2 ⟨r', css, hm, hA2, hM2, hx2, hf2⟩
 have done : ∀ {h3 : PHeap}, Chg p h2 h3 → PS K s h3 p (bindR r' fun _ ts d => takeT [125] ts d) → fin = thenR r' (fun ts d => takeT [125] ts d) → PBk K s p h fin (vL a n cc) h3 := by
  intro h3 hc3 hP3 he3
  rw [he3]
  refine ⟨a, n, cc, rfl, hA2.trans hc3.away, hx2.then hP3 fun l hl => ?_⟩
  exact ⟨by rw [← hM2.len]; exact hl.1, (hM2.away hp0 hc3.away).at (RS_mono _ _ _) (hl.away (RS_mono _ _ _) hp0 hc3.away)⟩
 obtain ⟨i, hi, hz⟩ := hx2.ps.err
 refine ⟨i, hi, br_split (fun e => ?_) (fun e => ?_)⟩
 · obtain ⟨l, ts, d, rfl⟩ := okR_true (hz.symm.trans e)
   rw [bindR_ok] at hf2
   refine Tri.mono (is_tri hx2.ps [125]) ?_
   rintro _ h2 ⟨rfl, rfl⟩
   match m, hf2, hm with
   | 0, hf2, hm => exact absurd hf2.symm hn
   | m + 1, hf2, hm =>
     rw [pStmts_succ] at hf2
     refine ⟨_, rfl, br_split (fun e2 => ?_) (fun e2 => ?_)⟩
     · have e2 : isT ts [125] = false := by simpa [isTr] using e2
       rw [if_neg (by rw [e2]; decide)] at hf2
       have hnS : NF (pStmt m ts d) := by rw [← hf2] at hn; exact hn.bind
       refine Tri.mono ((X m (by omega)).stm (.ok ((), ts, d) : R Unit) h2 hx2.1 hnS) ?_
       rintro _ h3 ⟨c3, rfl, hA3, hx3⟩
       refine ⟨_, _, _, _, _, _, _, _, _, _, _, _, _, rfl, ?_⟩
       intro b hb h4 hh4
       have hA03 := hA2.trans hA3
       have hd3 : ∀ b, h3 b = none → h b = none := hA03.dom hx3.ps.mem
       refine Raw.mono (LM.append (h0 := h) (cs := c3.l) und52 elem56 rfl rfl rfl rfl rfl (hM2.away hp0 hA3) hb hh4 rfl c3.one (by omega) hd3) ?_
       rintro _ h5 ⟨b5, cap5, rfl, hk5, hd5, hn5, hq5, hM5, hR5⟩
       refine ⟨_, _, _, rfl, m, by omega, ⟨mapR (fun x => l ++ [x]) (pStmt m ts d), _, by omega, fun k o hk ho => hk5 k o (by rw [ho]; exact fun e => by cases e) (hA03 k o hk ho), hM5, ?_, ?_⟩, trivial⟩
       · refine (hx3.stay (rel' := fun x => LR (RS (plP s) 8 7) h h5 (ad b5 0) (css ++ [c3.l]) (l ++ [x])) (hI.old hp0 hk5) fun x hx => ?_).map fun x hx => hx
         exact hR5 (RS_mono _ _ _) (hx2.2.away (RS_mono _ _ _) hp0 hA3) (hx.ext (hM2.new (hA2.dom (PS.mem (r := (.ok ((), ts, d) : R Unit)) hx2.1))))
       · rw [← hf2]; simp only [mapR, bindR_bind, bindR_ok]
     · have e2 : isT ts [125] = true := by simpa [isTr] using e2
       rw [if_pos e2] at hf2
       refine Tri.mono (take_tri hx2.ps [125]) ?_
       rintro _ h3 ⟨rfl, hc3, hP3⟩
       exact ⟨rfl, done hc3 hP3 (by rw [← hf2]; rfl)⟩
 · obtain ⟨x, rfl⟩ := okR_false (hz.symm.trans e)
   refine Tri.mono (take_tri hx2.ps [125]) ?_
   rintro _ h3 ⟨rfl, hc3, hP3⟩
   exact ⟨rfl, done hc3 hP3 hf2.symm⟩
def smapL (p q : Nat) : List (List UInt8 × Value × Nat) := [
 ([118, 97, 114], vF 36 [vP p 0] [], 0),
 ([105, 102], vF 37 [vP p 0] [], 1),
 ([119, 104, 105, 108, 101], vF 38 [vP p 0] [], 2),
 ([114, 101, 116, 117, 114, 110], vF 39 [vP p 0] [], 3),
 ([98, 114, 101, 97, 107], vF 40 [] [vP q 0], 4),
 ([99, 111, 110, 116, 105, 110, 117, 101], vF 42 [] [vP q 0], 5)]
theorem smap_ents (p q : Nat) : smap p q = ⟨ents (smapL p q)⟩ := rfl
theorem und79 : Tryz.prog.underlying 79 = some (.map 9 82) := rfl
theorem und9 : Tryz.prog.underlying 9 = some .string := rfl
theorem zero82 : zeroT Tryz.prog 82 = some .nilFunc := rfl
theorem pStmt_succ (f : Nat) (ts : List Tok) (d : Int) : pStmt (f + 1) ts d = if isK ts 1 then pNamed f ts d
 else if isT ts [118, 97, 114] then pDecl f ts d
 else if isT ts [105, 102] then pIf f ts d
 else if isT ts [119, 104, 105, 108, 101] then pWhile f ts d
 else if isT ts [114, 101, 116, 117, 114, 110] then pRet f ts d
 else if isT ts [98, 114, 101, 97, 107] then pWord 8 ts d
 else if isT ts [99, 111, 110, 116, 105, 110, 117, 101] then pWord 9 ts d
 else .error (30, (hd ts).pos) := by
 conv => lhs; unfold pStmt
 rfl
theorem smap_get (p q : Nat) (k : List UInt8) : mapGet (smapL p q) k = if k == [118, 97, 114] then some (vF 36 [vP p 0] []) else if k == [105, 102] then some (vF 37 [vP p 0] []) else if k == [119, 104, 105, 108, 101] then some (vF 38 [vP p 0] [])
 else if k == [114, 101, 116, 117, 114, 110] then some (vF 39 [vP p 0] []) else if k == [98, 114, 101, 97, 107] then some (vF 40 [] [vP q 0]) else if k == [99, 111, 110, 116, 105, 110, 117, 101] then some (vF 42 [] [vP q 0]) else none := by
 simp only [smapL, mapGet_cons]; rfl
theorem isT_key {ts : List Tok} (h4 : isK ts 4 = true) (t : Bytes) : isT ts t = ((hd ts).text == t) := by
 have : (hd ts).kind = 4 := by simpa [isK] using h4
 simp [isT, this]
theorem stmt_ok {f : Nat} (X : ∀ g, g ≤ f → SOk K s p g) (hf : f ≤ 5000000) {α : Type} (r : R α) (h : PHeap) (hP : PS K s h p r) (hn : NF (bindR r fun _ ts d => pStmt (f + 1) ts d)) : Tri Tryz.prog 141 [vP p 0] h (PSt K s p h (bindR r fun _ ts d => pStmt (f + 1) ts d)) := by
 refine T141 ?_
 unfold R141
 refine Tri.mono (isKind_tri hP 1) ?_
 rintro _ h ⟨rfl, rfl⟩
 have pass : ∀ {r' : R S} {v : Value} {h1 : PHeap}, PSt K s p h r' v h1 → ∃ (Kind2 : Int) (Name2 : List UInt8) (Argsa2 : Option Addr) (Argsn2 Argsc2 : Nat) (Bodya2 : Option Addr) (Bodyn2 Bodyc2 : Nat) (Elsea2 : Option Addr) (Elsen2 Elsec2 : Nat) (Line2 Column2 : Int), v = vA [vI Kind2, vS Name2, vL Argsa2 Argsn2 Argsc2, vL Bodya2 Bodyn2 Bodyc2, vL Elsea2 Elsen2 Elsec2, vI Line2, vI Column2] ∧
  PSt K s p h r' (vA [vI Kind2, vS Name2, vL Argsa2 Argsn2 Argsc2, vL Bodya2 Bodyn2 Bodyc2, vL Elsea2 Elsen2 Elsec2, vI Line2, vI Column2]) h1 := by
  rintro r' v h1 hE
  have hE' := hE
  obtain ⟨c, rfl, _⟩ := hE
  exact ⟨_, _, _, _, _, _, _, _, _, _, _, _, _, rfl, hE'⟩
 have bad : ∀ {h2 : PHeap}, PS K s h2 p (failR r 30 : R S) → Chg p h h2 → (bindR r fun _ ts d => pStmt (f + 1) ts d) = failR r 30 → PSt K s p h (bindR r fun _ ts d => pStmt (f + 1) ts d) (vA [vI 0, vS [], vL none 0 0, vL none 0 0, vL none 0 0, vI 0, vI 0]) h2 := by
  intro h2 hP2 hc2 he
  rw [he]
  refine ⟨⟨0, [], none, 0, 0, none, 0, 0, none, 0, 0, 0, 0⟩, rfl, hc2.away, ?_⟩
  match r, hP2 with
  | .error x, hP2 => exact hP2
  | .ok (x, ts, d), hP2 => exact hP2
 refine ⟨_, rfl, br_split (fun e => ?_) (fun e => ?_)⟩
 · obtain ⟨x, ts, d, rfl, k1⟩ := isKr_ok e
   have he : (bindR (.ok (x, ts, d) : R α) fun _ ts d => pStmt (f + 1) ts d) = pNamed f ts d := by rw [bindR_ok, pStmt_succ, if_pos k1]
   rw [he] at hn ⊢
   match f, hf, X, hn with
   | 0, _, _, hn => exact absurd (by unfold pNamed; rfl) hn
   | f + 1, hf, X, hn =>
     exact Tri.mono (named_ok (by omega) hP k1 hn) fun v h1 hE => pass hE
 refine Tri.mono (isKind_tri hP 4) ?_
 rintro _ h ⟨rfl, rfl⟩
 refine ⟨_, rfl, br_split (fun e2 => ?_) (fun e2 => ?_)⟩
 · obtain ⟨x, ts, d, rfl, k4⟩ := isKr_ok e2
   have k1 : isK ts 1 = false := e
   have hk : (hd ts).kind ≠ 0 := by simp [isK] at k4; omega
   obtain ⟨⟨o, c', l', k', hp, hT, hc, hM, hq⟩, hI, hend, hlo, hhi, hl2, hwf⟩ := id (show POk K s h p ts d from hP)
   refine ⟨_, PB_cell hp 2, _, _, _, PB_cell hp 0, K.tok, o, rfl, ⟨Int.le_refl _, len_pos hend⟩, _, (POk.row hT hend).2.1, ?_⟩
   rw [smap_ents] at hM
   refine Raw.mono (raw_lookupS und79 und9 zero82 rfl rfl hM) ?_
   rintro _ h ⟨rfl, rfl⟩
   refine ⟨_, _, rfl, PB_cell hp 0, ?_⟩
   rw [smap_get]
   have he : (bindR (.ok (x, ts, d) : R α) fun _ ts d => pStmt (f + 1) ts d) = if (hd ts).text == [118, 97, 114] then pDecl f ts d
    else if (hd ts).text == [105, 102] then pIf f ts d
    else if (hd ts).text == [119, 104, 105, 108, 101] then pWhile f ts d
    else if (hd ts).text == [114, 101, 116, 117, 114, 110] then pRet f ts d
    else if (hd ts).text == [98, 114, 101, 97, 107] then pWord 8 ts d
    else if (hd ts).text == [99, 111, 110, 116, 105, 110, 117, 101] then pWord 9 ts d
    else .error (30, (hd ts).pos) := by
    rw [bindR_ok, pStmt_succ, if_neg (by rw [k1]; decide), isT_key k4, isT_key k4, isT_key k4, isT_key k4, isT_key k4, isT_key k4]
   cases t1 : (hd ts).text == [118, 97, 114] with
   | true =>
     simp only [t1, Bool.false_eq_true, if_true, if_false] at he hn ⊢
     rw [he] at hn ⊢
     refine br_pos rfl ⟨36, [vP p 0], [], rfl, ?_⟩
     exact Tri.mono (decl_tri hf hP hk hn) fun v h1 hE => pass hE
   | false =>
   cases t2 : (hd ts).text == [105, 102] with
   | true =>
     simp only [t1, t2, Bool.false_eq_true, if_true, if_false] at he hn ⊢
     rw [he] at hn ⊢
     refine br_pos rfl ⟨37, [vP p 0], [], rfl, ?_⟩
     exact Tri.mono ((X f (Nat.le_refl _)).iff ts d h hP hk hn) fun v h1 hE => pass hE
   | false =>
   cases t3 : (hd ts).text == [119, 104, 105, 108, 101] with
   | true =>
     simp only [t1, t2, t3, Bool.false_eq_true, if_true, if_false] at he hn ⊢
     rw [he] at hn ⊢
     refine br_pos rfl ⟨38, [vP p 0], [], rfl, ?_⟩
     exact Tri.mono (while_tri hf (X f (Nat.le_refl _)) hP hk hn) fun v h1 hE => pass hE
   | false =>
   cases t4 : (hd ts).text == [114, 101, 116, 117, 114, 110] with
   | true =>
     simp only [t1, t2, t3, t4, Bool.false_eq_true, if_true, if_false] at he hn ⊢
     rw [he] at hn ⊢
     refine br_pos rfl ⟨39, [vP p 0], [], rfl, ?_⟩
     exact Tri.mono (ret_tri hf hP hk hn) fun v h1 hE => pass hE
   | false =>
   cases t5 : (hd ts).text == [98, 114, 101, 97, 107] with
   | true =>
     simp only [t1, t2, t3, t4, t5, Bool.false_eq_true, if_true, if_false] at he hn ⊢
     rw [he] at hn ⊢
     refine br_pos rfl ⟨40, [], [vP K.box 0], rfl, ?_⟩
     exact Tri.mono (word8_tri hP hk) fun v h1 hE => pass hE
   | false =>
   cases t6 : (hd ts).text == [99, 111, 110, 116, 105, 110, 117, 101] with
   | true =>
     simp only [t1, t2, t3, t4, t5, t6, Bool.false_eq_true, if_true, if_false] at he hn ⊢
     rw [he] at hn ⊢
     refine br_pos rfl ⟨42, [], [vP K.box 0], rfl, ?_⟩
     exact Tri.mono (word9_tri hP hk) fun v h1 hE => pass hE
   | false =>
     simp only [t1, t2, t3, t4, t5, t6, Bool.false_eq_true, if_false] at he ⊢
     refine br_neg rfl ?_
     refine Tri.mono (fail_tri (β := S) hP 30 (by decide)) ?_
     rintro _ h2 ⟨rfl, hc2, hP2⟩
     exact ⟨rfl, bad hP2 hc2 he⟩
 · refine Tri.mono (fail_tri (β := S) hP 30 (by decide)) ?_
   rintro _ h2 ⟨rfl, hc2, hP2⟩
   refine ⟨rfl, bad hP2 hc2 ?_⟩
   match r, e, e2, hP with
   | .error x, _, _, _ => rfl
   | .ok (x, ts, d), e, e2, hP0 =>
     have k1 : isK ts 1 = false := e
     have k4 : isK ts 4 = false := e2
     have hwf : (hd ts).kind = 5 → words.contains (hd ts).text = false := POk.wf hP0 _ (by rw [(POk.ended hP0).cons]; exact List.mem_cons_self)
     have hT : ∀ t : Bytes, words.contains t = true → ¬ isT ts t = true := fun t ht hi => by
      have k4 : ((hd ts).kind == 4) = false := k4
      simp only [isT, k4, Bool.false_or, Bool.and_eq_true, beq_iff_eq] at hi
      have := hwf hi.1
      rw [hi.2, ht] at this; cases this
     rw [bindR_ok, pStmt_succ, if_neg (by rw [k1]; decide), if_neg (hT _ rfl), if_neg (hT _ rfl), if_neg (hT _ rfl), if_neg (hT _ rfl), if_neg (hT _ rfl), if_neg (hT _ rfl)]
     rfl
theorem block_err {e : Nat × Nat} {h : PHeap} (hP : PErr K s h p e) : Tri Tryz.prog 94 [vP p 0] h (PBk K s p h (.error e)) := by
 refine T94 ?_
 unfold R94
 refine Tri.mono (take_tri (r := (.error e : R Unit)) hP [123]) ?_
 rintro _ h1 ⟨rfl, hc1, hP1⟩
 refine ⟨rfl, fun m a n cc h' => h' = h1, ⟨0, rfl⟩, ?_⟩
 rintro m a n cc h1 rfl
 obtain ⟨i, hi, hz⟩ := hP1.err
 refine ⟨i, hi, br_neg hz ?_⟩
 refine Tri.mono (take_tri hP1 [125]) ?_
 rintro _ h3 ⟨rfl, hc3, hP3⟩
 exact ⟨rfl, a, n, cc, rfl, hc1.away.trans hc3.away, hP3⟩
theorem stmt_err {e : Nat × Nat} {h : PHeap} (hP : PErr K s h p e) : Tri Tryz.prog 141 [vP p 0] h (PSt K s p h (.error e)) := by
 refine T141 ?_
 unfold R141
 refine Tri.mono (isKind_tri (r := (.error e : R Unit)) hP 1) ?_
 rintro _ h ⟨rfl, rfl⟩
 refine ⟨_, rfl, br_neg rfl ?_⟩
 refine Tri.mono (isKind_tri (r := (.error e : R Unit)) hP 4) ?_
 rintro _ h ⟨rfl, rfl⟩
 refine ⟨_, rfl, br_neg rfl ?_⟩
 refine Tri.mono (fail_tri (β := S) (r := (.error e : R Unit)) hP 30 (by decide)) ?_
 rintro _ h2 ⟨rfl, hc2, hP2⟩
 exact ⟨rfl, ⟨0, [], none, 0, 0, none, 0, 0, none, 0, 0, 0, 0⟩, rfl, hc2.away, hP2⟩
theorem sok (f : Nat) (hf : f ≤ 5000000) : SOk K s p f := by
 induction f using Nat.strongRecOn with
 | _ f ih =>
   match f, ih, hf with
   | 0, _, _ =>
     refine ⟨fun r h hP hn => ?_, fun r h hP hn => ?_, fun ts d h hP h1 hn => ?_⟩
     · obtain ⟨e, rfl⟩ := fuel_err (fun _ _ _ => by unfold pBlock; rfl) hn
       exact block_err hP
     · obtain ⟨e, rfl⟩ := fuel_err (fun _ _ _ => by unfold pStmt; rfl) hn
       exact stmt_err hP
     · exact absurd (by unfold pIf; rfl) hn
   | f + 1, ih, hf =>
     have X : ∀ g, g ≤ f → SOk K s p g := fun g hg => ih g (by omega) (by omega)
     exact ⟨fun r h hP hn => block_ok X (by omega) r h hP hn, fun r h hP hn => stmt_ok X (by omega) r h hP hn, fun ts d h hP hk hn => if_ok (by omega) (X f (Nat.le_refl _)) ts d h hP hk hn⟩
end
end Go.Proofs.D
namespace Go.Proofs.D
open Go Go.Den Go.Sx
set_option maxRecDepth 100000
attribute [local irreducible] IntKind.wrap Tri
def RG (pl : Nat → List Value) (_ : PHeap) (g : G) (cs : List Value) : Prop := cs = [vS g.name, vI g.size, vI g.value] ++ pl g.pos
def RStr (_ : PHeap) (l : Bytes) (cs : List Value) : Prop := cs = [vS l]
def RF (pl : Nat → List Value) (we ws : Nat) (h : PHeap) (f : F) (cs : List Value) : Prop :=
 ∃ a ac b bc, cs = [vS f.name, vL a f.params.length ac, vL b f.body.length bc] ++ pl f.pos ∧ At 1 RStr h a f.params ∧ At ws (RS pl we ws) h b f.body ∧ okN a f.params.length ac
theorem RG_mono (pl : Nat → List Value) : Mono (RG pl) := ⟨fun _ h => h⟩
theorem RStr_mono : Mono RStr := ⟨fun _ h => h⟩
theorem RF_mono (pl : Nat → List Value) (we ws : Nat) : Mono (RF pl we ws) := ⟨fun x ⟨a, ac, b, bc, h1, h2, h3, h4⟩ => ⟨a, ac, b, bc, h1, h2.ext RStr_mono x, h3.ext (RS_mono _ _ _) x, h4⟩⟩
structure GC where
 name : List UInt8
 size : Int
 value : Int
 line : Int
 column : Int
def GC.l (c : GC) : List Value := [vS c.name, vI c.size, vI c.value, vI c.line, vI c.column]
structure FC where
 name : List UInt8
 pa : Option Addr
 pn : Nat
 pc : Nat
 ba : Option Addr
 bn : Nat
 bc : Nat
 line : Int
 column : Int
def FC.l (c : FC) : List Value := [vS c.name, vL c.pa c.pn c.pc, vL c.ba c.bn c.bc, vI c.line, vI c.column]
theorem GC.one (c : GC) : allOne c.l = true := rfl
theorem FC.one (c : FC) : allOne c.l = true := rfl
section
variable {K : PK} {s : Bytes} {p : Nat}
theorem global_tri {α : Type} (r : R α) (h : PHeap) (hP : PS K s h p r) : Tri Tryz.prog 45 [vP p 0] h fun v h' => ∃ c : GC, v = vA c.l ∧ Chg p h h' ∧ PX K s h' p (bindR r fun _ ts d => pGlobal ts d) fun g => RG (plP s) h' g c.l := by
 refine T45 ?_
 unfold R45
 refine Tri.mono (take_tri hP [118, 97, 114]) ?_
 rintro _ h1 ⟨rfl, hc1, hP1⟩
 refine ⟨rfl, ?_⟩
 refine Tri.mono (takeKind_tri hP1 1 (by decide)) ?_
 rintro _ h2 ⟨t, rfl, hc2, hx2⟩
 refine ⟨_, _, _, _, _, _, rfl, ?_⟩
 have he : (bindR r fun _ ts d => pGlobal ts d) = bindR (bindR (bindR r fun _ ts d => takeT [118, 97, 114] ts d) fun _ ts d => takeK 1 ts d) fun t ts d =>
  if isT ts [61] then bindR (takeT [61] ts d) fun _ ts d => bindR (takeK 2 ts d) fun n ts d => bindR (takeT [59] ts d) fun _ ts d => .ok (⟨t.text, 0, n.value, t.pos⟩, ts, d)
  else if isT ts [91] then bindR (takeT [91] ts d) fun _ ts d => bindR (takeK 2 ts d) fun n ts d => bindR (takeT [93] ts d) fun _ ts d => bindR (takeT [59] ts d) fun _ ts d => .ok (⟨t.text, n.value, 0, t.pos⟩, ts, d)
  else bindR (takeT [59] ts d) fun _ ts d => .ok (⟨t.text, 0, 0, t.pos⟩, ts, d) := by
   simp only [bindR_bind, pGlobal]
 rw [he]
 clear he
 generalize (bindR (bindR r fun _ ts d => takeT [118, 97, 114] ts d) fun _ ts d => takeK 1 ts d) = r2 at *
 have hc02 := hc1.trans hc2
 refine Tri.mono (accept_tri hx2.ps [61]) ?_
 rintro _ h3 ⟨rfl, hc3, hP3⟩
 have hc03 := hc02.trans hc3
 refine ⟨_, rfl, br_split (fun e => ?_) (fun e => ?_)⟩
 · obtain ⟨x, ts2, d2, rfl, hT, hac⟩ := accB_true e
   rw [hac] at hP3
   obtain ⟨_, rfl⟩ := hx2
   rw [bindR_ok, if_pos hT]
   refine Tri.mono (takeKind_tri hP3 2 (by decide)) ?_
   rintro _ h4 ⟨t4, rfl, hc4, hx4⟩
   refine ⟨_, _, _, _, _, _, rfl, ?_⟩
   refine Tri.mono (take_tri hx4.ps [59]) ?_
   rintro _ h5 ⟨rfl, hc5, hP5⟩
   have he : (bindR (takeT [61] ts2 d2) fun _ ts d => bindR (takeK 2 ts d) fun n ts d => bindR (takeT [59] ts d) fun _ ts d => (.ok (⟨x.text, 0, n.value, x.pos⟩, ts, d) : R G)) =
    mapR (fun n => ⟨x.text, 0, n.value, x.pos⟩) (thenR (bindR (takeT [61] ts2 d2) fun _ ts d => takeK 2 ts d) fun ts d => takeT [59] ts d) := by simp only [mapR, thenR, bindR_bind, bindR_ok]
   rw [he]
   refine ⟨rfl, ⟨x.text, 0, t4.value, _, _⟩, rfl, (hc03.trans hc4).trans hc5, (hx4.then hP5 fun _ h => h).map fun n hn => ?_⟩
   subst hn; rfl
 obtain ⟨hnt, hac⟩ := accB_false rfl e
 rw [hac] at hP3
 have hx3 : PX K s h3 p r2 fun x => t = TC.of s x := by
  match r2, hP3, hx2 with
  | .error e, hP3, hx2 => exact hP3
  | .ok (x, ts, d), hP3, hx2 => exact ⟨hP3, hx2.2⟩
 refine Tri.mono (accept_tri hx3.ps [91]) ?_
 rintro _ h4 ⟨rfl, hc4, hP4⟩
 have hc04 := hc03.trans hc4
 refine ⟨_, rfl, br_split (fun e2 => ?_) (fun e2 => ?_)⟩
 · obtain ⟨x, ts2, d2, rfl, hT, hac⟩ := accB_true e2
   rw [hac] at hP4
   obtain ⟨_, rfl⟩ := hx2
   rw [bindR_ok, if_neg (by rw [show isT ts2 [61] = false from hnt]; decide), if_pos hT]
   refine Tri.mono (takeKind_tri hP4 2 (by decide)) ?_
   rintro _ h5 ⟨t5, rfl, hc5, hx5⟩
   refine ⟨_, _, _, _, _, _, rfl, ?_⟩
   refine Tri.mono (take_tri hx5.ps [93]) ?_
   rintro _ h6 ⟨rfl, hc6, hP6⟩
   refine ⟨rfl, ?_⟩
   have hx6 := hx5.then (rel' := fun x => t5 = TC.of s x) hP6 fun _ h => h
   refine Tri.mono (take_tri hx6.ps [59]) ?_
   rintro _ h7 ⟨rfl, hc7, hP7⟩
   have he : (bindR (takeT [91] ts2 d2) fun _ ts d => bindR (takeK 2 ts d) fun n ts d => bindR (takeT [93] ts d) fun _ ts d => bindR (takeT [59] ts d) fun _ ts d => (.ok (⟨x.text, n.value, 0, x.pos⟩, ts, d) : R G)) =
    mapR (fun n => ⟨x.text, n.value, 0, x.pos⟩) (thenR (thenR (bindR (takeT [91] ts2 d2) fun _ ts d => takeK 2 ts d) fun ts d => takeT [93] ts d) fun ts d => takeT [59] ts d) := by simp only [mapR, thenR, bindR_bind, bindR_ok]
   rw [he]
   refine ⟨rfl, ⟨x.text, t5.value, 0, _, _⟩, rfl, ((hc04.trans hc5).trans hc6).trans hc7, (hx6.then hP7 fun _ h => h).map fun n hn => ?_⟩
   subst hn; rfl
 · refine Tri.mono (take_tri hP4 [59]) ?_
   rintro _ h5 ⟨rfl, hc5, hP5⟩
   refine ⟨rfl, ⟨t.text, 0, 0, t.line, t.column⟩, rfl, hc04.trans hc5, ?_⟩
   match r2, hP5, hnt, hx2, e2 with
   | .error x, hP5, _, _, _ => exact hP5
   | .ok (x, ts2, d2), hP5, hnt, hx2, e2 =>
     obtain ⟨_, rfl⟩ := hx2
     rw [bindR_ok, if_neg (by rw [show isT ts2 [61] = false from hnt]; decide)]
     cases h91 : isT ts2 [91] with
     | true =>
       have h32 : d2 = 32 := by simpa [accB, h91, opens] using e2
       have hac : accR (.ok (x, ts2, d2) : R Tok) [91] = .error (9, (hd ts2).pos) := by simp [accR, h91, takeT, opens, h32]
       rw [hac] at hP5
       rw [if_pos rfl, show takeT [91] ts2 d2 = .error (9, (hd ts2).pos) by simp [h91, takeT, opens, h32]]
       exact hP5
     | false =>
       have hac : accR (.ok (x, ts2, d2) : R Tok) [91] = .ok ((), ts2, d2) := by simp [accR, h91]
       rw [hac, bindR_ok] at hP5
       rw [if_neg (by decide)]
       have hx : PX K s h5 p (takeT [59] ts2 d2) fun _ => True := PX.unit hP5
       exact hx.map (k := fun _ => (⟨x.text, 0, 0, x.pos⟩ : G)) fun _ _ => rfl
theorem pMoreP_succ (f : Nat) (l : List Bytes) (ts : List Tok) (d : Int) : pMoreP (f + 1) l ts d = if isT ts [44] then bindR (takeT [44] ts d) fun _ ts d => bindR (takeK 1 ts d) fun t ts d => pMoreP f (l ++ [t.text]) ts d else .ok (l, ts, d) := rfl
theorem func_tri {f : Nat} (hf : f ≤ 4000000) {α : Type} (r : R α) (h : PHeap) (hP : PS K s h p r) (hn : NF (bindR r fun _ ts d => pFunc f ts d)) : Tri Tryz.prog 46 [vP p 0] h fun v h' => ∃ c : FC, v = vA c.l ∧ Away p h h' ∧ PX K s h' p (bindR r fun _ ts d => pFunc f ts d) fun g => RF (plP s) 8 7 (only (New h) h') g c.l := by
 refine T46 ?_
 unfold R46
 have hp0 := hP.mem
 have hI := hP.isin
 refine Tri.mono (take_tri hP [102, 117, 110, 99]) ?_
 rintro _ h1 ⟨rfl, hc1, hP1⟩
 refine ⟨rfl, ?_⟩
 refine Tri.mono (takeKind_tri hP1 1 (by decide)) ?_
 rintro _ h2 ⟨t, rfl, hc2, hx2⟩
 refine ⟨_, _, _, _, _, _, rfl, ?_⟩
 refine Tri.mono (take_tri hx2.ps [40]) ?_
 rintro _ h3 ⟨rfl, hc3, hP3⟩
 refine ⟨rfl, ?_⟩
 have hx3 := hx2.then (rel' := fun x => t = TC.of s x) hP3 fun _ h => h
 have he : (bindR r fun _ ts d => pFunc f ts d) = mapR (fun x : (Tok × List Bytes) × List S => (⟨x.1.1.text, x.1.2, x.2, x.1.1.pos⟩ : F))
  (pairR (thenR (pairR (thenR (bindR (bindR r fun _ ts d => takeT [102, 117, 110, 99] ts d) fun _ ts d => takeK 1 ts d) fun ts d => takeT [40] ts d) fun ts d => pParams f ts d) fun ts d => takeT [41] ts d) fun ts d => pBlock f ts d) := by
  simp only [mapR, pairR, thenR, bindR_bind, bindR_ok, pFunc]
 rw [he] at hn ⊢
 clear he
 generalize (thenR (bindR (bindR r fun _ ts d => takeT [102, 117, 110, 99] ts d) fun _ ts d => takeK 1 ts d) fun ts d => takeT [40] ts d) = r3 at *
 have hA3 : Away p h h3 := (hc1.away.trans hc2.away).trans hc3.away
 have n1 := hn.map.pair.bind.bind
 have n2 : NF (bindR r3 fun _ ts d => pParams f ts d) := n1.pair
 have fine : ∀ {h4 : PHeap} {a : Option Addr} {n c : Nat}, okN a n c → Away p h h4 → PX K s h4 p (bindR r3 fun _ ts d => pParams f ts d) (fun ps => n = ps.length ∧ At 1 RStr (only (New h) h4) a ps) →
  Tri Tryz.prog 92 [vP p 0, vS [41]] h4 fun v_10 h_13 => v_10 = vT [] ∧ Tri Tryz.prog 94 [vP p 0] h_13 fun v_11 h_14 => ∃ (sa3 : Option Addr) (sn3 sc3 : Nat), v_11 = vL sa3 sn3 sc3 ∧
   ∃ c' : FC, vA [vS t.text, vL a n c, vL sa3 sn3 sc3, vI t.line, vI t.column] = vA c'.l ∧ Away p h h_14 ∧ PX K s h_14 p (mapR (fun x : (Tok × List Bytes) × List S => (⟨x.1.1.text, x.1.2, x.2, x.1.1.pos⟩ : F)) (pairR (thenR (pairR r3 fun ts d => pParams f ts d) fun ts d => takeT [41] ts d) fun ts d => pBlock f ts d)) fun g => RF (plP s) 8 7 (only (New h) h_14) g c'.l := by
  intro h4 a n c hok hA4 hx4
  have hx4' := hx3.pair (rel3 := fun x => t = TC.of s x.1 ∧ n = x.2.length ∧ At 1 RStr (only (New h) h4) a x.2) hx4 fun x y hx hy => ⟨hx, hy⟩
  refine Tri.mono (take_tri hx4'.ps [41]) ?_
  rintro _ h5 ⟨rfl, hc5, hP5⟩
  refine ⟨rfl, ?_⟩
  have hx5 := hx4'.then (rel' := fun x => t = TC.of s x.1 ∧ n = x.2.length ∧ At 1 RStr (only (New h) h5) a x.2) hP5 fun x hx => ⟨hx.1, hx.2.1, hx.2.2.ext RStr_mono (only_away hp0 hc5.away)⟩
  refine Tri.mono ((sok f (by omega)).blk _ h5 hx5.ps hn.map.pair) ?_
  rintro _ h6 ⟨a6, n6, c6, rfl, hA6, hx6⟩
  refine ⟨_, _, _, rfl, ⟨t.text, a, n, c, a6, n6, c6, t.line, t.column⟩, rfl, (hA4.trans hc5.away).trans hA6, ?_⟩
  refine (hx5.pair (rel3 := fun x => (t = TC.of s x.1.1 ∧ n = x.1.2.length ∧ At 1 RStr (only (New h) h6) a x.1.2) ∧ n6 = x.2.length ∧ At 7 (RS (plP s) 8 7) (only (New h) h6) a6 x.2) hx6 fun x y hx hy =>
   ⟨⟨hx.1, hx.2.1, hx.2.2.ext RStr_mono (only_away hp0 hA6)⟩, hy.1, hy.2.ext (RS_mono _ _ _) (only_new ((hA4.trans hc5.away).dom hx5.ps.mem))⟩).map fun x hx => ?_
  obtain ⟨⟨g1, g2, g3⟩, g4, g5⟩ := hx
  subst g1; subst g2; subst g4
  exact ⟨a, c, a6, c6, rfl, g3, g5, hok⟩
 refine Tri.mono (is_tri hx3.ps [41]) ?_
 rintro _ h3 ⟨rfl, rfl⟩
 refine ⟨_, rfl, br_split (fun e => ?_) (fun e => ?_)⟩
 · refine Tri.mono (takeKind_tri hx3.ps 1 (by decide)) ?_
   rintro _ h4 ⟨t4, rfl, hc4, hx4⟩
   refine ⟨_, _, _, _, _, _, rfl, rfl, ?_⟩
   intro b hb h5 hh5
   refine ⟨rfl, ?_⟩
   have hA4 := hA3.trans hc4.away
   have hd4 : ∀ b, h4 b = none → h b = none := hA4.dom hx4.ps.mem
   refine Raw.mono (LM.append (h0 := h) (cs := [vS t4.text]) und51 elem9 rfl rfl rfl rfl rfl LM.nil hb hh5 rfl rfl (by omega) hd4) ?_
   rintro _ h6 ⟨b6, cap6, rfl, hk6, hd6, hn6, hq6, hM6, hR6⟩
   refine ⟨_, _, _, rfl, ?_⟩
   have hA6 : Away p h h6 := fun k o hk ho => hk6 k o (by rw [ho]; exact fun e => by cases e) (hA4 k o hk ho)
   have hfin : (bindR r3 fun _ ts d => pParams f ts d) = bindR (mapR (fun t => [t.text]) (bindR r3 fun _ ts d => takeK 1 ts d)) fun l ts d => pMoreP f l ts d := by
    match r3, e with
    | .error x, _ => rfl
    | .ok (x, ts, d), e =>
      have e : isT ts [41] = false := by simpa [isTr] using e
      simp only [bindR_ok, mapR, bindR_bind, pParams, e]; rfl
   generalize hfe : (bindR r3 fun _ ts d => pParams f ts d) = fin at *
   have hx6 := (hx4.stay (rel' := fun x => LR RStr h h6 (ad b6 0) [[vS t4.text]] [x.text]) (hI.old hp0 hk6) fun x hx => hR6 RStr_mono LR.nil (by subst hx; rfl)).map (k := fun t => [t.text]) (rel' := fun l => LR RStr h h6 (ad b6 0) [[vS t4.text]] l) fun x hx => hx
   refine ⟨fun m nm a n cc ba bn bc ln cl h' => (nm = t.text ∧ ba = none ∧ bn = 0 ∧ bc = 0 ∧ ln = t.line ∧ cl = t.column) ∧ ∃ (r' : R (List Bytes)) (css : List (List Value)), n + m ≤ f + 1 ∧ Away p h h' ∧ LM 9 1 h h' a n cc css ∧ PX K s h' p r' (fun l => LR RStr h h' a css l) ∧ (bindR r' fun l ts d => pMoreP m l ts d) = fin,
    ⟨f, ⟨rfl, rfl, rfl, rfl, rfl, rfl⟩, _, _, by omega, hA6, hM6, hx6, hfin.symm⟩, ?_⟩
   rintro m _ a n cc _ _ _ _ _ h7 ⟨⟨rfl, rfl, rfl, rfl, rfl, rfl⟩, r', css, hm, hA7, hM7, hx7, hf7⟩
   refine Tri.mono (accept_tri hx7.ps [44]) ?_
   rintro _ h8 ⟨rfl, hc8, hP8⟩
   refine ⟨_, rfl, br_split (fun e3 => ?_) (fun e3 => ?_)⟩
   · obtain ⟨l, ts, d, rfl, hT, hac⟩ := accB_true e3
     rw [hac] at hP8
     rw [bindR_ok] at hf7
     match m, hf7, hm with
     | 0, hf7, hm => exact absurd hf7.symm n2
     | m + 1, hf7, hm =>
       rw [pMoreP_succ, if_pos hT, ← bindR_bind] at hf7
       refine Tri.mono (takeKind_tri hP8 1 (by decide)) ?_
       rintro _ h9 ⟨t9, rfl, hc9, hx9⟩
       refine ⟨_, _, _, _, _, _, rfl, rfl, ?_⟩
       intro b10 hb10 h10 hh10
       refine ⟨rfl, ?_⟩
       have hA79 : Away p h7 h9 := hc8.away.trans hc9.away
       have hA09 : Away p h h9 := hA7.trans hA79
       have hd9 : ∀ b, h9 b = none → h b = none := hA09.dom hx9.ps.mem
       refine Raw.mono (LM.append (h0 := h) (cs := [vS t9.text]) und51 elem9 rfl rfl rfl rfl rfl (hM7.away hp0 hA79) hb10 hh10 rfl rfl (by omega) hd9) ?_
       rintro _ h11 ⟨b11, cap11, rfl, hk11, hd11, hn11, hq11, hM11, hR11⟩
       refine ⟨_, _, _, rfl, m, by omega, ⟨⟨rfl, rfl, rfl, rfl, rfl, rfl⟩, mapR (fun t => l ++ [t.text]) (bindR (takeT [44] ts d) fun _ ts d => takeK 1 ts d), _, by omega, fun k o hk ho => hk11 k o (by rw [ho]; exact fun e => by cases e) (hA09 k o hk ho), hM11, ?_, ?_⟩, rfl, rfl, trivial⟩
       · refine (hx9.stay (rel' := fun x => LR RStr h h11 (ad b11 0) (css ++ [[vS t9.text]]) (l ++ [x.text])) (hI.old hp0 hk11) fun x hx => ?_).map fun x hx => hx
         exact hR11 RStr_mono (hx7.2.away RStr_mono hp0 hA79) (by subst hx; rfl)
       · rw [← hf7]; simp only [mapR, bindR_bind, bindR_ok]
   · obtain ⟨hnt, hac⟩ := accB_false rfl e3
     rw [hac] at hP8
     have hfr : fin = r' := by
      match r', hf7, hnt with
      | .error x, hf7, _ => exact hf7.symm
      | .ok (es, ts, d), hf7, hnt =>
        rw [bindR_ok] at hf7
        match m, hf7 with
        | 0, hf7 => exact absurd hf7.symm n2
        | m + 1, hf7 => rw [← hf7, pMoreP_succ, if_neg (by rw [show isT ts [44] = false from hnt]; decide)]
     have hx8 : PX K s h8 p fin fun l => n = l.length ∧ At 1 RStr (only (New h) h8) a l := by
      rw [hfr]
      match r', hx7, hP8 with
      | .error x, _, hP8 => exact hP8
      | .ok (l, ts, d), hx7, hP8 => exact ⟨hP8, by rw [← hM7.len]; exact hx7.2.1, (hM7.away hp0 hc8.away).at RStr_mono (hx7.2.away RStr_mono hp0 hc8.away)⟩
     exact fine hM7.okN (hA7.trans hc8.away) hx8
 · refine fine ⟨Nat.le_refl _, fun _ => ⟨rfl, rfl⟩⟩ hA3 ?_
   match r3, e, hx3 with
   | .error x, e, _ => simp [isTr] at e
   | .ok (x, ts, d), e, hx3 =>
     have e : isT ts [41] = true := by simpa [isTr] using e
     simp only [bindR_ok, pParams, e]
     exact ⟨hx3.1, rfl, At.nil⟩
end
end Go.Proofs.D
namespace Go.Sx
def FN {α : Type} (k n : Nat) (r : R α) : Prop := (∀ i, r ≠ .error (0, i)) ∧ ∀ x ts d, r = .ok (x, ts, d) → ts.length + k ≤ n
theorem FN.bind {α β : Type} {k k' n : Nat} {r : R α} {g : α → List Tok → Int → R β} (h : FN k n r) (hg : ∀ x ts d, ts.length + k ≤ n → FN k' n (g x ts d)) : FN k' n (bindR r g) := by
 match r, h with
 | .error e, h => exact ⟨fun i hi => h.1 i (by injection hi with hi; rw [hi]), fun x ts d hx => by cases hx⟩
 | .ok (x, ts, d), h => exact hg x ts d (h.2 x ts d rfl)
theorem FN.ok {α : Type} {k n : Nat} {x : α} {ts : List Tok} {d : Int} (h : ts.length + k ≤ n) : FN k n (.ok (x, ts, d) : R α) :=
 ⟨(fun i hi => by cases hi), fun x ts d hx => by cases hx; exact h⟩
theorem FN.err {α : Type} {k n e i : Nat} (h : e ≠ 0) : FN k n (.error (e, i) : R α) :=
 ⟨fun j hj => by injection hj with hj; injection hj with hj; exact h hj, fun x ts d hx => by cases hx⟩
theorem FN.up {α : Type} {k n k' n' : Nat} {r : R α} (h : FN k n r) (hk : n + k' ≤ n' + k) : FN k' n' r :=
 ⟨h.1, fun x ts d hx => by have := h.2 x ts d hx; omega⟩
theorem isK_ne {ts : List Tok} {k : Nat} (hk : k ≠ 0) (h : isK ts k = true) : ts.tail.length + 1 = ts.length := by
 cases ts with
 | nil => simp [isK, hd] at h; omega
 | cons t ts => simp
theorem isT_ne {ts : List Tok} {t : Bytes} (h : isT ts t = true) : ts.tail.length + 1 = ts.length := by
 cases ts with
 | nil => simp [isT, hd] at h
 | cons t ts => simp
theorem takeT_fn (t : Bytes) (ts : List Tok) (d : Int) : FN 1 ts.length (takeT t ts d) := by
 unfold takeT
 split
 · exact FN.err (by decide)
 · rename_i h
   have h : isT ts t = true := by simpa using h
   have := isT_ne h
   split
   · split
     · exact FN.err (by decide)
     · exact FN.ok (by omega)
   · split
     · exact FN.ok (by omega)
     · exact FN.ok (by omega)
theorem takeK_fn (k : Nat) (hk : k ≠ 0) (ts : List Tok) (d : Int) : FN 1 ts.length (takeK k ts d) := by
 unfold takeK
 split
 · rename_i h
   have := isK_ne hk h
   exact FN.ok (by omega)
 · exact FN.err (by decide)
structure FX (f : Nat) : Prop where
 bin : ∀ lv ts d, 1 ≤ lv → lv ≤ 11 → 20 * ts.length + 15 - lv ≤ f → FN 1 ts.length (pBin f lv ts d)
 loop : ∀ lv e ts d, 1 ≤ lv → lv ≤ 10 → 20 * ts.length + 1 ≤ f → FN 0 ts.length (pLoop f lv e ts d)
 un : ∀ ts d, 20 * ts.length + 3 ≤ f → FN 1 ts.length (pUn f ts d)
 prim : ∀ ts d, 20 * ts.length + 2 ≤ f → FN 1 ts.length (pPrim f ts d)
 name : ∀ ts d, isK ts 1 = true → 20 * ts.length + 1 ≤ f → FN 1 ts.length (pName f ts d)
 call : ∀ t ts d, 20 * ts.length + 1 ≤ f → FN 1 ts.length (pCall f t ts d)
 args : ∀ ts d, 20 * ts.length + 15 ≤ f → FN 0 ts.length (pArgs f ts d)
 more : ∀ l ts d, 20 * ts.length + 1 ≤ f → FN 0 ts.length (pMore f l ts d)
theorem fx : ∀ f, FX f
 | 0 => ⟨fun lv ts d _ _ h => by omega, fun lv e ts d _ _ h => by omega, fun ts d h => by omega, fun ts d h => by omega, fun ts d _ h => by omega, fun t ts d h => by omega, fun ts d h => by omega, fun l ts d h => by omega⟩
 | f + 1 => by
   have X := fx f
   refine ⟨fun lv ts d h1 h2 h => ?_, fun lv e ts d h1 h2 h => ?_, fun ts d h => ?_, fun ts d h => ?_, fun ts d hk h => ?_, fun t ts d h => ?_, fun ts d h => ?_, fun l ts d h => ?_⟩
   · unfold pBin
     split
     · exact (X.un ts d (by omega)).up (by omega)
     · exact (X.bin (lv + 1) ts d (by omega) (by omega) (by omega)).bind fun e ts' d' hl => (X.loop lv e ts' d' (by omega) (by omega) (by omega)).up (by omega)
   · unfold pLoop
     split
     · rename_i hc
       simp only [Bool.and_eq_true] at hc
       have := isK_ne (by decide) hc.1
       exact ((X.bin (lv + 1) ts.tail d (by omega) (by omega) (by omega)).up (k' := 2) (n' := ts.length) (by omega)).bind fun e' ts' d' hl => (X.loop lv _ ts' d' (by omega) (by omega) (by omega)).up (by omega)
     · exact FN.ok (by omega)
   · unfold pUn
     split
     · rename_i hc
       have : ts.tail.length + 1 = ts.length := by
        simp only [Bool.or_eq_true] at hc
        rcases hc with (hc | hc) | hc <;> exact isT_ne hc
       exact ((X.un ts.tail d (by omega)).up (k' := 2) (n' := ts.length) (by omega)).bind fun e' ts' d' hl => FN.ok (by omega)
     · exact (X.prim ts d (by omega)).up (by omega)
   · unfold pPrim
     split
     · rename_i hc; have := isK_ne (by decide) hc; exact FN.ok (by omega)
     split
     · rename_i hc; have := isK_ne (by decide) hc; exact FN.ok (by omega)
     split
     · rename_i hc; exact (X.name ts d hc (by omega)).up (by omega)
     exact (takeT_fn _ ts d).bind fun _ ts1 d1 l1 => ((X.bin 1 ts1 d1 (by omega) (by omega) (by omega)).up (k' := 2) (n' := ts.length) (by omega)).bind fun e ts2 d2 l2 => ((takeT_fn _ ts2 d2).up (k' := 3) (n' := ts.length) (by omega)).bind fun _ ts3 d3 l3 => FN.ok (by omega)
   · unfold pName
     have := isK_ne (by decide) hk
     split
     · exact (X.call _ ts.tail d (by omega)).up (by omega)
     split
     · exact ((takeT_fn _ ts.tail d).up (k' := 2) (n' := ts.length) (by omega)).bind fun _ ts1 d1 l1 => ((X.bin 1 ts1 d1 (by omega) (by omega) (by omega)).up (k' := 2) (n' := ts.length) (by omega)).bind fun e ts2 d2 l2 => ((takeT_fn _ ts2 d2).up (k' := 3) (n' := ts.length) (by omega)).bind fun _ ts3 d3 l3 => FN.ok (by omega)
     · exact FN.ok (by omega)
   · unfold pCall
     exact (takeT_fn _ ts d).bind fun _ ts1 d1 l1 => ((X.args ts1 d1 (by omega)).up (k' := 1) (n' := ts.length) (by omega)).bind fun e ts2 d2 l2 => ((takeT_fn _ ts2 d2).up (k' := 2) (n' := ts.length) (by omega)).bind fun _ ts3 d3 l3 => FN.ok (by omega)
   · unfold pArgs
     split
     · exact FN.ok (by omega)
     · exact (X.bin 1 ts d (by omega) (by omega) (by omega)).bind fun e ts' d' hl => (X.more _ ts' d' (by omega)).up (by omega)
   · unfold pMore
     split
     · exact (takeT_fn _ ts d).bind fun _ ts1 d1 l1 => ((X.bin 1 ts1 d1 (by omega) (by omega) (by omega)).up (k' := 2) (n' := ts.length) (by omega)).bind fun e ts' d' hl => (X.more _ ts' d' (by omega)).up (by omega)
     · exact FN.ok (by omega)
theorem pCond_fn {f : Nat} {ts : List Tok} {d : Int} (h : 20 * ts.length ≤ f) : FN 1 ts.length (pCond f ts d) := by
 unfold pCond
 exact (takeT_fn _ ts d).bind fun _ ts1 d1 l1 => (((fx f).bin 1 ts1 d1 (by omega) (by omega) (by omega)).up (k' := 2) (n' := ts.length) (by omega)).bind fun e ts2 d2 l2 => ((takeT_fn _ ts2 d2).up (k' := 3) (n' := ts.length) (by omega)).bind fun _ ts3 d3 l3 => FN.ok (by omega)
structure FS (f : Nat) : Prop where
 block : ∀ ts d, 20 * ts.length + 1 ≤ f → FN 1 ts.length (pBlock f ts d)
 stmts : ∀ l ts d, 20 * ts.length + 3 ≤ f → FN 1 ts.length (pStmts f l ts d)
 stmt : ∀ ts d, 20 * ts.length + 2 ≤ f → FN 1 ts.length (pStmt f ts d)
 ifs : ∀ ts d, ts.tail.length + 1 = ts.length → 20 * ts.length + 1 ≤ f → FN 1 ts.length (pIf f ts d)
 named : ∀ ts d, ts.tail.length + 1 = ts.length → 20 * ts.length + 1 ≤ f → FN 1 ts.length (pNamed f ts d)
theorem fs : ∀ f, FS f
 | 0 => ⟨fun ts d h => by omega, fun l ts d h => by omega, fun ts d h => by omega, fun ts d _ h => by omega, fun ts d _ h => by omega⟩
 | f + 1 => by
   have X := fs f
   have Y := fx f
   have bin : ∀ (ts : List Tok) (d : Int) (n : Nat), ts.length + 1 ≤ n → 20 * n ≤ f + 1 → FN 2 n (pBin f 1 ts d) := fun ts d n h1 h2 => (Y.bin 1 ts d (by omega) (by omega) (by omega)).up (by omega)
   have tk : ∀ (t : Bytes) (ts : List Tok) (d : Int) (k n : Nat), ts.length + k ≤ n → FN (k + 1) n (takeT t ts d) := fun t ts d k n h => (takeT_fn t ts d).up (by omega)
   refine ⟨fun ts d h => ?_, fun l ts d h => ?_, fun ts d h => ?_, fun ts d hk h => ?_, fun ts d hk h => ?_⟩
   · unfold pBlock
     exact (takeT_fn _ ts d).bind fun _ ts1 d1 l1 => (X.stmts _ ts1 d1 (by omega)).up (by omega)
   · unfold pStmts
     split
     · exact (takeT_fn _ ts d).bind fun _ ts1 d1 l1 => FN.ok (by omega)
     · exact (X.stmt ts d (by omega)).bind fun s ts1 d1 l1 => (X.stmts _ ts1 d1 (by omega)).up (by omega)
   · unfold pStmt
     split
     · rename_i hc; exact (X.named ts d (isK_ne (by decide) hc) (by omega)).up (by omega)
     split
     · rename_i hc
       have hl := isT_ne hc
       refine FN.bind ((takeK_fn 1 (by decide) ts.tail d).up (k' := 2) (n' := ts.length) (by omega)) fun t ts1 d1 l1 => ?_
       split
       · exact (tk _ ts1 d1 1 ts.length (by omega)).bind fun _ ts2 d2 l2 => (bin ts2 d2 ts.length (by omega) (by omega)).bind fun e ts3 d3 l3 => (tk _ ts3 d3 1 ts.length (by omega)).bind fun _ ts4 d4 l4 => FN.ok (by omega)
       · exact (tk _ ts1 d1 1 ts.length (by omega)).bind fun _ ts2 d2 l2 => FN.ok (by omega)
     split
     · rename_i hc; exact (X.ifs ts d (isT_ne hc) (by omega)).up (by omega)
     split
     · rename_i hc
       have hl := isT_ne hc
       exact ((pCond_fn (f := f) (ts := ts.tail) (d := d) (by omega)).up (k' := 2) (n' := ts.length) (by omega)).bind fun e ts1 d1 l1 => ((X.block ts1 d1 (by omega)).up (k' := 2) (n' := ts.length) (by omega)).bind fun b ts2 d2 l2 => FN.ok (by omega)
     split
     · rename_i hc
       have hl := isT_ne hc
       split
       · exact (tk _ ts.tail d 1 ts.length (by omega)).bind fun _ ts2 d2 l2 => FN.ok (by omega)
       · exact (bin ts.tail d ts.length (by omega) (by omega)).bind fun e ts3 d3 l3 => (tk _ ts3 d3 1 ts.length (by omega)).bind fun _ ts4 d4 l4 => FN.ok (by omega)
     split
     · rename_i hc
       have hl := isT_ne hc
       exact (tk _ ts.tail d 1 ts.length (by omega)).bind fun _ ts2 d2 l2 => FN.ok (by omega)
     split
     · rename_i hc
       have hl := isT_ne hc
       exact (tk _ ts.tail d 1 ts.length (by omega)).bind fun _ ts2 d2 l2 => FN.ok (by omega)
     · exact FN.err (by decide)
   · unfold pIf
     refine FN.bind ((pCond_fn (f := f) (ts := ts.tail) (d := d) (by omega)).up (k' := 2) (n' := ts.length) (by omega)) fun e ts1 d1 l1 => ?_
     refine FN.bind ((X.block ts1 d1 (by omega)).up (k' := 2) (n' := ts.length) (by omega)) fun b ts2 d2 l2 => ?_
     split
     · rename_i hc
       have hl := isT_ne hc
       split
       · rename_i hc2
         exact ((X.ifs ts2.tail d2 (isT_ne hc2) (by omega)).up (k' := 2) (n' := ts.length) (by omega)).bind fun b ts2 d2 l2 => FN.ok (by omega)
       · exact ((X.block ts2.tail d2 (by omega)).up (k' := 2) (n' := ts.length) (by omega)).bind fun b ts2 d2 l2 => FN.ok (by omega)
     · exact FN.ok (by omega)
   · rw [pNamed]
     split
     · exact (tk _ ts.tail d 1 ts.length (by omega)).bind fun _ ts2 d2 l2 => (bin ts2 d2 ts.length (by omega) (by omega)).bind fun e ts3 d3 l3 => (tk _ ts3 d3 1 ts.length (by omega)).bind fun _ ts4 d4 l4 => FN.ok (by omega)
     split
     · exact (tk _ ts.tail d 1 ts.length (by omega)).bind fun _ ts2 d2 l2 => (bin ts2 d2 ts.length (by omega) (by omega)).bind fun e ts3 d3 l3 => (tk _ ts3 d3 1 ts.length (by omega)).bind fun _ ts4 d4 l4 =>
        (tk _ ts4 d4 1 ts.length (by omega)).bind fun _ ts5 d5 l5 => (bin ts5 d5 ts.length (by omega) (by omega)).bind fun e ts6 d6 l6 => (tk _ ts6 d6 1 ts.length (by omega)).bind fun _ ts7 d7 l7 => FN.ok (by omega)
     · exact ((Y.call _ ts.tail d (by omega)).up (k' := 2) (n' := ts.length) (by omega)).bind fun e ts3 d3 l3 => (tk _ ts3 d3 1 ts.length (by omega)).bind fun _ ts4 d4 l4 => FN.ok (by omega)
theorem pGlobal_fn (ts : List Tok) (d : Int) : FN 1 ts.length (pGlobal ts d) := by
 have tk : ∀ (t : Bytes) (ts : List Tok) (d : Int) (n : Nat), ts.length + 1 ≤ n → FN 1 n (takeT t ts d) := fun t ts d n h => (takeT_fn t ts d).up (by omega)
 have tkk : ∀ (k : Nat) (_ : k ≠ 0) (ts : List Tok) (d : Int) (n : Nat), ts.length + 1 ≤ n → FN 1 n (takeK k ts d) := fun k hk ts d n h => (takeK_fn k hk ts d).up (by omega)
 unfold pGlobal
 refine FN.bind (takeT_fn _ ts d) fun _ ts1 d1 l1 => ?_
 refine FN.bind (tkk 1 (by decide) ts1 d1 ts.length l1) fun t ts2 d2 l2 => ?_
 split
 · exact (tk _ ts2 d2 ts.length l2).bind fun _ ts3 d3 l3 => (tkk 2 (by decide) ts3 d3 ts.length l3).bind fun _ ts4 d4 l4 => (tk _ ts4 d4 ts.length l4).bind fun _ ts5 d5 l5 => FN.ok l5
 split
 · exact (tk _ ts2 d2 ts.length l2).bind fun _ ts3 d3 l3 => (tkk 2 (by decide) ts3 d3 ts.length l3).bind fun _ ts4 d4 l4 => (tk _ ts4 d4 ts.length l4).bind fun _ ts5 d5 l5 => (tk _ ts5 d5 ts.length l5).bind fun _ ts6 d6 l6 => FN.ok l6
 · exact (tk _ ts2 d2 ts.length l2).bind fun _ ts3 d3 l3 => FN.ok l3
theorem pMoreP_fn : ∀ (f : Nat) (l : List Bytes) (ts : List Tok) (d : Int), ts.length + 1 ≤ f → FN 0 ts.length (pMoreP f l ts d)
 | 0, _, _, _, h => by omega
 | f + 1, l, ts, d, h => by
   unfold pMoreP
   split
   · exact (takeT_fn _ ts d).bind fun _ ts1 d1 l1 => ((takeK_fn 1 (by decide) ts1 d1).up (k' := 1) (n' := ts.length) (by omega)).bind fun t ts2 d2 l2 => (pMoreP_fn f _ ts2 d2 (by omega)).up (by omega)
   · exact FN.ok (by omega)
theorem pFunc_fn {f : Nat} {ts : List Tok} {d : Int} (h : 20 * ts.length + 2 ≤ f) : FN 1 ts.length (pFunc f ts d) := by
 have tk : ∀ (t : Bytes) (ts : List Tok) (d : Int) (n : Nat), ts.length + 1 ≤ n → FN 1 n (takeT t ts d) := fun t ts d n h => (takeT_fn t ts d).up (by omega)
 have tkk : ∀ (k : Nat) (_ : k ≠ 0) (ts : List Tok) (d : Int) (n : Nat), ts.length + 1 ≤ n → FN 1 n (takeK k ts d) := fun k hk ts d n h => (takeK_fn k hk ts d).up (by omega)
 unfold pFunc
 refine FN.bind (takeT_fn _ ts d) fun _ ts1 d1 l1 => ?_
 refine FN.bind (tkk 1 (by decide) ts1 d1 ts.length l1) fun t ts2 d2 l2 => ?_
 refine FN.bind (tk _ ts2 d2 ts.length l2) fun t ts3 d3 l3 => ?_
 refine FN.bind (k := 1) (n := ts.length) ?_ fun ps ts4 d4 l4 => ?_
 · unfold pParams
   split
   · exact FN.ok l3
   · exact (tkk 1 (by decide) ts3 d3 ts.length l3).bind fun t ts5 d5 l5 => (pMoreP_fn f _ ts5 d5 (by omega)).up (by omega)
 · refine FN.bind (tk _ ts4 d4 ts.length l4) fun t ts5 d5 l5 => ?_
   exact (((fs f).block ts5 d5 (by omega)).up (k' := 1) (n' := ts.length) (by omega)).bind fun b ts6 d6 l6 => FN.ok l6
theorem pProg_fn : ∀ (f : Nat) (p : Pg) (ts : List Tok) (d : Int), 20 * ts.length + 10 ≤ f → FN 0 ts.length (pProg f p ts d)
 | 0, _, _, _, h => by omega
 | f + 1, p, ts, d, h => by
   unfold pProg
   split
   · exact FN.ok (by omega)
   split
   · exact (pGlobal_fn ts d).bind fun g ts1 d1 l1 => (pProg_fn f _ ts1 d1 (by omega)).up (by omega)
   · exact (pFunc_fn (f := f) (by omega)).bind fun g ts1 d1 l1 => (pProg_fn f _ ts1 d1 (by omega)).up (by omega)
end Go.Sx
namespace Go.Proofs.D
open Go Go.Den Go.Sx
set_option maxRecDepth 100000
attribute [local irreducible] IntKind.wrap Tri marks words oneS
section
variable {e k : Nat} {h0 h h' : PHeap} {a : Option Addr} {n c : Nat} {css : List (List Value)}
theorem LM.keep (hk : ∀ b, a = ad b 0 → h' b = h b) (hL : LM e k h0 h a n c css) : LM e k h0 h' a n c css := by
 obtain ⟨h2, h3, h4, h5, h6⟩ := hL
 exact ⟨fun b hb => ⟨(h2 b hb).1, by rw [hk b hb]; exact (h2 b hb).2⟩, h3, h4, Own.keep hk h5, h6⟩
theorem append_apart {h2 : PHeap} {b : Nat} {cs : List Value}
 (hR : ∀ {α : Type} {rel : PHeap → α → List Value → Prop} {xs : List α} {v : α}, Mono rel → LR rel h0 h a css xs → rel (only (fun b => New h0 b ∧ a ≠ ad b 0) h) v cs → LR rel h0 h2 (ad b 0) (css ++ [cs]) (xs ++ [v])) :
 ∀ q o, New h0 q → a ≠ ad q 0 → h q = some o → ad b 0 ≠ ad q 0 ∧ h2 q = some o := by
 intro q o h1 h3 h4
 have hq : only (fun b => New h0 b ∧ a ≠ ad b 0) h q = some o := only_some.2 ⟨⟨h1, h3⟩, h4⟩
 have := hR (α := Unit) (rel := fun H _ _ => H q = some o) (xs := List.replicate css.length ()) (v := ()) ⟨fun x hh => x _ _ hh⟩ ⟨by simp, fun j x cs _ _ => hq⟩ hq
 have h5 := this.2 css.length () cs (by simp) (by simp)
 have h6 := only_some.1 h5
 exact ⟨h6.1.2, h6.2⟩
end
def EL {α : Type} (rel : PHeap → α → List Value → Prop) (h0 h : PHeap) (a a' : Option Addr) (css : List (List Value)) (xs : List α) : Prop :=
 css.length = xs.length ∧ ∀ (j : Nat) (x : α) (cs : List Value), xs[j]? = some x → css[j]? = some cs → rel (only (fun b => New h0 b ∧ a ≠ ad b 0 ∧ a' ≠ ad b 0) h) x cs
theorem EL.nil {α : Type} {rel : PHeap → α → List Value → Prop} {h0 h : PHeap} {a a' : Option Addr} : EL rel h0 h a a' [] ([] : List α) := ⟨rfl, fun j x cs hx => by simp at hx⟩
theorem EL.mono {α : Type} {rel : PHeap → α → List Value → Prop} (hm : Mono rel) {h0 h h' : PHeap} {a a' b b' : Option Addr} {css : List (List Value)} {xs : List α} (hE : EL rel h0 h a a' css xs)
 (hx : ∀ q o, New h0 q → a ≠ ad q 0 → a' ≠ ad q 0 → h q = some o → b ≠ ad q 0 ∧ b' ≠ ad q 0 ∧ h' q = some o) : EL rel h0 h' b b' css xs :=
 ⟨hE.1, fun j x cs h1 h2 => hm.ap (only_ext fun q o hq ho => let ⟨g1, g2, g3⟩ := hx q o hq.1 hq.2.1 hq.2.2 ho; ⟨⟨hq.1, g1, g2⟩, g3⟩) (hE.2 j x cs h1 h2)⟩
theorem EL.snoc {α : Type} {rel : PHeap → α → List Value → Prop} {h0 h : PHeap} {a a' : Option Addr} {css : List (List Value)} {xs : List α} {x : α} {cs : List Value} (hE : EL rel h0 h a a' css xs)
 (hx : rel (only (fun b => New h0 b ∧ a ≠ ad b 0 ∧ a' ≠ ad b 0) h) x cs) : EL rel h0 h a a' (css ++ [cs]) (xs ++ [x]) := by
 refine ⟨by simp [hE.1], fun j y ds h1 h2 => ?_⟩
 by_cases hj : j < xs.length
 · rw [List.getElem?_append_left hj] at h1
   rw [List.getElem?_append_left (by rw [hE.1]; exact hj)] at h2
   exact hE.2 j y ds h1 h2
 · have : j = xs.length := by
    have := (List.getElem?_eq_some_iff.1 h1).1
    simp at this; omega
   subst this
   have e1 : y = x := by simpa using h1.symm
   have e2 : ds = cs := by rw [← hE.1] at h2; simpa using h2.symm
   subst e1; subst e2; exact hx
theorem EL.lr {α : Type} {rel : PHeap → α → List Value → Prop} (hm : Mono rel) {h0 h : PHeap} {a a' : Option Addr} {css : List (List Value)} {xs : List α} (hE : EL rel h0 h a a' css xs) : LR rel h0 h a css xs :=
 ⟨hE.1, fun j x cs h1 h2 => hm.ap (only_ext fun q o hq ho => ⟨⟨hq.1, hq.2.1⟩, ho⟩) (hE.2 j x cs h1 h2)⟩
theorem pProg_succ (f : Nat) (p : Pg) (ts : List Tok) (d : Int) : pProg (f + 1) p ts d = if isK ts 0 then .ok (p, ts, d)
 else if isT ts [118, 97, 114] then bindR (pGlobal ts d) fun g ts d => pProg f ⟨p.globals ++ [g], p.funcs⟩ ts d
 else bindR (pFunc f ts d) fun g ts d => pProg f ⟨p.globals, p.funcs ++ [g]⟩ ts d := rfl
def ParseP (s : Bytes) (h : PHeap) (v : Value) (h' : PHeap) : Prop :=
 Ext h h' ∧ match parseS s with
  | .error e => v = vT [vA [vL none 0 0, vL none 0 0], vI (place s e.2).1, vI (place s e.2).2, vI e.1]
  | .ok p => ∃ ga gc fa fc, v = vT [vA [vL ga p.globals.length gc, vL fa p.funcs.length fc], vI 0, vI 0, vI 0] ∧ At 5 (RG (plP s)) (only (New h) h') ga p.globals ∧ At 5 (RF (plP s) 8 7) (only (New h) h') fa p.funcs
def outP : R Pg → Except (Nat × Nat) Pg
 | .error e => .error e
 | .ok (p, _, _) => .ok p
theorem scanS_ok (s : Bytes) : (∀ e, scanS s = .error e → e.1 ≠ 0) ∧ ∀ ts, scanS s = .ok ts → Ended ts ∧ ts.length ≤ 4097 ∧ ∀ t ∈ ts, t.kind = 5 → words.contains t.text = false := by
 unfold scanS
 split
 · exact ⟨fun e h => by cases h; exact (by decide : (5 : Nat) ≠ 0), fun ts h => by cases h⟩
 · have := scanL_ok (s.length + 1) 0 s 0 (by omega) (by omega)
   exact ⟨this.1, fun ts h => let ⟨a, b, c⟩ := this.2 ts h; ⟨a, by omega, c⟩⟩
theorem ne_of {h : PHeap} {b : Nat} {o : Obj} (hb : h b = some o) : h b ≠ none := by rw [hb]; exact fun e => by cases e
theorem parse_tri (s : Bytes) (h : PHeap) (ht : L.EscTab h) : Tri Tryz.prog 14 [vS s] h (ParseP s h) := by
 refine T14 ?_
 unfold R14
 refine Tri.mono (scan_tri s h ht) ?_
 rintro v h1 ⟨hx1, hv⟩
 have hso := scanS_ok s
 cases hsc : scanS s with
 | error e =>
   rw [hsc] at hv
   have he := hso.1 e hsc
   refine ⟨_, _, _, _, _, _, hv, br_pos ?_ ⟨hx1, ?_⟩⟩
   · have : (e.1 : Int) ≠ 0 := by omega
     simpa using this
   · simp only [parseS, hsc]
 | ok ts =>
   rw [hsc] at hv
   obtain ⟨tb, tc, rfl, htb, htn, hT, htc⟩ := hv
   obtain ⟨hend, hlen, hwf⟩ := hso.2 ts hsc
   refine ⟨_, _, _, _, _, _, rfl, br_neg rfl ?_⟩
   intro b1 hb1 h2 hh2 b2 hb2 h3 hh3
   have hx2 : Ext h1 h2 := Put.ext hh2 hb1
   have hx3 : Ext h2 h3 := Put.ext hh3 hb2
   refine ⟨_, _, _, Put.at hh3, ⟨by simp, Nat.zero_le _⟩, ?_⟩
   intro h4 hh4
   have hc4 : Chg b2 h3 h4 := Put.chg hh4
   have hq4 : h4 b2 = some (.cells ⟨[vP b1 0]⟩ 78 (0, 0)) := Put.at hh4
   have hb12 : b1 ≠ b2 := fun e => by subst e; rw [Put.at hh2] at hb2; cases hb2
   have hp4 : h4 b1 = some (.cells ⟨[vL (ad tb 0) ts.length tc, vI 0, .map none, vI 0, vI 0, vI 0]⟩ 81 (0, 0)) := by
    rw [hc4 b1 hb12]; exact hx3 _ _ (Put.at hh2)
   have hx4 : Ext h1 h4 := fun k o hk => by
    have hk2 : k ≠ b2 := fun e => by subst e; rw [hx2 _ _ hk] at hb2; cases hb2
    rw [hc4 k hk2]; exact hx3 _ _ (hx2 _ _ hk)
   clear hh2 hh3 hh4 hc4 hx2 hx3 hb2 h2 h3
   refine ⟨b1, 0, cell_of hq4 0, ?_⟩
   refine raw_makeMap fun m1 hm1 => ⟨m1, rfl, ?_⟩
   have hmb1 : m1 ≠ b1 := fun e => by subst e; rw [hp4] at hm1; cases hm1
   have hmb2 : m1 ≠ b2 := fun e => by subst e; rw [hq4] at hm1; cases hm1
   have hch : ∀ {g g' : PHeap} {o : Obj}, Chg m1 h4 g → g' = g.put m1 o → Chg m1 h4 g' := fun hc he => hc.trans (Put.chg he)
   have hq : ∀ {g : PHeap}, Chg m1 h4 g → g b2 = some (.cells ⟨[vP b1 0]⟩ 78 (0, 0)) := fun hc => by rw [hc b2 hmb2.symm]; exact hq4
   have c5 : Chg m1 h4 (h4.put m1 (.map ⟨[]⟩ 0)) := Chg.put _ _ _
   have m5 : (h4.put m1 (.map ⟨[]⟩ 0)) m1 = some (.map ⟨ents []⟩ 0) := put_same _ _ _
   generalize h4.put m1 (.map ⟨[]⟩ 0) = h5 at *
   refine ⟨b1, 0, cell_of (hq c5) 0, ?_⟩
   refine Raw.mono (raw_updS (.inr rfl) und79 und9 rfl rfl rfl m5) ?_
   rintro _ h6 ⟨rfl, k6, hh6, hk6⟩
   have c6 := hch c5 hh6
   have m6 := Put.at hh6
   rw [hk6 rfl] at m6
   refine ⟨rfl, b1, 0, cell_of (hq c6) 0, ?_⟩
   refine Raw.mono (raw_updS (.inr rfl) und79 und9 rfl rfl rfl m6) ?_
   rintro _ h7 ⟨rfl, k7, hh7, hk7⟩
   have c7 := hch c6 hh7
   have m7 := Put.at hh7
   rw [hk7 rfl] at m7
   refine ⟨rfl, b1, 0, cell_of (hq c7) 0, ?_⟩
   refine Raw.mono (raw_updS (.inr rfl) und79 und9 rfl rfl rfl m7) ?_
   rintro _ h8 ⟨rfl, k8, hh8, hk8⟩
   have c8 := hch c7 hh8
   have m8 := Put.at hh8
   rw [hk8 rfl] at m8
   refine ⟨rfl, b1, 0, cell_of (hq c8) 0, ?_⟩
   refine Raw.mono (raw_updS (.inr rfl) und79 und9 rfl rfl rfl m8) ?_
   rintro _ h9 ⟨rfl, k9, hh9, hk9⟩
   have c9 := hch c8 hh9
   have m9 := Put.at hh9
   rw [hk9 rfl] at m9
   refine ⟨rfl, ?_⟩
   refine Raw.mono (raw_updS (.inr rfl) und79 und9 rfl rfl rfl m9) ?_
   rintro _ h10 ⟨rfl, k10, hh10, hk10⟩
   have c10 := hch c9 hh10
   have m10 := Put.at hh10
   rw [hk10 rfl] at m10
   refine ⟨rfl, ?_⟩
   refine Raw.mono (raw_updS (.inr rfl) und79 und9 rfl rfl rfl m10) ?_
   rintro _ h11 ⟨rfl, k11, hh11, hk11⟩
   have c11 := hch c10 hh11
   have m11 := Put.at hh11
   have hp11 : h11 b1 = some (.cells ⟨[vL (ad tb 0) ts.length tc, vI 0, .map none, vI 0, vI 0, vI 0]⟩ 81 (0, 0)) := by rw [c11 b1 hmb1.symm]; exact hp4
   have hq11 := hq c11
   have hx11 : Ext h1 h11 := fun k o hk => by
    have : k ≠ m1 := fun e => by subst e; rw [hx4 _ _ hk] at hm1; cases hm1
    rw [c11 k this]; exact hx4 _ _ hk
   clear c5 c6 c7 c8 c9 c10 c11 m5 m6 m7 m8 m9 m10 hk6 hk7 hk8 hk9 hk10 hk11 hh6 hh7 hh8 hh9 hh10 hh11 hch hq h5 h6 h7 h8 h9 h10
   replace m11 : h11 m1 = some (.map (smap b1 b2) k11) := m11
   refine ⟨rfl, _, _, _, hp11, ⟨by simp, Nat.zero_le _⟩, ?_⟩
   intro h12 hh12
   have hp12 : h12 b1 = some (PB (vL (ad tb 0) ts.length tc) 0 m1 0 0 0) := Put.at hh12
   have c12 : Chg b1 h11 h12 := Put.chg hh12
   have hq12 : h12 b2 = some (.cells ⟨[vP b1 0]⟩ 78 (0, 0)) := by rw [c12 b2 hb12.symm]; exact hq11
   have hm12 : h12 m1 = some (.map (smap b1 b2) k11) := by rw [c12 m1 hmb1]; exact m11
   have hx12 : Ext h1 h12 := fun k o hk => by
    have : k ≠ b1 := fun e => by subst e; rw [hk] at hb1; cases hb1
    rw [c12 k this]; exact hx11 _ _ hk
   have hT12 : TokRow s h12 tb 0 ts := hT.ext fun ob => hx12 _ ob
   have htb1 : tb ≠ b1 := fun e => by subst e; exact htn hb1
   have htb12 : h12 tb ≠ none := by
    cases e : h1 tb with
    | none => exact absurd e htn
    | some o => exact ne_of (hx12 _ _ e)
   clear hh12 c12 hp11 hq11 hx11 m11 h11 hx4 hm1 hp4 hq4 h4
   have hPOk : POk ⟨tb, m1, b2, k11⟩ s h12 b1 ts 0 :=
    ⟨⟨0, tc, 0, 0, hp12, hT12, htc, hm12, hq12⟩, ⟨htb12, ne_of hm12, ne_of hq12, htb1, hmb1, hb12.symm⟩, hend, by omega, by omega, by omega, hwf⟩
   have hp0 : h12 b1 ≠ none := ne_of hp12
   have hI := hPOk.isin
   have hx0 : Ext h h12 := hx1.trans hx12
   have hfn := (pProg_fn (20 * ts.length + 40) ⟨[], []⟩ ts 0 (by omega)).1
   have hpar : parseS s = outP (pProg (20 * ts.length + 40) ⟨[], []⟩ ts 0) := by
    unfold parseS; rw [hsc]; rfl
   generalize hF : 20 * ts.length + 40 = F at *
   have hFb : F ≤ 100000 := by omega
   clear hF
   generalize hfin : pProg F ⟨[], []⟩ ts 0 = fin at *
   have hn : NF fin := hfn 0
   clear hT hT12 hx12 htc htn hwf hend
   refine ⟨fun m ga gn gc fa fn fc h' => ∃ (r' : R Pg) (cG cF : List (List Value)), gn + fn + m ≤ F ∧ Away b1 h12 h' ∧ LM 86 5 h12 h' ga gn gc cG ∧ LM 54 5 h12 h' fa fn fc cF ∧ (∀ b, fa = ad b 0 → ga ≠ ad b 0) ∧
    PX ⟨tb, m1, b2, k11⟩ s h' b1 r' (fun p => LR (RG (plP s)) h12 h' ga cG p.globals ∧ EL (RF (plP s) 8 7) h12 h' fa ga cF p.funcs) ∧ (bindR r' fun p ts d => pProg m p ts d) = fin,
    ⟨F, .ok (⟨[], []⟩, ts, 0), [], [], by omega, Away.refl _ _, LM.nil, LM.nil, (fun b e => by cases e), ⟨hPOk, LR.nil, EL.nil⟩, hfin⟩, ?_⟩
   rintro m ga gn gc fa fn fc h13 ⟨r', cG, cF, hm, hA, hMG, hMF, hdis, hx, hf⟩
   have hbox : ∀ {g : PHeap}, Away b1 h12 g → g.cell b2 0 = some (vP b1 0) := fun hA => cell_of (hA _ _ hb12.symm hq12) 0
   obtain ⟨i, hi, hz⟩ := hx.ps.err
   have hxE : Ext h h13 := fun k o hk => hA k o (fun e => by subst e; rw [hx1 _ _ hk] at hb1; cases hb1) (hx0 k o hk)
   refine ⟨b1, 0, hbox hA, i, hi, br_split (fun e => ?_) (fun e => ?_)⟩
   · obtain ⟨p, ts2, d2, rfl⟩ := okR_true (hz.symm.trans e)
     refine ⟨b1, 0, hbox hA, ?_⟩
     refine Tri.mono (isKind_tri hx.ps 0) ?_
     rintro _ h13 ⟨rfl, rfl⟩
     refine ⟨_, rfl, ?_⟩
     rw [bindR_ok] at hf
     match m, hf, hm with
     | 0, hf, hm => exact absurd hf.symm hn
     | m + 1, hf, hm =>
     rw [pProg_succ] at hf
     refine br_split (fun e0 => ?_) (fun e0 => ?_)
     · have e0 : isK ts2 0 = false := by simpa [isKr] using e0
       rw [if_neg (by rw [e0]; decide)] at hf
       refine ⟨b1, 0, hbox hA, ?_⟩
       refine Tri.mono (is_tri hx.ps [118, 97, 114]) ?_
       rintro _ h13 ⟨rfl, rfl⟩
       refine ⟨_, rfl, br_split (fun e2 => ?_) (fun e2 => ?_)⟩
       · have e2 : isT ts2 [118, 97, 114] = true := by simpa [isTr] using e2
         rw [if_pos e2] at hf
         refine ⟨b1, 0, hbox hA, ?_⟩
         refine Tri.mono (global_tri (.ok ((), ts2, d2) : R Unit) h13 hx.1) ?_
         rintro _ h16 ⟨c, rfl, hc16, hx16⟩
         refine ⟨_, _, _, _, _, rfl, rfl, ?_⟩
         intro b3 hb3 h17 hh17
         refine ⟨rfl, ?_⟩
         have hA16 : Away b1 h12 h16 := hA.trans hc16.away
         have hd16 : ∀ b, h16 b = none → h12 b = none := hA16.dom hx16.ps.mem
         refine Raw.mono (LM.append (h0 := h12) (cs := c.l) und23 elem86 rfl rfl rfl rfl rfl (hMG.away hp0 hc16.away) hb3 hh17 rfl c.one (by omega) hd16) ?_
         rintro _ h18 ⟨b18, cap18, rfl, hk18, hd18, hn18, hq18, hM18, hR18⟩
         have hap := append_apart hR18
         have hA18 : Away b1 h12 h18 := fun k o hk ho => hk18 k o (ne_of ho) (hA16 k o hk ho)
         have hMF16 := hMF.away hp0 hc16.away
         have hEx := hx.2.2.mono (RF_mono _ _ _) (h' := h16) (b := fa) (b' := ga) fun q o h1 h2 h3 h4 => ⟨h2, h3, hc16.away q o (fun e => by subst e; exact hp0 h1) h4⟩
         refine ⟨_, _, _, rfl, m, by omega, ⟨mapR (fun g => ⟨p.globals ++ [g], p.funcs⟩) (pGlobal ts2 d2), cG ++ [c.l], cF, by omega, hA18, hM18, ?_, ?_, ?_, ?_⟩, trivial⟩
         · refine hMF16.keep fun q hq => ?_
           have h1 := (hMF16.own q hq)
           cases ho : h16 q with
           | none => exact absurd ho h1.2
           | some o => exact (hap q o h1.1 (hdis q hq) ho).2
         · intro q hq
           have h1 := (hMF16.own q hq)
           cases ho : h16 q with
           | none => exact absurd ho h1.2
           | some o => exact (hap q o h1.1 (hdis q hq) ho).1
         · refine (hx16.stay (rel' := fun g => LR (RG (plP s)) h12 h18 (ad b18 0) (cG ++ [c.l]) (p.globals ++ [g]) ∧ EL (RF (plP s) 8 7) h12 h18 fa (ad b18 0) cF p.funcs) (hI.old hp0 hk18) fun g hg => ⟨?_, ?_⟩).map fun g hg => hg
           · exact hR18 (RG_mono _) (hx.2.1.away (RG_mono _) hp0 hc16.away) hg
           · exact hEx.mono (RF_mono _ _ _) fun q o h1 h2 h3 h4 => ⟨h2, hap q o h1 h3 h4⟩
         · rw [← hf]; simp only [mapR, bindR_bind, bindR_ok]
       · have e2 : isT ts2 [118, 97, 114] = false := by simpa [isTr] using e2
         rw [if_neg (by rw [e2]; decide)] at hf
         refine ⟨b1, 0, hbox hA, ?_⟩
         refine Tri.mono (is_tri hx.ps [102, 117, 110, 99]) ?_
         rintro _ h13 ⟨rfl, rfl⟩
         refine ⟨_, rfl, br_split (fun e3 => ?_) (fun e3 => ?_)⟩
         · have e3 : isT ts2 [102, 117, 110, 99] = true := by simpa [isTr] using e3
           refine ⟨b1, 0, hbox hA, ?_⟩
           have hnF : NF (pFunc m ts2 d2) := by rw [← hf] at hn; exact hn.bind
           refine Tri.mono (func_tri (f := m) (by omega) (.ok ((), ts2, d2) : R Unit) h13 hx.1 hnF) ?_
           rintro _ h20 ⟨c, rfl, hA20', hx20⟩
           refine ⟨_, _, _, _, _, _, _, _, _, rfl, rfl, ?_⟩
           intro b4 hb4 h21 hh21
           refine ⟨rfl, ?_⟩
           have hA20 : Away b1 h12 h20 := hA.trans hA20'
           have hd20 : ∀ b, h20 b = none → h12 b = none := hA20.dom hx20.ps.mem
           refine Raw.mono (LM.append (h0 := h12) (cs := c.l) und24 elem54 rfl rfl rfl rfl rfl (hMF.away hp0 hA20') hb4 hh21 rfl c.one (by omega) hd20) ?_
           rintro _ h22 ⟨b22, cap22, rfl, hk22, hd22, hn22, hq22, hM22, hR22⟩
           have hap := append_apart hR22
           have hA22 : Away b1 h12 h22 := fun k o hk ho => hk22 k o (ne_of ho) (hA20 k o hk ho)
           have hMG20 := hMG.away hp0 hA20'
           have hEx := hx.2.2.mono (RF_mono _ _ _) (h' := h20) (b := fa) (b' := ga) fun q o h1 h2 h3 h4 => ⟨h2, h3, hA20' q o (fun e => by subst e; exact hp0 h1) h4⟩
           have hdis' : ∀ b, ga = ad b 0 → fa ≠ ad b 0 := fun b h1 h2 => hdis b h2 h1
           refine ⟨_, _, _, rfl, m, by omega, ⟨mapR (fun g => ⟨p.globals, p.funcs ++ [g]⟩) (pFunc m ts2 d2), cG, cF ++ [c.l], by omega, hA22, ?_, hM22, ?_, ?_, ?_⟩, trivial⟩
           · refine hMG20.keep fun q hq => ?_
             have h1 := (hMG20.own q hq)
             cases ho : h20 q with
             | none => exact absurd ho h1.2
             | some o => exact (hap q o h1.1 (hdis' q hq) ho).2
           · intro q hq hg
             have h1 := (hMG20.own q hg)
             cases ho : h20 q with
             | none => exact absurd ho h1.2
             | some o => exact (hap q o h1.1 (hdis' q hg) ho).1 hq
           · refine (hx20.stay (rel' := fun g => LR (RG (plP s)) h12 h22 ga cG p.globals ∧ EL (RF (plP s) 8 7) h12 h22 (ad b22 0) ga (cF ++ [c.l]) (p.funcs ++ [g])) (hI.old hp0 hk22) fun g hg => ⟨⟨hx.2.1.1, hx.2.1.2⟩, ?_⟩).map fun g hg => hg
             refine (hEx.snoc (x := g) (cs := c.l) ((RF_mono _ _ _).ap ?_ hg)).mono (RF_mono _ _ _) fun q o h1 h2 h3 h4 => ⟨(hap q o h1 h2 h4).1, h3, (hap q o h1 h2 h4).2⟩
             exact only_ext fun q o hq ho => ⟨⟨hA.dom (PS.mem (r := (.ok ((), ts2, d2) : R Unit)) hx.1) q hq, fun e => (hMF.own q e).2 hq, fun e => (hMG.own q e).2 hq⟩, ho⟩
           · rw [← hf]; simp only [mapR, bindR_bind, bindR_ok]
         · have e3 : isT ts2 [102, 117, 110, 99] = false := by simpa [isTr] using e3
           have hpf : pFunc m ts2 d2 = .error (30, (hd ts2).pos) := by simp [pFunc, takeT, e3, bindR]
           rw [hpf] at hf
           refine ⟨b1, 0, hbox hA, ?_⟩
           refine Tri.mono (fail_tri (β := Pg) hx.ps 30 (by decide)) ?_
           rintro _ h23 ⟨rfl, hc23, hP23⟩
           refine ⟨rfl, m, by omega, ⟨.error (30, (hd ts2).pos), cG, cF, by omega, hA.trans hc23.away, hMG.away hp0 hc23.away, hMF.away hp0 hc23.away, hdis, hP23, hf⟩, trivial⟩
     · have e0 : isK ts2 0 = true := by simpa [isKr] using e0
       rw [if_pos e0] at hf
       refine ⟨b1, 0, hbox hA, i, hi, br_neg ?_ ⟨hxE, ?_⟩⟩
       · have : i = 0 := by simpa using e
         subst this; rfl
       · rw [hpar, ← hf]
         refine ⟨ga, gc, fa, fc, ?_, ?_, ?_⟩
         · rw [← hx.2.1.1, ← hx.2.2.1, hMG.len, hMF.len]
         · exact (hMG.at (RG_mono _) hx.2.1).ext (RG_mono _) (only_new fun k hk => by
            cases e : h k with
            | none => rfl
            | some o => rw [hx0 _ _ e] at hk; cases hk)
         · exact (hMF.at (RF_mono _ _ _) (hx.2.2.lr (RF_mono _ _ _))).ext (RF_mono _ _ _) (only_new fun k hk => by
            cases e : h k with
            | none => rfl
            | some o => rw [hx0 _ _ e] at hk; cases hk)
   · obtain ⟨x, rfl⟩ := okR_false (hz.symm.trans e)
     have hxe : PErr ⟨tb, m1, b2, k11⟩ s h13 b1 x := hx
     obtain ⟨g0, _, a', n', c', d', m', hpe⟩ := hxe
     have hb := hbox hA
     refine ⟨b1, 0, hb, _, PB_cell hpe 5, br_pos ?_ ?_⟩
     · have : (x.1 : Int) ≠ 0 := by omega
       simpa using this
     · refine ⟨b1, 0, hb, _, PB_cell hpe 3, b1, 0, hb, _, PB_cell hpe 4, b1, 0, hb, _, PB_cell hpe 5, PB_cell hpe 5, hb, PB_cell hpe 4, hb, PB_cell hpe 3, hb, hxE, ?_⟩
       rw [hpar, ← hf]; rfl
end Go.Proofs.D
namespace Go.Proofs.D
open Go Go.Den Go.Sx
set_option maxRecDepth 100000
attribute [local irreducible] IntKind.wrap Tri marks words
def rkV (s : Bytes) (n : Nat) : Except (Nat × Nat) (Nat × Nat × Nat × Bytes) → Value
 | .ok (k, len, v, b) => vT [vA [vI k, vS ((s.drop n).take len), vI v, vS b, vI n], vI ((n + len : Nat) : Int), vI 0, vI 0]
 | .error (e, i) => vT [vA [vI 0, vS [], vI 0, vS [], vI 0], vI n, vI e, vI ((n + i : Nat) : Int)]
theorem charS_ok {l : Bytes} {b : UInt8} {k : Nat} (h : charS l = .ok (b, k)) : 0 < k ∧ k ≤ l.length := (L.charS_err l).2 _ _ h
theorem charS_e {l : Bytes} {e k : Nat} (h : charS l = .error (e, k)) : e ≠ 0 := (L.charS_err l).1 _ _ h
theorem SlS (s : Bytes) (n k : Nat) : ((s.drop ((n : Int)).toNat).take ((((n + k : Nat) : Int)).toNat - ((n : Int)).toNat)) = (s.drop n).take k := by
 simp only [Int.toNat_natCast, Nat.add_sub_cancel_left]
theorem chr_r {s r : Bytes} {n : Nat} (h : PHeap) (hl : s.length ≤ 1000000) (hd : s.drop n = 39 :: r) : Tri Tryz.prog 119 [vS s, vI n] h fun v h' => v = rkV s n (L.charO r (L.oneQ 39 r)) ∧ Ext h h' := by
 refine T119 ?_
 unfold R119
 have hlt : n < s.length := by
  have := congrArg List.length hd
  simp at this; omega
 have hg : s[((n : Int)).toNat]? = some 39 := by simpa using drop_head hd
 have ht : s.drop (n + 1) = r := drop_tail hd
 have hrl : r.length + n + 1 = s.length := by
  have := congrArg List.length hd
  simp at this; omega
 have w1 : IntKind.i64.wrap ((n : Int) + 1) = ((n + 1 : Nat) : Int) := by rw [wrap64 (by omega) (by omega)]; rfl
 rw [w1]
 refine ⟨by omega, 39, hg, br_pos rfl ?_⟩
 have rest : L.oneQ 39 r = charS r → Tri Tryz.prog 155 [vS s, vI ((n + 1 : Nat) : Int)] h fun v_1 h_1 =>
  ∃ (i1 i2 i3 i4 : Int), v_1 = vT [vU i1, vI i2, vI i3, vI i4] ∧
  br (i3 == 0)
  (br (decide (i2 ≥ (s.length : Int)))
   (vT [vA [vI 0, vS [], vI 0, vS [], vI 0], vI n, vI 4, vI n] = rkV s n (L.charO r (L.oneQ 39 r)) ∧ Ext h h_1)
   (br (i3 == 4)
    (vT [vA [vI 0, vS [], vI 0, vS [], vI 0], vI n, vI 4, vI n] = rkV s n (L.charO r (L.oneQ 39 r)) ∧ Ext h h_1)
    (br (i3 != 0)
     (vT [vA [vI 0, vS [], vI 0, vS [], vI 0], vI n, vI i3, vI i4] = rkV s n (L.charO r (L.oneQ 39 r)) ∧ Ext h h_1)
     (0 ≤ i2 ∧ ∃ (c3 : UInt8), (s)[(i2).toNat]? = some c3 ∧
      br ((c3.toNat : Int) != 39)
      (vT [vA [vI 0, vS [], vI 0, vS [], vI 0], vI n, vI 6, vI i2] = rkV s n (L.charO r (L.oneQ 39 r)) ∧ Ext h h_1)
      ((0 ≤ (n : Int) ∧ (n : Int) ≤ (IntKind.i64.wrap (i2 + 1)) ∧ (IntKind.i64.wrap (i2 + 1)) ≤ (s.length : Int)) ∧
        vT [vA [vI 2, vS ((s.drop ((n : Int)).toNat).take ((IntKind.i64.wrap (i2 + 1)).toNat - ((n : Int)).toNat)), vI (IntKind.i64.wrap (i1)), vS [], vI n], vI (IntKind.i64.wrap (i2 + 1)), vI 0, vI 0] = rkV s n (L.charO r (L.oneQ 39 r)) ∧ Ext h h_1)))))
  (br (i3 == 4)
   (vT [vA [vI 0, vS [], vI 0, vS [], vI 0], vI n, vI 4, vI n] = rkV s n (L.charO r (L.oneQ 39 r)) ∧ Ext h h_1)
   (br (i3 != 0)
    (vT [vA [vI 0, vS [], vI 0, vS [], vI 0], vI n, vI i3, vI i4] = rkV s n (L.charO r (L.oneQ 39 r)) ∧ Ext h h_1)
    (0 ≤ i2 ∧ ∃ (c4 : UInt8), (s)[(i2).toNat]? = some c4 ∧
     br ((c4.toNat : Int) != 39)
     (vT [vA [vI 0, vS [], vI 0, vS [], vI 0], vI n, vI 6, vI i2] = rkV s n (L.charO r (L.oneQ 39 r)) ∧ Ext h h_1)
     ((0 ≤ (n : Int) ∧ (n : Int) ≤ (IntKind.i64.wrap (i2 + 1)) ∧ (IntKind.i64.wrap (i2 + 1)) ≤ (s.length : Int)) ∧
       vT [vA [vI 2, vS ((s.drop ((n : Int)).toNat).take ((IntKind.i64.wrap (i2 + 1)).toNat - ((n : Int)).toNat)), vI (IntKind.i64.wrap (i1)), vS [], vI n], vI (IntKind.i64.wrap (i2 + 1)), vI 0, vI 0] = rkV s n (L.charO r (L.oneQ 39 r)) ∧ Ext h h_1)))) := by
  intro hq
  rw [hq]
  refine Tri.mono (char_r h (by omega) hl) ?_
  rintro _ h ⟨rfl, rfl⟩
  rw [ht]
  cases hc : charS r with
  | error p =>
    obtain ⟨e, k⟩ := p
    have h0 := charS_e hc
    refine ⟨_, _, _, _, rfl, br_neg ?_ ?_⟩
    · have : (e : Int) ≠ 0 := by omega
      simpa using this
    refine br_split (fun e4 => ?_) (fun e4 => ?_)
    · have : e = 4 := by
       have : (e : Int) = 4 := by simpa using e4
       omega
      subst this
      exact ⟨rfl, Ext.refl _⟩
    · have : e ≠ 4 := by
       have : ¬ (e : Int) = 4 := by simpa using e4
       omega
      refine br_pos ?_ ⟨?_, Ext.refl _⟩
      · have : (e : Int) ≠ 0 := by omega
        simpa using this
      · simp only [L.charO, if_neg this, rkV]
        rw [show n + 1 + k = n + (k + 1) by omega]
  | ok p =>
    obtain ⟨b, k⟩ := p
    have hk := charS_ok hc
    refine ⟨_, _, _, _, rfl, br_pos rfl (br_split (fun f1 => ?_) (fun f1 => ?_))⟩
    · have : s.length ≤ n + 1 + k := by
       have := of_decide_eq_true f1
       omega
      have hnil : r.drop k = [] := List.drop_eq_nil_of_le (by omega)
      simp only [L.charO, hnil]
      exact ⟨rfl, Ext.refl _⟩
    · have hlt2 : n + 1 + k < s.length := by
       have := of_decide_eq_false f1
       omega
      refine br_neg rfl (br_neg rfl ?_)
      obtain ⟨d, r2, hd2, hg2, ht2⟩ := get_of_lt hlt2
      rw [← List.drop_drop, ht] at hd2
      have w2 : IntKind.i64.wrap (((n + 1 + k : Nat) : Int) + 1) = ((n + (k + 2) : Nat) : Int) := by rw [wrap64 (by omega) (by omega)]; omega
      refine ⟨by omega, d, by rw [Int.toNat_natCast]; exact hg2, br_split (fun f2 => ?_) (fun f2 => ?_)⟩
      · have hd39 : (d == 39) = false := by
         have : ¬ d = 39 := fun e => by subst e; simp at f2
         simpa using this
        simp only [L.charO, hd2, hd39, rkV, Bool.false_eq_true, if_false]
        rw [show n + 1 + k = n + (k + 1) by omega]
        exact ⟨rfl, Ext.refl _⟩
      · have hd39 : (d == 39) = true := by
         have : (d.toNat : Int) = 39 := by simpa using f2
         have : d = 39 := UInt8.toNat_inj.1 (by show d.toNat = 39; omega)
         simpa using this
        rw [w2, SlS]
        refine ⟨⟨by omega, by omega, by omega⟩, ?_, Ext.refl _⟩
        have hb : b.toNat < 256 := b.toNat_lt
        rw [wrap64 (by omega) (by omega)]
        simp only [L.charO, hd2, hd39, rkV, if_true]
        rfl
 refine br_split (fun e1 => ?_) (fun e1 => ?_)
 · have hlt1 : n + 1 < s.length := by
    have := of_decide_eq_true e1
    omega
   obtain ⟨d, r2, hd2, hg2, ht2⟩ := get_of_lt hlt1
   rw [ht] at hd2
   refine ⟨by omega, d, by rw [Int.toNat_natCast]; exact hg2, br_split (fun e2 => ?_) (fun e2 => ?_)⟩
   · have hd39 : d = 39 := u8_eq e2
     subst hd39
     refine ⟨?_, Ext.refl _⟩
     have : L.oneQ 39 r = .error (6, 0) := by rw [L.oneQ, if_pos (by rw [hd2]; rfl)]
     rw [this]; rfl
   · have hd39 : d ≠ 39 := u8_ne e2
     refine rest ?_
     rw [L.oneQ, if_neg (by rw [hd2]; simpa using hd39)]
 · have hr : r = [] := by
    have := of_decide_eq_false e1
    rw [← ht]; exact List.drop_eq_nil_of_le (by omega)
   refine rest ?_
   rw [L.oneQ, if_neg (by rw [hr]; simp)]
theorem quo_r {s r : Bytes} {n : Nat} (h : PHeap) (hl : s.length ≤ 1000000) (hd : s.drop n = 34 :: r) : Tri Tryz.prog 119 [vS s, vI n] h fun v h' => v = rkV s n (L.quoO (strS (r.length + 1) r)) ∧ Ext h h' := by
 refine T119 ?_
 unfold R119
 have hrl : r.length + n + 1 = s.length := by
  have := congrArg List.length hd
  simp at this; omega
 have hg : s[((n : Int)).toNat]? = some 34 := by simpa using drop_head hd
 have ht : s.drop (n + 1) = r := drop_tail hd
 have w1 : IntKind.i64.wrap ((n : Int) + 1) = ((n + 1 : Nat) : Int) := by rw [wrap64 (by omega) (by omega)]; rfl
 rw [w1]
 refine ⟨by omega, 34, hg, br_neg rfl ?_⟩
 refine ⟨fun m l i _ _ _ _ _ h' => Ext h h' ∧ ∃ k : Nat, i = ((n + 1 + k : Nat) : Int) ∧ k + m = r.length ∧ l.length ≤ k ∧ strS (r.length + 1) r = L.strJ l k (strS (r.length + 1 - l.length) (r.drop k)),
  ⟨r.length, Ext.refl _, 0, rfl, by omega, by simp, by simpa using L.strJ_zero (r.length + 1) r⟩, ?_⟩
 rintro m l _ _ _ _ _ _ h1 ⟨hx1, k, rfl, hkm, hlk, hst⟩
 refine br_split (fun e1 => ?_) (fun e1 => ?_)
 · have hk : k = r.length := by
    have := of_decide_eq_true e1
    omega
   refine ⟨?_, hx1⟩
   rw [hst, List.drop_eq_nil_of_le (by omega), show r.length + 1 - l.length = (r.length - l.length) + 1 by omega]
   simp [strS, L.strJ, L.quoO, rkV]
 · have hk : k < r.length := by
    have := of_decide_eq_false e1
    omega
   obtain ⟨c, r2, hd2, hg2, ht2⟩ := get_of_lt (s := s) (n := n + 1 + k) (by omega)
   rw [← List.drop_drop, ht] at hd2
   have hf : r.length + 1 - l.length = (r.length - l.length) + 1 := by omega
   rw [hf, hd2] at hst
   refine ⟨by omega, c, by rw [Int.toNat_natCast]; exact hg2, br_split (fun e2 => ?_) (fun e2 => ?_)⟩
   · have hc : c = 34 := u8_eq e2
     subst hc
     have hst' : strS (r.length + 1) r = .ok (l, k) := by rw [hst]; simp [strS, L.strJ]
     rw [hst']
     refine br_split (fun e3 => ?_) (fun e3 => ?_)
     · have : 200 < l.length := by
        have := of_decide_eq_true e3
        omega
       refine ⟨?_, hx1⟩
       simp [L.quoO, this, rkV]
     · have : ¬ 200 < l.length := by
        have := of_decide_eq_false e3
        omega
       have w2 : IntKind.i64.wrap (((n + 1 + k : Nat) : Int) + 1) = ((n + (k + 2) : Nat) : Int) := by rw [wrap64 (by omega) (by omega)]; omega
       rw [w2, SlS]
       refine ⟨⟨by omega, by omega, by omega⟩, ?_, hx1⟩
       simp only [L.quoO, if_neg this, rkV]; rfl
   · have hc : c ≠ 34 := u8_ne e2
     refine Tri.mono (char_r h1 (by omega) hl) ?_
     rintro _ h1 ⟨rfl, rfl⟩
     rw [← List.drop_drop, ht, hd2]
     rw [L.strS_step hc] at hst
     cases hch : charS (c :: r2) with
     | error p =>
       obtain ⟨e, j⟩ := p
       have h0 := charS_e hch
       rw [hch] at hst
       refine ⟨_, _, _, _, rfl, br_split (fun e4 => ?_) (fun e4 => ?_)⟩
       · have : e = 4 := by
          have : (e : Int) = 4 := by simpa using e4
          omega
         subst this
         refine ⟨?_, hx1⟩
         rw [hst]; simp [L.strJ, L.quoO, rkV]
       · have h4 : e ≠ 4 := by
          have : ¬ (e : Int) = 4 := by simpa using e4
          omega
         refine br_pos ?_ ⟨?_, hx1⟩
         · have : (e : Int) ≠ 0 := by omega
           simpa using this
         · rw [hst]
           simp only [L.strJ, L.quoO, rkV, if_neg h4]
           rw [show n + 1 + k + j = n + (j + k + 1) by omega]
     | ok p =>
       obtain ⟨b, j⟩ := p
       have hj := charS_ok hch
       have hjl : j + k ≤ r.length := by
        have : (c :: r2).length + k = r.length := by rw [← hd2, List.length_drop]; omega
        omega
       rw [hch] at hst
       refine ⟨_, _, _, _, rfl, br_neg rfl (br_neg rfl ?_)⟩
       intro b1 hb1 h5 hh5
       refine ⟨[b], .inr ⟨b1, 0, rfl, rfl, row_lit (Put.at hh5) fun i v hi => ?_⟩, by simp; omega, m - j, by omega, ⟨hx1.trans (Put.ext hh5 hb1), k + j, ?_, by omega, by simp; omega, ?_⟩, trivial⟩
       · match i, hi with
         | 0, hi => simpa [byteV] using hi
         | i + 1, hi => simp at hi
       · omega
       · rw [hst]
         simp only [List.length_append, List.length_cons, List.length_nil]
         rw [show r.length + 1 - (l.length + (0 + 1)) = r.length - l.length by omega, ← List.drop_drop, hd2, L.strJ_strJ, Nat.add_comm k j]
theorem one_r {s r : Bytes} {c : UInt8} {n : Nat} (h : PHeap) (hl : s.length ≤ 1000000) (hd : s.drop n = c :: r) : Tri Tryz.prog 71 [vS s, vI n] h fun v h' => v = rkV s n (oneS (c :: r)) ∧ Ext h h' := by
 refine T71 ?_
 unfold R71
 have hrl : r.length + n + 1 = s.length := by
  have := congrArg List.length hd
  simp at this; omega
 have hg : s[((n : Int)).toNat]? = some c := by simpa using drop_head hd
 have hle := L.lead_le isAl (c :: r)
 simp only [List.length_cons] at hle
 refine ⟨by omega, c, hg, ?_⟩
 refine Tri.mono (letter_r c h) ?_
 rintro _ h ⟨rfl, rfl⟩
 refine ⟨_, rfl, br_split (fun e1 => ?_) (fun e1 => ?_)⟩
 · rw [oneS_word e1]
   refine Tri.mono (alnum_r h (by omega) hl) ?_
   rintro _ h ⟨rfl, rfl⟩
   rw [hd]
   generalize hk : lead isAl (c :: r) = k at *
   refine ⟨_, rfl, ⟨by omega, by omega, by omega⟩, ?_⟩
   rw [SlS, hd]
   have hlen : ((c :: r).take k).length = k := by rw [List.length_take, List.length_cons]; omega
   refine br_split (fun e2 => ?_) (fun e2 => ?_)
   · have : 32 < k := by
      have := of_decide_eq_true e2
      rw [hlen] at this; omega
     refine ⟨?_, Ext.refl _⟩
     simp only [L.wordS, hk, if_pos this]; rfl
   · have : ¬ 32 < k := by
      have := of_decide_eq_false e2
      rw [hlen] at this; omega
     refine Tri.mono (words_r h) ?_
     rintro _ h1 ⟨b, rfl, hx1, hs1⟩
     refine ⟨_, _, _, rfl, ?_⟩
     refine Tri.mono (contains_r ((c :: r).take k) hs1 (by rw [words_len]; omega)) ?_
     rintro _ h2 ⟨rfl, rfl⟩
     refine ⟨_, rfl, br_split (fun e3 => ?_) (fun e3 => ?_)⟩
     · refine ⟨?_, hx1⟩
       simp only [L.wordS, hk, if_neg this, e3, if_true, rkV, hd]; rfl
     · refine ⟨?_, hx1⟩
       simp only [L.wordS, hk, if_neg this, e3, Bool.false_eq_true, if_false, rkV, hd]; rfl
 refine Tri.mono (digit_r c h) ?_
 rintro _ h ⟨rfl, rfl⟩
 refine ⟨_, rfl, br_split (fun e2 => ?_) (fun e2 => ?_)⟩
 · rw [oneS_num e1 e2]
   refine Tri.mono (alnum_r h (by omega) hl) ?_
   rintro _ h ⟨rfl, rfl⟩
   rw [hd]
   unfold L.numberS
   generalize hk : lead isAl (c :: r) = k at *
   refine ⟨_, rfl, ⟨by omega, by omega, by omega⟩, ?_⟩
   rw [SlS, hd]
   have hlen : ((c :: r).take k).length = k := by rw [List.length_take, List.length_cons]; omega
   refine Tri.mono (number_r ((c :: r).take k) h (by omega)) ?_
   rintro _ h ⟨rfl, rfl⟩
   cases hnum : numS ((c :: r).take k) with
   | error e =>
     have h0 := L.numS_err _ _ hnum
     refine ⟨_, _, rfl, br_pos ?_ ⟨rfl, Ext.refl _⟩⟩
     have : (e : Int) ≠ 0 := by omega
     simpa [L.n1] using this
   | ok v =>
     refine ⟨_, _, rfl, br_neg rfl ⟨⟨by omega, by omega, by omega⟩, ?_, Ext.refl _⟩⟩
     simp only [L.numO, rkV, hd]; rfl
 refine br_split (fun e3 => ?_) (fun e3 => ?_)
 · have hc : c = 39 := u8_eq e3
   subst hc
   rw [oneS_char]
   refine Tri.mono (chr_r h hl hd) ?_
   rintro v h1 ⟨rfl, hx⟩
   cases ho : L.charO r (L.oneQ 39 r) with
   | error p => exact ⟨_, _, _, _, _, _, _, _, rfl, rfl, hx⟩
   | ok p => exact ⟨_, _, _, _, _, _, _, _, rfl, rfl, hx⟩
 refine br_split (fun e4 => ?_) (fun e4 => ?_)
 · have hc : c = 34 := u8_eq e4
   subst hc
   rw [oneS_quo]
   refine Tri.mono (quo_r h hl hd) ?_
   rintro v h1 ⟨rfl, hx⟩
   cases ho : L.quoO (strS (r.length + 1) r) with
   | error p => exact ⟨_, _, _, _, _, _, _, _, rfl, rfl, hx⟩
   | ok p => exact ⟨_, _, _, _, _, _, _, _, rfl, rfl, hx⟩
 have n39 : (c == 39) = false := by simpa using (u8_ne e3 : c ≠ 39)
 have n34 : (c == 34) = false := by simpa using (u8_ne e4 : c ≠ 34)
 have hone : oneS (c :: r) = if marks.contains ((c :: r).take 2) then .ok (5, ((c :: r).take 2).length, 0, []) else if marks.contains ((c :: r).take 1) then .ok (5, 1, 0, []) else .error (6, 0) := by
  simp only [oneS, e1, e2, n39, n34, Bool.false_eq_true, if_false]
 have wn : ∀ i : Nat, i ≤ 2 → IntKind.i64.wrap ((n : Int) + (i : Int)) = ((n + i : Nat) : Int) := fun i hi => by rw [wrap64 (by omega) (by omega)]; omega
 refine ⟨fun m i _ _ _ _ _ h' => Ext h h' ∧ i = (m : Nat) ∧ m ≤ 2 ∧ (m < 2 → (marks.contains ((c :: r).take 2) = true → r = [])) ∧ (m < 1 → marks.contains ((c :: r).take 1) = false), ⟨2, Ext.refl _, rfl, by omega, fun h0 => by omega, fun h0 => by omega⟩, ?_⟩
 rintro m _ _ _ _ _ _ h1 ⟨hx1, rfl, hm2, g2, g1⟩
 refine br_split (fun e5 => ?_) (fun e5 => ?_)
 · have hm0 : 0 < m := by
    have := of_decide_eq_true e5
    omega
   rw [wn m hm2]
   have wd : IntKind.i64.wrap ((m : Int) - 1) = ((m - 1 : Nat) : Int) := by rw [wrap64 (by omega) (by omega)]; omega
   rw [wd]
   refine br_split (fun e6 => ?_) (fun e6 => ?_)
   · have hml : n + m ≤ s.length := by
      have := of_decide_eq_true e6
      omega
     refine ⟨⟨by omega, by omega, by omega⟩, ?_⟩
     refine Tri.mono (marks_r h1) ?_
     rintro _ h2 ⟨b, rfl, hx2, hs2⟩
     refine ⟨_, _, _, rfl, ?_⟩
     rw [SlS, hd]
     refine Tri.mono (contains_r ((c :: r).take m) hs2 (by rw [marks_len]; omega)) ?_
     rintro _ h2 ⟨rfl, rfl⟩
     have hlen : ((c :: r).take m).length = m := by rw [List.length_take, List.length_cons]; omega
     refine ⟨_, rfl, br_split (fun e7 => ?_) (fun e7 => ?_)⟩
     · refine ⟨⟨by omega, by omega, by omega⟩, ?_, hx1.trans hx2⟩
       have hm : m = 1 ∨ m = 2 := by omega
       rcases hm with rfl | rfl
       · cases hc2 : marks.contains ((c :: r).take 2) with
         | true =>
           have hr := g2 (by omega) hc2
           subst hr
           rw [hone, if_pos hc2]; simp only [rkV, hd]; rfl
         | false =>
           rw [hone, if_neg (by rw [hc2]; decide), if_pos e7]; simp only [rkV, hd]; rfl
       · rw [hone, if_pos e7, hlen]; simp only [rkV, hd]; rfl
     · refine ⟨m - 1, by omega, ⟨hx1.trans hx2, rfl, by omega, fun _ hc2 => ?_, fun _ => ?_⟩, trivial⟩
       · have hm : m = 1 ∨ m = 2 := by omega
         rcases hm with rfl | rfl
         · exact g2 (by omega) hc2
         · rw [e7] at hc2; cases hc2
       · have hm : m = 1 := by omega
         subst hm; exact e7
   · have hml : s.length < n + m := by
      have := of_decide_eq_false e6
      omega
     have hr : r = [] := List.eq_nil_of_length_eq_zero (by omega)
     have hm : m = 2 := by omega
     subst hm
     exact ⟨1, by omega, ⟨hx1, rfl, by omega, fun _ _ => hr, fun h0 => by omega⟩, trivial⟩
 · have hm : m = 0 := by
    have := of_decide_eq_false e5
    omega
   subst hm
   refine ⟨?_, hx1⟩
   have h1' := g1 (by omega)
   have h2' : marks.contains ((c :: r).take 2) = false := by
    cases hc2 : marks.contains ((c :: r).take 2) with
    | false => rfl
    | true =>
      have hr := g2 (by omega) hc2
      subst hr
      rw [show ([c] : Bytes).take 2 = [c].take 1 from rfl, h1'] at hc2; cases hc2
   rw [hone, if_neg (by rw [h2']; decide), if_neg (by rw [h1']; decide)]; rfl
def tokR (t : Tok) : List Value := [vI t.kind, vS t.text, vI t.value, vS t.bytes, vI t.pos]
def RT (_ : PHeap) (t : Tok) (cs : List Value) : Prop := cs = tokR t
theorem RT_mono : Mono RT := ⟨fun _ h => h⟩
theorem elem69 : ElemT 69 5 := ⟨_, _, rfl, rfl, rfl, rfl, by decide⟩
theorem und65 : Tryz.prog.underlying 65 = some (.slice 69) := rfl
def ScanR (s : Bytes) (h : PHeap) (v : Value) (h' : PHeap) : Prop :=
 Ext h h' ∧ match scanS s with
  | .error e => v = vT [vL none 0 0, vI e.2, vI e.1]
  | .ok ts => ∃ b c, v = vT [vL (ad b 0) ts.length c, vI 0, vI 0] ∧ h b = none ∧ At 5 RT (only (New h) h') (ad b 0) ts
theorem scan_r (s : Bytes) (h : PHeap) : Tri Tryz.prog 31 [vS s] h (ScanR s h) := by
 refine T31 ?_
 unfold R31
 refine br_split (fun e => ?_) (fun e => ?_)
 · have hl : 16384 < s.length := by
    have : (s.length : Int) > 16384 := by simpa using e
    omega
   refine ⟨Ext.refl _, ?_⟩
   simp only [scanS, if_pos hl]; rfl
 have hl : s.length ≤ 16384 := by
  have : ¬ (s.length : Int) > 16384 := by simpa using e
  omega
 have hsc : scanS s = scanL (s.length + 1) 0 s 0 := by rw [scanS, if_neg (by omega)]
 refine Tri.mono (skip_r (n := 0) h (Nat.zero_le _) (by omega)) ?_
 rintro _ h1 ⟨rfl, rfl⟩
 refine ⟨_, rfl, ?_⟩
 rw [List.drop_zero, Nat.zero_add]
 refine ⟨fun m a sn c i h2 => ∃ (n f : Nat) (done : List Tok), i = n ∧ n ≤ s.length ∧ skipN false (s.drop n) = 0 ∧ n + m = s.length ∧ Ext h1 h2 ∧ LM 69 5 h1 h2 a sn c (done.map tokR) ∧ LR RT h1 h2 a (done.map tokR) done ∧ done.length = sn ∧ sn ≤ 4096 ∧ (s.drop n).length < f + 1 ∧ scanS s = preS done (scanL (f + 1) sn (s.drop n) n), ?_, ?_⟩
 · have hle := skipN_le false s
   refine ⟨s.length - skipN false s, skipN false s, s.length, [], rfl, hle, skipN_idem false s, by omega, Ext.refl _, LM.nil, LR.nil, rfl, by omega, ?_, ?_⟩
   · rw [List.length_drop]; omega
   · rw [preS_nil, hsc, scanL_skip]; simp
 rintro m a sn c _ h2 ⟨n, f, done, rfl, hn, hsk, hm, hx2, hM2, hL2, hdl, hk4, hf, hs3⟩
 have hdom : ∀ {g : PHeap}, Ext h1 g → ∀ b, g b = none → h1 b = none := fun hx b hb => by
  cases e : h1 b with
  | none => rfl
  | some o => rw [hx _ _ e] at hb; cases hb
 refine br_split (fun e1 => ?_) (fun e1 => ?_)
 · have hlt : n < s.length := by
    have := of_decide_eq_true e1
    omega
   obtain ⟨ch, r, hd, hg, ht⟩ := get_of_lt hlt
   have hrl : (ch :: r).length + n = s.length := by rw [← hd, List.length_drop]; omega
   rw [scanL_at f sn n hsk, hd] at hs3
   simp only [scanR] at hs3
   refine br_split (fun e2 => ?_) (fun e2 => ?_)
   · have hk : sn = 4096 := by
      have : (sn : Int) = 4096 := by simpa using e2
      omega
     refine ⟨hx2, ?_⟩
     rw [hs3, if_pos hk]; rfl
   have hk : ¬ sn = 4096 := by
    have : ¬ (sn : Int) = 4096 := by simpa using e2
    omega
   rw [if_neg hk] at hs3
   refine Tri.mono (one_r h2 (by omega) hd) ?_
   rintro _ h3 ⟨rfl, hx23⟩
   have h1s := oneS_nl (ch :: r)
   cases ho : oneS (ch :: r) with
   | error p =>
     obtain ⟨ee, ei⟩ := p
     rw [ho] at hs3
     have := (h1s.1 _ _ ho).2
     refine ⟨_, _, _, _, _, _, _, _, rfl, br_pos ?_ ⟨hx2.trans hx23, ?_⟩⟩
     · have : (ee : Int) ≠ 0 := by omega
       simpa using this
     · rw [hs3]; rfl
   | ok p =>
     obtain ⟨kind, len, vv, bb⟩ := p
     rw [ho] at hs3
     have hok := h1s.2 _ _ _ _ ho
     have hlen := hok.nl.1
     have hlp := hok.pos
     refine ⟨_, _, _, _, _, _, _, _, rfl, br_neg rfl ?_⟩
     intro b1 hb1 h4 hh4
     have hx3 := hx2.trans hx23
     refine Raw.mono (LM.append (h0 := h1) (cs := tokR ⟨kind, (s.drop n).take len, vv, bb, n⟩) und65 elem69 rfl rfl rfl rfl rfl (hM2.ext hx23) hb1 hh4 rfl rfl (by omega) (hdom hx3)) ?_
     rintro _ h5 ⟨b5, cap5, rfl, hk5, hd5, hn5, hq5, hM5, hR5⟩
     have hx5 : Ext h1 h5 := fun q o hq => hk5 q o (ne_of hq) (hx3 q o hq)
     refine ⟨_, _, _, rfl, ?_⟩
     refine Tri.mono (skip_r (n := n + len) h5 (by omega) (by omega)) ?_
     rintro _ h6 ⟨rfl, rfl⟩
     have hle := skipN_le false (s.drop (n + len))
     rw [List.length_drop] at hle
     match f, hf with
     | 0, hf => exfalso; rw [hd] at hf; simp at hf
     | f + 1, hf =>
     refine ⟨_, rfl, m - (len + skipN false (s.drop (n + len))), by omega, ⟨n + len + skipN false (s.drop (n + len)), f, done ++ [⟨kind, (s.drop n).take len, vv, bb, n⟩], rfl, by omega, ?_, by omega, hx5, ?_, ?_, ?_, by omega, ?_, ?_⟩, trivial⟩
     · rw [← List.drop_drop]; exact skipN_idem false _
     · rw [List.map_append]; exact hM5
     · rw [List.map_append]; exact hR5 RT_mono (hL2.ext RT_mono hx23) rfl
     · rw [List.length_append, hdl]; rfl
     · rw [List.length_drop]; rw [List.length_drop] at hf; omega
     · rw [hs3]
       simp only
       refine (preS_cons done _ (scanL (f + 1) (sn + 1) (List.drop len (ch :: r)) (n + len))).trans ?_
       rw [← hd, List.drop_drop, scanL_skip, List.drop_drop]
 · have hlt : n = s.length := by
    have := of_decide_eq_false e1
    omega
   intro b2 hb2 h7 hh7
   refine Raw.mono (LM.append (h0 := h1) (cs := tokR ⟨0, [], 0, [], n⟩) und65 elem69 rfl rfl rfl rfl rfl hM2 hb2 (by rw [hh7, ← hlt]; rfl) rfl rfl (by omega) (hdom hx2)) ?_
   rintro _ h8 ⟨b8, cap8, rfl, hk8, hd8, hn8, hq8, hM8, hR8⟩
   refine ⟨_, _, _, rfl, fun q o hq => hk8 q o (ne_of hq) (hx2 q o hq), ?_⟩
   have hnil : s.drop n = [] := List.drop_eq_nil_of_le (by omega)
   rw [hs3, scanL_at f sn n hsk, hnil]
   simp only [preS, scanR]
   refine ⟨b8, cap8, by rw [List.length_append, hdl]; rfl, hn8, ?_⟩
   have hL8 := hR8 (v := (⟨0, [], 0, [], n⟩ : Tok)) RT_mono hL2 rfl
   exact hM8.at RT_mono hL8
end Go.Proofs.D
namespace Go.Proofs.D
open Go Go.Den
set_option maxRecDepth 100000
set_option maxHeartbeats 4000000
end Go.Proofs.D
namespace Go.Proofs.D
open Go Go.Den Go.Sx
set_option maxRecDepth 100000
attribute [local irreducible] IntKind.wrap Tri marks words
def StrB (h : PHeap) (b : Nat) (L : List Bytes) : Prop := ∀ (k : Nat) (l : Bytes), L[k]? = some l → h.cell b k = some (vS l)
theorem StrB.put {h h1 : PHeap} {b : Nat} {L : List Bytes} {t : TypeId} (hh : h1 = h.put b (.cells ⟨L.map fun l => vS l⟩ t)) : StrB h1 b L := fun k l hk => by
 rw [cell_of (Put.at hh), List.getElem?_map, hk]; rfl
theorem StrB.ext {h h' : PHeap} {b : Nat} {L : List Bytes} (x : Ext h h') (hs : StrB h b L) : StrB h' b L := fun k l hk => cell_ext (fun ob => x b ob) (hs k l hk)
structure XC where
 ta : Option Addr
 tn : Nat
 tc : Nat
 i : Int
 op : Int
 err : Int
 bad : Int
def XC.l (x : XC) : List Value := [vL x.ta x.tn x.tc, vI x.i, vI x.op, vI x.err, vI x.bad]
structure QK where
 tb : Nat
 tc : Nat
 all : List Tok
structure QK.In (K : QK) (h : PHeap) : Prop where
 rows : At 5 RT h (ad K.tb 0) K.all
 len : K.all.length ≤ 100000
theorem QK.In.ext {K : QK} {h h' : PHeap} (hI : K.In h) (x : Ext h h') : K.In h' := ⟨hI.rows.ext RT_mono x, hI.len⟩
def XS {α : Type} (K : QK) (x : XC) (r : R α) : Prop :=
 (x.ta = ad K.tb 0 ∧ x.tn = K.all.length ∧ x.tc = K.tc) ∧ ∃ j : Nat, x.i = j ∧ j < K.all.length ∧ match r with
  | .error e => e.1 ≠ 0 ∧ x.err = e.1 ∧ ∃ (b : Nat) (t : Tok), x.bad = b ∧ K.all[b]? = some t ∧ t.pos = e.2
  | .ok (_, ts, d) => x.err = 0 ∧ ts = K.all.drop j ∧ Ended ts ∧ x.op = d ∧ ((ts.length : Int) - 1000000 ≤ d ∧ d ≤ 32)
def XX {α : Type} (K : QK) (x : XC) (r : R α) (rel : α → Prop) : Prop := XS K x r ∧ ∀ y ts d, r = .ok (y, ts, d) → rel y
section
variable {α β γ : Type} {K : QK} {x x' : XC} {r : R α} {h : PHeap}
theorem XS.unit {y : α} {z : β} {ts : List Tok} {d : Int} (hx : XS K x (.ok (y, ts, d) : R α)) : XS K x (.ok (z, ts, d) : R β) := hx
theorem XS.tok (hx : XS K x r) (hI : K.In h) : ∃ t : Tok, x.ta = some ⟨K.tb, 0, none⟩ ∧ (0 ≤ x.i ∧ x.i < (x.tn : Int)) ∧ h.row K.tb (0 + x.i.toNat * 5) (tokR t) ∧ ∀ y ts d, r = .ok (y, ts, d) → t = hd ts := by
 obtain ⟨⟨h1, h2, h3⟩, j, hj, hlt, hst⟩ := hx
 rcases hI.rows with hn | ⟨b, o, ha, hrow⟩
 · rw [hn] at hlt; simp at hlt
 · injection ha with ha; injection ha with ha hb
   subst ha; subst hb
   obtain ⟨cs, hr, hc⟩ := hrow j K.all[j] (List.getElem?_eq_getElem hlt)
   refine ⟨K.all[j], h1, ⟨by omega, by omega⟩, ?_, fun y ts d he => ?_⟩
   · rw [hj, Int.toNat_natCast, ← hc]; exact hr
   · subst he
     obtain ⟨_, hts, _⟩ := hst
     rw [hts, hd, List.headD_eq_head?_getD, List.head?_drop, List.getElem?_eq_getElem hlt]; rfl
theorem XS.low {y : α} {ts : List Tok} {d : Int} (hx : XS K x (.ok (y, ts, d) : R α)) (hk : (hd ts).kind ≠ 0) : (ts.length : Int) - 1 - 1000000 ≤ d - 1 ∧ d ≤ 32 ∧ x.op = d ∧ x.err = 0 ∧ 0 < (ts.length : Int) ∧ (ts.length : Int) - 1000000 ≤ d := by
 obtain ⟨g, j, hj, hlt, e1, e2, e3, e4, e5⟩ := hx
 have := len_pos e3
 omega
theorem XX.mono {rel rel' : α → Prop} (hx : XX K x r rel) (hr : ∀ y, rel y → rel' y) : XX K x r rel' := ⟨hx.1, fun y ts d h => hr y (hx.2 y ts d h)⟩
theorem XX.then {g : List Tok → Int → R β} {rel rel' : α → Prop} (hx : XX K x r rel) (hP : XS K x' (bindR r fun _ ts d => g ts d)) (hr : ∀ y, rel y → rel' y) : XX K x' (thenR r g) rel' := by
 match r, hx, hP with
 | .error e, hx, hP => exact ⟨hP, fun y ts d h => by cases h⟩
 | .ok (y, ts, d), hx, hP =>
   simp only [thenR, bindR_ok] at hP ⊢
   generalize g ts d = r2 at *
   match r2, hP with
   | .error e, hP => exact ⟨hP, fun y ts d h => by cases h⟩
   | .ok (z, ts2, d2), hP => exact ⟨hP, fun y' ts d h => by cases h; exact hr _ (hx.2 _ _ _ rfl)⟩
theorem XX.pair {g : List Tok → Int → R β} {rel : α → Prop} {rel2 : β → Prop} {rel3 : α × β → Prop} (hx : XX K x r rel) (hP : XX K x' (bindR r fun _ ts d => g ts d) rel2) (hr : ∀ y z, rel y → rel2 z → rel3 (y, z)) : XX K x' (pairR r g) rel3 := by
 match r, hx, hP with
 | .error e, hx, hP => exact ⟨hP.1, fun y ts d h => by cases h⟩
 | .ok (y, ts, d), hx, hP =>
   simp only [pairR, bindR_ok] at hP ⊢
   generalize g ts d = r2 at *
   match r2, hP with
   | .error e, hP => exact ⟨hP.1, fun y ts d h => by cases h⟩
   | .ok (z, ts2, d2), hP => exact ⟨hP.1, fun y' ts d h => by cases h; exact hr _ _ (hx.2 _ _ _ rfl) (hP.2 _ _ _ rfl)⟩
theorem XX.map {k : α → β} {rel : α → Prop} {rel' : β → Prop} (hx : XX K x r rel) (hr : ∀ y, rel y → rel' (k y)) : XX K x (mapR k r) rel' := by
 match r, hx with
 | .error e, hx => exact ⟨hx.1, fun y ts d h => by cases h⟩
 | .ok (y, ts, d), hx => exact ⟨hx.1, fun z ts d h => by cases h; exact hr _ (hx.2 _ _ _ rfl)⟩
theorem XX.unit (hx : XS K x r) : XX K x r fun _ => True := ⟨hx, fun _ _ _ _ => trivial⟩
theorem XX.er {e : Nat × Nat} {rel : α → Prop} (hx : XS K x (.error e : R β)) : XX K x (.error e : R α) rel := ⟨hx, fun y ts d h => by cases h⟩
end
end Go.Proofs.D
namespace Go.Proofs.D
open Go Go.Den Go.Sx
set_option maxRecDepth 100000
attribute [local irreducible] IntKind.wrap Tri
theorem Ext.only {D : Nat → Prop} {h h' : PHeap} (x : Ext h h') : Ext (only D h) (Go.Proofs.D.only D h') := only_ext fun k o hn hk => ⟨hn, x k o hk⟩
def plR (n : Nat) : List Value := [vI n]
structure DC where
 kind : Int
 op : List UInt8
 name : List UInt8
 value : Int
 text : List UInt8
 aa : Option Addr
 an : Nat
 ac : Nat
 pos : Int
def DC.l (c : DC) : List Value := [vI c.kind, vS c.op, vS c.name, vI c.value, vS c.text, vL c.aa c.an c.ac, vI c.pos]
theorem DC.one (c : DC) : allOne c.l = true := rfl
def REx (K : QK) (h : PHeap) (r : R E) (v : Value) (h' : PHeap) : Prop :=
 ∃ (x' : XC) (c : DC), v = vT [vA x'.l, vA c.l] ∧ Ext h h' ∧ XX K x' r fun e => RE plR 7 (only (New h) h') e c.l
section
variable {K : QK} {x : XC} {h : PHeap} {ts : List Tok} {d : Int}
theorem REx.after {h1 h2 : PHeap} {r : R E} {v : Value} (hx : Ext h h1) (hE : REx K h1 r v h2) : REx K h r v h2 := by
 obtain ⟨x', c, rfl, hx2, hX⟩ := hE
 exact ⟨x', c, rfl, hx.trans hx2, hX.mono fun e he => he.ext (only_new hx.dom)⟩
end
end Go.Proofs.D
namespace Go.Proofs.D
open Go Go.Den Go.Sx
set_option maxRecDepth 100000
attribute [local irreducible] IntKind.wrap Tri
section
variable {K : QK} {x : XC} {h : PHeap} {ts : List Tok} {d : Int}
end
end Go.Proofs.D
namespace Go.Proofs.D
open Go Go.Den Go.Sx
set_option maxRecDepth 100000
attribute [local irreducible] IntKind.wrap Tri
structure SD where
 kind : Int
 name : List UInt8
 aa : Option Addr
 an : Nat
 ac : Nat
 ba : Option Addr
 bn : Nat
 bc : Nat
 ea : Option Addr
 en : Nat
 ec : Nat
 pos : Int
def SD.l (c : SD) : List Value := [vI c.kind, vS c.name, vL c.aa c.an c.ac, vL c.ba c.bn c.bc, vL c.ea c.en c.ec, vI c.pos]
theorem SD.one (c : SD) : allOne c.l = true := rfl
section
variable {K : QK} {x : XC} {h : PHeap} {ts : List Tok} {d : Int}
theorem LM.one {e k : Nat} {h0 h1 h2 h3 : PHeap} {b : Nat} {l : List Value} (hl : l.length = k) (hx : Ext h0 h1) (hb : h1 b = none) (hh : h2 = h1.put b (.cells ⟨l⟩ e)) (hx3 : Ext h2 h3) : LM e k h0 h3 (ad b 0) 1 1 [l] := by
 have hat := hx3 _ _ (Put.at hh)
 refine ⟨fun q hq => ?_, rfl, fun j cs hj => ?_, ⟨by simp [hl], .inr ⟨b, 1, [], rfl, by simpa using hat, by simp, by omega⟩⟩, fun e => absurd e (by decide)⟩
 · injection hq with hq; injection hq with hq; subst hq
   exact ⟨hx.dom _ hb, ne_of hat⟩
 · match j, hj with
   | 0, hj => simp at hj; subst hj; exact hl
   | j + 1, hj => simp at hj
end
end Go.Proofs.D
namespace Go.Proofs.D
open Go Go.Den Go.Sx
set_option maxRecDepth 100000
attribute [local irreducible] IntKind.wrap Tri
section
variable {K : QK} {F : Nat} {fin : R Pg} {h h1 h2 h3 : PHeap} {m : Nat} {x x2 : XC} {ga : Option Addr} {gn gc : Nat} {fa : Option Addr} {fn fc : Nat} {cG cF : List (List Value)} {p : Pg} {ts : List Tok} {d : Int}
end
end Go.Proofs.D
namespace Go.Sx
structure PO (PT : Tok → Prop) (PX : Nat → Prop) : Prop where
 z : PX 0
 t : ∀ t, PT t → PX t.pos
structure ClE (PT : Tok → Prop) (PX : Nat → Prop) (PE : E → Prop) : Prop extends PO PT PX where
 c1 : ∀ t, PT t → t.kind = 2 → PE (.mk 1 [] [] t.value [] [] t.pos)
 c2 : ∀ t, PT t → t.kind = 3 → PE (.mk 2 [] [] 0 t.bytes [] t.pos)
 c3 : ∀ t, PT t → t.kind = 1 → PE (.mk 3 [] t.text 0 [] [] t.pos)
 c4 : ∀ t e, PT t → t.kind = 1 → PE e → PE (.mk 4 [] t.text 0 [] [e] t.pos)
 c5 : ∀ t l, PT t → t.kind = 1 → (∀ e ∈ l, PE e) → PE (.mk 5 [] t.text 0 [] l t.pos)
 c6 : ∀ t e, PT t → (t.text = [45] ∨ t.text = [33] ∨ t.text = [126]) → PE e → PE (.mk 6 t.text [] 0 [] [e] t.pos)
 c7 : ∀ t e e', PT t → t.kind = 5 → 1 ≤ levelS t.text → levelS t.text ≤ 10 → PE e → PE e' → PE (.mk 7 t.text [] 0 [] [e, e'] t.pos)
structure ClS (PT : Tok → Prop) (PX : Nat → Prop) (PE : E → Prop) (PS : S → Prop) : Prop extends ClE PT PX PE where
 s1 : ∀ t u l, PT t → PT u → u.kind = 1 → (l = [] ∨ ∃ e, l = [e] ∧ PE e) → PS (.mk 1 u.text l [] [] t.pos)
 s2 : ∀ t e, PT t → t.kind = 1 → PE e → PS (.mk 2 t.text [e] [] [] t.pos)
 s3 : ∀ t i e, PT t → t.kind = 1 → PE i → PE e → PS (.mk 3 t.text [i, e] [] [] t.pos)
 s4 : ∀ t l, PT t → t.kind = 1 → (∀ e ∈ l, PE e) → PS (.mk 4 [] [.mk 5 [] t.text 0 [] l t.pos] [] [] t.pos)
 s5 : ∀ t e b c, PT t → PE e → (∀ s ∈ b, PS s) → (∀ s ∈ c, PS s) → PS (.mk 5 [] [e] b c t.pos)
 s6 : ∀ t e b, PT t → PE e → (∀ s ∈ b, PS s) → PS (.mk 6 [] [e] b [] t.pos)
 s7 : ∀ t l, PT t → (l = [] ∨ ∃ e, l = [e] ∧ PE e) → PS (.mk 7 [] l [] [] t.pos)
 s8 : ∀ t, PT t → PS (.mk 8 [] [] [] [] t.pos)
 s9 : ∀ t, PT t → PS (.mk 9 [] [] [] [] t.pos)
def TB (PT : Tok → Prop) (ts : List Tok) : Prop := ∀ t ∈ ts, PT t
def RP {α : Type} (PT : Tok → Prop) (PX : Nat → Prop) (P : α → Prop) (r : R α) : Prop := (∀ x ts d, r = .ok (x, ts, d) → P x ∧ TB PT ts) ∧ ∀ e, r = .error e → PX e.2
section
variable {PT : Tok → Prop} {PX : Nat → Prop} {PE : E → Prop} {PS : S → Prop}
theorem TB.tail {ts : List Tok} (h : TB PT ts) : TB PT ts.tail := fun t ht => h t (List.mem_of_mem_tail ht)
theorem TB.hd {ts : List Tok} {n : Nat} (h : TB PT ts) (hl : ts.tail.length + 1 = ts.length) : PT (hd ts) := by
 cases ts with
 | nil => simp at hl
 | cons t ts => exact h t (List.mem_cons_self ..)
theorem TB.hdK {ts : List Tok} {k : Nat} (h : TB PT ts) (hk : k ≠ 0) (e : isK ts k = true) : PT (Go.Sx.hd ts) ∧ (Go.Sx.hd ts).kind = k := ⟨h.hd (n := 0) (isK_ne hk e), by simpa [isK] using e⟩
theorem TB.hdT {ts : List Tok} {t : Bytes} (h : TB PT ts) (e : isT ts t = true) : PT (Go.Sx.hd ts) ∧ (Go.Sx.hd ts).text = t := ⟨h.hd (n := 0) (isT_ne e), by
 simp only [isT, Bool.and_eq_true, beq_iff_eq] at e; exact e.2⟩
theorem TB.px (O : PO PT PX) {ts : List Tok} (h : TB PT ts) : PX (Go.Sx.hd ts).pos := by
 cases ts with
 | nil => exact O.z
 | cons t ts => exact O.t t (h t (List.mem_cons_self ..))
theorem RP.bind {α β : Type} {P : α → Prop} {P' : β → Prop} {r : R α} {g : α → List Tok → Int → R β} (h : RP PT PX P r) (hg : ∀ x ts d, P x → TB PT ts → RP PT PX P' (g x ts d)) : RP PT PX P' (bindR r g) := by
 match r, h with
 | .error e, h => exact ⟨(fun x ts d hx => by cases hx), fun e' he => h.2 e' (by injection he with he; rw [he])⟩
 | .ok (x, ts, d), h => exact hg x ts d (h.1 x ts d rfl).1 (h.1 x ts d rfl).2
theorem RP.ok {α : Type} {P : α → Prop} {x : α} {ts : List Tok} {d : Int} (h1 : P x) (h2 : TB PT ts) : RP PT PX P (.ok (x, ts, d) : R α) := ⟨(fun y us e hy => by cases hy; exact ⟨h1, h2⟩), fun e he => by cases he⟩
theorem RP.err {α : Type} {P : α → Prop} {e : Nat × Nat} (h : PX e.2) : RP PT PX P (.error e : R α) := ⟨(fun y us d hy => by cases hy), fun e' he => by injection he with he; rw [← he]; exact h⟩
theorem takeT_rp (O : PO PT PX) {t : Bytes} {ts : List Tok} {d : Int} (h : TB PT ts) : RP PT PX (fun _ => True) (takeT t ts d) := by
 unfold takeT
 split
 · exact RP.err (h.px O)
 · split
   · split
     · exact RP.err (h.px O)
     · exact RP.ok trivial h.tail
   · split
     · exact RP.ok trivial h.tail
     · exact RP.ok trivial h.tail
theorem takeK_rp (O : PO PT PX) {k : Nat} (hk : k ≠ 0) {ts : List Tok} {d : Int} (h : TB PT ts) : RP PT PX (fun t => PT t ∧ t.kind = k) (takeK k ts d) := by
 unfold takeK
 split
 · rename_i e
   exact RP.ok (h.hdK hk e) h.tail
 · exact RP.err (h.px O)
structure GX (PT : Tok → Prop) (PX : Nat → Prop) (PE : E → Prop) (f : Nat) : Prop where
 bin : ∀ lv ts d, 1 ≤ lv → TB PT ts → RP PT PX PE (pBin f lv ts d)
 loop : ∀ lv e ts d, 1 ≤ lv → lv ≤ 10 → PE e → TB PT ts → RP PT PX PE (pLoop f lv e ts d)
 un : ∀ ts d, TB PT ts → RP PT PX PE (pUn f ts d)
 prim : ∀ ts d, TB PT ts → RP PT PX PE (pPrim f ts d)
 name : ∀ ts d, isK ts 1 = true → TB PT ts → RP PT PX PE (pName f ts d)
 call : ∀ t ts d, PT t → t.kind = 1 → TB PT ts → RP PT PX (fun e => PE e ∧ ∃ l, e = .mk 5 [] t.text 0 [] l t.pos ∧ ∀ x ∈ l, PE x) (pCall f t ts d)
 args : ∀ ts d, TB PT ts → RP PT PX (fun l => ∀ e ∈ l, PE e) (pArgs f ts d)
 more : ∀ l ts d, (∀ e ∈ l, PE e) → TB PT ts → RP PT PX (fun l => ∀ e ∈ l, PE e) (pMore f l ts d)
theorem RP.mono {α : Type} {P P' : α → Prop} {r : R α} (h : RP PT PX P r) (hp : ∀ x, P x → P' x) : RP PT PX P' r := ⟨fun x ts d hx => ⟨hp x (h.1 x ts d hx).1, (h.1 x ts d hx).2⟩, h.2⟩
theorem gx (C : ClE PT PX PE) : ∀ f, GX PT PX PE f
 | 0 => ⟨fun lv ts d _ _ => by unfold pBin; exact RP.err C.z, fun lv e ts d _ _ _ _ => by unfold pLoop; exact RP.err C.z, fun ts d _ => by unfold pUn; exact RP.err C.z, fun ts d _ => by unfold pPrim; exact RP.err C.z, fun ts d _ _ => by unfold pName; exact RP.err C.z,
     fun t ts d _ _ _ => by unfold pCall; exact RP.err C.z, fun ts d _ => by unfold pArgs; exact RP.err C.z, fun l ts d _ _ => by unfold pMore; exact RP.err C.z⟩
 | f + 1 => by
   have X := gx C f
   have O := C.toPO
   refine ⟨fun lv ts d h1 h => ?_, fun lv e ts d h1 h2 he h => ?_, fun ts d h => ?_, fun ts d h => ?_, fun ts d hk h => ?_, fun t ts d ht hk h => ?_, fun ts d h => ?_, fun l ts d hl h => ?_⟩
   · unfold pBin
     split
     · exact X.un ts d h
     · rename_i hlv
       refine (X.bin (lv + 1) ts d (by omega) h).bind fun e ts' d' he ht => ?_
       by_cases h10 : lv ≤ 10
       · exact X.loop lv e ts' d' h1 h10 he ht
       · -- no operator has such a level
         match f with
         | 0 => unfold pLoop; exact RP.err C.z
         | f + 1 =>
           unfold pLoop
           split
           · rename_i hc
             exfalso
             simp only [Bool.and_eq_true, beq_iff_eq] at hc
             have : levelS (hd ts').text ≤ 10 := by
              unfold levelS; repeat' split
              all_goals omega
             omega
           · exact RP.ok he ht
   · unfold pLoop
     split
     · rename_i hc
       simp only [Bool.and_eq_true, beq_iff_eq] at hc
       have h5 := h.hdK (by decide) hc.1
       exact (X.bin (lv + 1) ts.tail d (by omega) h.tail).bind fun e' ts' d' he' ht => X.loop lv _ ts' d' h1 h2 (C.c7 _ e e' h5.1 h5.2 (by omega) (by omega) he he') ht
     · exact RP.ok he h
   · unfold pUn
     split
     · rename_i hc
       have ht : PT (hd ts) ∧ ((hd ts).text = [45] ∨ (hd ts).text = [33] ∨ (hd ts).text = [126]) := by
        simp only [Bool.or_eq_true] at hc
        rcases hc with (hc | hc) | hc
        · exact ⟨(h.hdT hc).1, .inl (h.hdT hc).2⟩
        · exact ⟨(h.hdT hc).1, .inr (.inl (h.hdT hc).2)⟩
        · exact ⟨(h.hdT hc).1, .inr (.inr (h.hdT hc).2)⟩
       exact (X.un ts.tail d h.tail).bind fun e ts' d' he ht' => RP.ok (C.c6 _ e ht.1 ht.2 he) ht'
     · exact X.prim ts d h
   · unfold pPrim
     split
     · rename_i hc; have := h.hdK (by decide) hc; exact RP.ok (C.c1 _ this.1 this.2) h.tail
     split
     · rename_i hc; have := h.hdK (by decide) hc; exact RP.ok (C.c2 _ this.1 this.2) h.tail
     split
     · rename_i hc; exact X.name ts d hc h
     exact (takeT_rp O h).bind fun _ ts1 d1 _ h1 => (X.bin 1 ts1 d1 (by omega) h1).bind fun e ts2 d2 he h2 => (takeT_rp O h2).bind fun _ ts3 d3 _ h3 => RP.ok he h3
   · unfold pName
     have hh := h.hdK (by decide) hk
     split
     · exact (X.call _ ts.tail d hh.1 hh.2 h.tail).mono fun e he => he.1
     split
     · exact (takeT_rp O h.tail).bind fun _ ts1 d1 _ h1 => (X.bin 1 ts1 d1 (by omega) h1).bind fun e ts2 d2 he h2 => (takeT_rp O h2).bind fun _ ts3 d3 _ h3 => RP.ok (C.c4 _ e hh.1 hh.2 he) h3
     · exact RP.ok (C.c3 _ hh.1 hh.2) h.tail
   · unfold pCall
     exact (takeT_rp O h).bind fun _ ts1 d1 _ h1 => (X.args ts1 d1 h1).bind fun l ts2 d2 hl h2 => (takeT_rp O h2).bind fun _ ts3 d3 _ h3 => RP.ok ⟨C.c5 _ l ht hk hl, l, rfl, hl⟩ h3
   · unfold pArgs
     split
     · exact RP.ok (fun e he => by cases he) h
     · exact (X.bin 1 ts d (by omega) h).bind fun e ts' d' he h1 => X.more _ ts' d' (fun x hx => by simp at hx; subst hx; exact he) h1
   · unfold pMore
     split
     · exact (takeT_rp O h).bind fun _ ts1 d1 _ h1 => (X.bin 1 ts1 d1 (by omega) h1).bind fun e ts' d' he h2 => X.more _ ts' d' (fun x hx => by
        rw [List.mem_append] at hx
        rcases hx with hx | hx
        · exact hl x hx
        · simp at hx; subst hx; exact he) h2
     · exact RP.ok hl h
theorem pCond_rp (C : ClE PT PX PE) {f : Nat} {ts : List Tok} {d : Int} (h : TB PT ts) : RP PT PX PE (pCond f ts d) := by
 have O := C.toPO
 unfold pCond
 exact (takeT_rp O h).bind fun _ ts1 d1 _ h1 => ((gx C f).bin 1 ts1 d1 (by omega) h1).bind fun e ts2 d2 he h2 => (takeT_rp O h2).bind fun _ ts3 d3 _ h3 => RP.ok he h3
structure GS (PT : Tok → Prop) (PX : Nat → Prop) (PS : S → Prop) (f : Nat) : Prop where
 block : ∀ ts d, TB PT ts → RP PT PX (fun l => ∀ s ∈ l, PS s) (pBlock f ts d)
 stmts : ∀ l ts d, (∀ s ∈ l, PS s) → TB PT ts → RP PT PX (fun l => ∀ s ∈ l, PS s) (pStmts f l ts d)
 stmt : ∀ ts d, TB PT ts → RP PT PX PS (pStmt f ts d)
 ifs : ∀ ts d, PT (hd ts) → TB PT ts → RP PT PX PS (pIf f ts d)
 named : ∀ ts d, isK ts 1 = true → TB PT ts → RP PT PX PS (pNamed f ts d)
theorem gs (C : ClS PT PX PE PS) : ∀ f, GS PT PX PS f
 | 0 => ⟨fun ts d _ => by unfold pBlock; exact RP.err C.z, fun l ts d _ _ => by unfold pStmts; exact RP.err C.z, fun ts d _ => by unfold pStmt; exact RP.err C.z, fun ts d _ _ => by unfold pIf; exact RP.err C.z, fun ts d _ _ => by rw [pNamed]; exact RP.err C.z⟩
 | f + 1 => by
   have X := gs C f
   have O := C.toPO
   have Y := gx C.toClE f
   refine ⟨fun ts d h => ?_, fun l ts d hl h => ?_, fun ts d h => ?_, fun ts d hk h => ?_, fun ts d hk h => ?_⟩
   · unfold pBlock
     exact (takeT_rp O h).bind fun _ ts1 d1 _ h1 => X.stmts _ ts1 d1 (fun s hs => by cases hs) h1
   · unfold pStmts
     split
     · exact (takeT_rp O h).bind fun _ ts1 d1 _ h1 => RP.ok hl h1
     · exact (X.stmt ts d h).bind fun s ts1 d1 hs h1 => X.stmts _ ts1 d1 (fun x hx => by
        rw [List.mem_append] at hx
        rcases hx with hx | hx
        · exact hl x hx
        · simp at hx; subst hx; exact hs) h1
   · unfold pStmt
     split
     · rename_i hc; exact X.named ts d hc h
     split
     · rename_i hc
       have hh := (h.hdT hc).1
       refine (takeK_rp O (by decide) h.tail).bind fun t ts1 d1 ht h1 => ?_
       split
       · exact (takeT_rp O h1).bind fun _ ts2 d2 _ h2 => (Y.bin 1 ts2 d2 (by omega) h2).bind fun e ts3 d3 he h3 => (takeT_rp O h3).bind fun _ ts4 d4 _ h4 => RP.ok (C.s1 _ t _ hh ht.1 ht.2 (.inr ⟨e, rfl, he⟩)) h4
       · exact (takeT_rp O h1).bind fun _ ts2 d2 _ h2 => RP.ok (C.s1 _ t _ hh ht.1 ht.2 (.inl rfl)) h2
     split
     · rename_i hc; exact X.ifs ts d (h.hdT hc).1 h
     split
     · rename_i hc
       have hh := (h.hdT hc).1
       exact (pCond_rp C.toClE h.tail).bind fun e ts1 d1 he h1 => (X.block ts1 d1 h1).bind fun b ts2 d2 hb h2 => RP.ok (C.s6 _ e b hh he hb) h2
     split
     · rename_i hc
       have hh := (h.hdT hc).1
       split
       · exact (takeT_rp O h.tail).bind fun _ ts2 d2 _ h2 => RP.ok (C.s7 _ _ hh (.inl rfl)) h2
       · exact (Y.bin 1 ts.tail d (by omega) h.tail).bind fun e ts3 d3 he h3 => (takeT_rp O h3).bind fun _ ts4 d4 _ h4 => RP.ok (C.s7 _ _ hh (.inr ⟨e, rfl, he⟩)) h4
     split
     · rename_i hc
       exact (takeT_rp O h.tail).bind fun _ ts2 d2 _ h2 => RP.ok (C.s8 _ (h.hdT hc).1) h2
     split
     · rename_i hc
       exact (takeT_rp O h.tail).bind fun _ ts2 d2 _ h2 => RP.ok (C.s9 _ (h.hdT hc).1) h2
     · exact RP.err (h.px O)
   · unfold pIf
     refine (pCond_rp C.toClE h.tail).bind fun e ts1 d1 he h1 => ?_
     refine (X.block ts1 d1 h1).bind fun b ts2 d2 hb h2 => ?_
     split
     · split
       · rename_i hc2
         exact (X.ifs ts2.tail d2 (h2.tail.hdT hc2).1 h2.tail).bind fun s ts3 d3 hs h3 => RP.ok (C.s5 _ e b [s] hk he hb (fun x hx => by simp at hx; subst hx; exact hs)) h3
       · exact (X.block ts2.tail d2 h2.tail).bind fun c ts3 d3 hc h3 => RP.ok (C.s5 _ e b c hk he hb hc) h3
     · exact RP.ok (C.s5 _ e b [] hk he hb (fun x hx => by cases hx)) h2
   · rw [pNamed]
     have hh := h.hdK (by decide) hk
     split
     · exact (takeT_rp O h.tail).bind fun _ ts2 d2 _ h2 => (Y.bin 1 ts2 d2 (by omega) h2).bind fun e ts3 d3 he h3 => (takeT_rp O h3).bind fun _ ts4 d4 _ h4 => RP.ok (C.s2 _ e hh.1 hh.2 he) h4
     split
     · exact (takeT_rp O h.tail).bind fun _ ts2 d2 _ h2 => (Y.bin 1 ts2 d2 (by omega) h2).bind fun i ts3 d3 hi h3 => (takeT_rp O h3).bind fun _ ts4 d4 _ h4 => (takeT_rp O h4).bind fun _ ts5 d5 _ h5 =>
        (Y.bin 1 ts5 d5 (by omega) h5).bind fun e ts6 d6 he h6 => (takeT_rp O h6).bind fun _ ts7 d7 _ h7 => RP.ok (C.s3 _ i e hh.1 hh.2 hi he) h7
     · refine (Y.call _ ts.tail d hh.1 hh.2 h.tail).bind fun e ts3 d3 he h3 => ?_
       obtain ⟨_, l, rfl, hl⟩ := he
       exact (takeT_rp O h3).bind fun _ ts4 d4 _ h4 => RP.ok (C.s4 _ l hh.1 hh.2 hl) h4
structure ClP (PT : Tok → Prop) (PX : Nat → Prop) (PE : E → Prop) (PS : S → Prop) (PG : G → Prop) (PF : F → Prop) : Prop extends ClS PT PX PE PS where
 g0 : ∀ t, PT t → t.kind = 1 → PG ⟨t.text, 0, 0, t.pos⟩
 g1 : ∀ t n, PT t → t.kind = 1 → PT n → n.kind = 2 → PG ⟨t.text, 0, n.value, t.pos⟩
 g2 : ∀ t n, PT t → t.kind = 1 → PT n → n.kind = 2 → PG ⟨t.text, n.value, 0, t.pos⟩
 f1 : ∀ t ps b, PT t → t.kind = 1 → (∀ q ∈ ps, ∃ u, PT u ∧ u.kind = 1 ∧ u.text = q) → (∀ s ∈ b, PS s) → PF ⟨t.text, ps, b, t.pos⟩
variable {PG : G → Prop} {PF : F → Prop}
theorem pGlobal_rp (C : ClP PT PX PE PS PG PF) {ts : List Tok} {d : Int} (h : TB PT ts) : RP PT PX PG (pGlobal ts d) := by
 have O := C.toPO
 unfold pGlobal
 refine (takeT_rp O h).bind fun _ ts1 d1 _ h1 => (takeK_rp O (by decide) h1).bind fun t ts2 d2 ht h2 => ?_
 split
 · exact (takeT_rp O h2).bind fun _ ts3 d3 _ h3 => (takeK_rp O (by decide) h3).bind fun n ts4 d4 hn h4 => (takeT_rp O h4).bind fun _ ts5 d5 _ h5 => RP.ok (C.g1 t n ht.1 ht.2 hn.1 hn.2) h5
 split
 · exact (takeT_rp O h2).bind fun _ ts3 d3 _ h3 => (takeK_rp O (by decide) h3).bind fun n ts4 d4 hn h4 => (takeT_rp O h4).bind fun _ ts5 d5 _ h5 => (takeT_rp O h5).bind fun _ ts6 d6 _ h6 => RP.ok (C.g2 t n ht.1 ht.2 hn.1 hn.2) h6
 · exact (takeT_rp O h2).bind fun _ ts3 d3 _ h3 => RP.ok (C.g0 t ht.1 ht.2) h3
theorem pMoreP_rp (O : PO PT PX) : ∀ (f : Nat) (l : List Bytes) (ts : List Tok) (d : Int), (∀ q ∈ l, ∃ u, PT u ∧ u.kind = 1 ∧ u.text = q) → TB PT ts → RP PT PX (fun l => ∀ q ∈ l, ∃ u, PT u ∧ u.kind = 1 ∧ u.text = q) (pMoreP f l ts d)
 | 0, _, _, _, _, _ => RP.err O.z
 | f + 1, l, ts, d, hl, h => by
   unfold pMoreP
   split
   · exact (takeT_rp O h).bind fun _ ts1 d1 _ h1 => (takeK_rp O (by decide) h1).bind fun t ts2 d2 ht h2 => pMoreP_rp O f _ ts2 d2 (fun q hq => by
      rw [List.mem_append] at hq
      rcases hq with hq | hq
      · exact hl q hq
      · simp at hq; subst hq; exact ⟨t, ht.1, ht.2, rfl⟩) h2
   · exact RP.ok hl h
theorem pFunc_rp (C : ClP PT PX PE PS PG PF) {f : Nat} {ts : List Tok} {d : Int} (h : TB PT ts) : RP PT PX PF (pFunc f ts d) := by
 have O := C.toPO
 unfold pFunc
 refine (takeT_rp O h).bind fun _ ts1 d1 _ h1 => (takeK_rp O (by decide) h1).bind fun t ts2 d2 ht h2 => (takeT_rp O h2).bind fun _ ts3 d3 _ h3 => ?_
 refine RP.bind (P := fun l => ∀ q ∈ l, ∃ u, PT u ∧ u.kind = 1 ∧ u.text = q) ?_ fun ps ts4 d4 hps h4 => (takeT_rp O h4).bind fun _ ts5 d5 _ h5 => ((gs C.toClS f).block ts5 d5 h5).bind fun b ts6 d6 hb h6 => RP.ok (C.f1 t ps b ht.1 ht.2 hps hb) h6
 unfold pParams
 split
 · exact RP.ok (fun q hq => by cases hq) h3
 · exact (takeK_rp O (by decide) h3).bind fun t ts5 d5 ht h5 => pMoreP_rp O f _ ts5 d5 (fun q hq => by simp at hq; subst hq; exact ⟨t, ht.1, ht.2, rfl⟩) h5
theorem pProg_rp (C : ClP PT PX PE PS PG PF) : ∀ (f : Nat) (p : Pg) (ts : List Tok) (d : Int), (∀ g ∈ p.globals, PG g) → (∀ g ∈ p.funcs, PF g) → TB PT ts → RP PT PX (fun p => (∀ g ∈ p.globals, PG g) ∧ ∀ g ∈ p.funcs, PF g) (pProg f p ts d)
 | 0, _, _, _, _, _, _ => RP.err C.z
 | f + 1, p, ts, d, hg, hf, h => by
   unfold pProg
   split
   · exact RP.ok ⟨hg, hf⟩ h
   split
   · exact (pGlobal_rp C h).bind fun g ts1 d1 h1 h2 => pProg_rp C f _ ts1 d1 (fun x hx => by
      rw [List.mem_append] at hx
      rcases hx with hx | hx
      · exact hg x hx
      · simp at hx; subst hx; exact h1) hf h2
   · exact (pFunc_rp C (f := f) h).bind fun g ts1 d1 h1 h2 => pProg_rp C f _ ts1 d1 hg (fun x hx => by
      rw [List.mem_append] at hx
      rcases hx with hx | hx
      · exact hf x hx
      · simp at hx; subst hx; exact h1) h2
end
end Go.Sx
namespace Go.Sx
mutual
def cntE : E → Nat
 | .mk _ _ _ _ _ args _ => cntEs args + 1
def cntEs : List E → Nat
 | [] => 0
 | e :: es => cntE e + cntEs es
end
mutual
def cntS : S → Nat
 | .mk _ _ args body els _ => cntEs args + cntSs body + cntSs els + 1
def cntSs : List S → Nat
 | [] => 0
 | s :: ss => cntS s + cntSs ss
end
theorem cntEs_append : ∀ (l m : List E), cntEs (l ++ m) = cntEs l + cntEs m
 | [], m => by simp [cntEs]
 | e :: l, m => by simp [cntEs, cntEs_append l m]; omega
theorem cntSs_append : ∀ (l m : List S), cntSs (l ++ m) = cntSs l + cntSs m
 | [], m => by simp [cntSs]
 | e :: l, m => by simp [cntSs, cntSs_append l m]; omega
theorem cntE_pos : ∀ (e : E), 1 ≤ cntE e
 | .mk _ _ _ _ _ _ _ => by simp [cntE]
theorem cntS_pos : ∀ (e : S), 1 ≤ cntS e
 | .mk _ _ _ _ _ _ => by simp [cntS]
theorem cntEs_len : ∀ (l : List E), l.length ≤ cntEs l
 | [] => by simp
 | e :: l => by have := cntE_pos e; have := cntEs_len l; simp [cntEs]; omega
theorem cntSs_len : ∀ (l : List S), l.length ≤ cntSs l
 | [] => by simp
 | e :: l => by have := cntS_pos e; have := cntSs_len l; simp [cntSs]; omega
theorem cntEs_mem : ∀ {l : List E} {e : E}, e ∈ l → cntE e ≤ cntEs l
 | e :: l, x, hx => by
   cases hx with
   | head => simp [cntEs]
   | tail _ hx => have := cntEs_mem hx; simp [cntEs]; omega
theorem cntSs_mem : ∀ {l : List S} {e : S}, e ∈ l → cntS e ≤ cntSs l
 | e :: l, x, hx => by
   cases hx with
   | head => simp [cntSs]
   | tail _ hx => have := cntSs_mem hx; simp [cntSs]; omega
def CN {α : Type} (c : α → Nat) (n : Nat) (r : R α) : Prop := ∀ x ts d, r = .ok (x, ts, d) → c x + ts.length ≤ n
theorem CN.bind {α β : Type} {c : α → Nat} {c' : β → Nat} {n n' : Nat} {r : R α} {g : α → List Tok → Int → R β} (h : CN c n r) (hg : ∀ x ts d, c x + ts.length ≤ n → CN c' n' (g x ts d)) : CN c' n' (bindR r g) := by
 match r, h with
 | .error e, h => intro x ts d hx; cases hx
 | .ok (x, ts, d), h => exact hg x ts d (h x ts d rfl)
theorem CN.ok {α : Type} {c : α → Nat} {n : Nat} {x : α} {ts : List Tok} {d : Int} (h : c x + ts.length ≤ n) : CN c n (.ok (x, ts, d) : R α) := fun y us e hy => by cases hy; exact h
theorem CN.err {α : Type} {c : α → Nat} {n : Nat} {e : Nat × Nat} : CN c n (.error e : R α) := fun y us d hy => by cases hy
theorem CN.up {α : Type} {c c' : α → Nat} {n n' : Nat} {r : R α} (h : CN c n r) (hc : ∀ x, c' x + n ≤ c x + n') : CN c' n' r := fun x ts d hx => by have := h x ts d hx; have := hc x; omega
theorem takeT_cn (t : Bytes) (ts : List Tok) (d : Int) : CN (fun _ => 1) ts.length (takeT t ts d) := fun x us e hx => by
 have := (takeT_fn t ts d).2 x us e hx; show 1 + us.length ≤ ts.length; omega
theorem takeK_cn (k : Nat) (hk : k ≠ 0) (ts : List Tok) (d : Int) : CN (fun _ => 1) ts.length (takeK k ts d) := fun x us e hx => by
 have := (takeK_fn k hk ts d).2 x us e hx; show 1 + us.length ≤ ts.length; omega
structure HX (f : Nat) : Prop where
 bin : ∀ lv ts d, CN cntE ts.length (pBin f lv ts d)
 loop : ∀ lv e ts d, CN cntE (cntE e + ts.length) (pLoop f lv e ts d)
 un : ∀ ts d, CN cntE ts.length (pUn f ts d)
 prim : ∀ ts d, CN cntE ts.length (pPrim f ts d)
 name : ∀ ts d, isK ts 1 = true → CN cntE ts.length (pName f ts d)
 call : ∀ t ts d, CN (fun e => cntE e + 1) ts.length (pCall f t ts d)
 args : ∀ ts d, CN cntEs ts.length (pArgs f ts d)
 more : ∀ l ts d, CN cntEs (cntEs l + ts.length) (pMore f l ts d)
theorem hx : ∀ f, HX f
 | 0 => ⟨fun lv ts d => by unfold pBin; exact CN.err, fun lv e ts d => by unfold pLoop; exact CN.err, fun ts d => by unfold pUn; exact CN.err, fun ts d => by unfold pPrim; exact CN.err, fun ts d _ => by unfold pName; exact CN.err,
     fun t ts d => by unfold pCall; exact CN.err, fun ts d => by unfold pArgs; exact CN.err, fun l ts d => by unfold pMore; exact CN.err⟩
 | f + 1 => by
   have X := hx f
   refine ⟨fun lv ts d => ?_, fun lv e ts d => ?_, fun ts d => ?_, fun ts d => ?_, fun ts d hk => ?_, fun t ts d => ?_, fun ts d => ?_, fun l ts d => ?_⟩
   · unfold pBin
     split
     · exact X.un ts d
     · exact (X.bin (lv + 1) ts d).bind fun e ts1 d1 h => (X.loop lv e ts1 d1).up fun x => by omega
   · unfold pLoop
     split
     · rename_i hc
       simp only [Bool.and_eq_true] at hc
       have := isK_ne (by decide) hc.1
       exact (X.bin (lv + 1) ts.tail d).bind fun e' ts1 d1 h => (X.loop lv _ ts1 d1).up fun x => by simp only [cntE, cntEs]; omega
     · exact CN.ok (Nat.le_refl _)
   · unfold pUn
     split
     · rename_i hc
       have : ts.tail.length + 1 = ts.length := by
        simp only [Bool.or_eq_true] at hc
        rcases hc with (hc | hc) | hc <;> exact isT_ne hc
       exact (X.un ts.tail d).bind fun e ts1 d1 h => CN.ok (by simp only [cntE, cntEs]; omega)
     · exact X.prim ts d
   · unfold pPrim
     split
     · rename_i hc; have := isK_ne (by decide) hc; exact CN.ok (by simp only [cntE, cntEs]; omega)
     split
     · rename_i hc; have := isK_ne (by decide) hc; exact CN.ok (by simp only [cntE, cntEs]; omega)
     split
     · rename_i hc; exact X.name ts d hc
     exact (takeT_cn _ ts d).bind fun _ ts1 d1 h1 => (X.bin 1 ts1 d1).bind fun e ts2 d2 h2 => (takeT_cn _ ts2 d2).bind fun _ ts3 d3 h3 => CN.ok (by omega)
   · unfold pName
     have := isK_ne (by decide) hk
     split
     · exact (X.call _ ts.tail d).up fun x => by omega
     split
     · exact (takeT_cn _ ts.tail d).bind fun _ ts1 d1 h1 => (X.bin 1 ts1 d1).bind fun e ts2 d2 h2 => (takeT_cn _ ts2 d2).bind fun _ ts3 d3 h3 => CN.ok (by simp only [cntE, cntEs]; omega)
     · exact CN.ok (by simp only [cntE, cntEs]; omega)
   · unfold pCall
     exact (takeT_cn _ ts d).bind fun _ ts1 d1 h1 => (X.args ts1 d1).bind fun l ts2 d2 h2 => (takeT_cn _ ts2 d2).bind fun _ ts3 d3 h3 => CN.ok (by simp only [cntE]; omega)
   · unfold pArgs
     split
     · exact CN.ok (by simp [cntEs])
     · exact (X.bin 1 ts d).bind fun e ts1 d1 h => (X.more _ ts1 d1).up fun x => by simp only [cntEs]; omega
   · unfold pMore
     split
     · exact (takeT_cn _ ts d).bind fun _ ts1 d1 h1 => (X.bin 1 ts1 d1).bind fun e ts2 d2 h2 => (X.more _ ts2 d2).up fun x => by rw [cntEs_append]; simp only [cntEs]; omega
     · exact CN.ok (Nat.le_refl _)
theorem pCond_cn (f : Nat) (ts : List Tok) (d : Int) : CN (fun e => cntE e + 2) ts.length (pCond f ts d) := by
 unfold pCond
 exact (takeT_cn _ ts d).bind fun _ ts1 d1 h1 => ((hx f).bin 1 ts1 d1).bind fun e ts2 d2 h2 => (takeT_cn _ ts2 d2).bind fun _ ts3 d3 h3 => CN.ok (by omega)
structure HS (f : Nat) : Prop where
 block : ∀ ts d, CN cntSs ts.length (pBlock f ts d)
 stmts : ∀ l ts d, CN cntSs (cntSs l + ts.length) (pStmts f l ts d)
 stmt : ∀ ts d, CN cntS ts.length (pStmt f ts d)
 ifs : ∀ ts d, ts.tail.length + 1 = ts.length → CN cntS ts.length (pIf f ts d)
 named : ∀ ts d, isK ts 1 = true → CN cntS ts.length (pNamed f ts d)
theorem hs : ∀ f, HS f
 | 0 => ⟨fun ts d => by unfold pBlock; exact CN.err, fun l ts d => by unfold pStmts; exact CN.err, fun ts d => by unfold pStmt; exact CN.err, fun ts d _ => by unfold pIf; exact CN.err, fun ts d _ => by rw [pNamed]; exact CN.err⟩
 | f + 1 => by
   have X := hs f
   have Y := hx f
   refine ⟨fun ts d => ?_, fun l ts d => ?_, fun ts d => ?_, fun ts d hk => ?_, fun ts d hk => ?_⟩
   · unfold pBlock
     exact (takeT_cn _ ts d).bind fun _ ts1 d1 h1 => (X.stmts _ ts1 d1).up fun x => by simp only [cntSs]; omega
   · unfold pStmts
     split
     · exact (takeT_cn _ ts d).bind fun _ ts1 d1 h1 => CN.ok (by omega)
     · exact (X.stmt ts d).bind fun s ts1 d1 h1 => (X.stmts _ ts1 d1).up fun x => by rw [cntSs_append]; simp only [cntSs]; omega
   · unfold pStmt
     split
     · rename_i hc; exact X.named ts d hc
     split
     · rename_i hc
       have := isT_ne hc
       refine (takeK_cn 1 (by decide) ts.tail d).bind fun t ts1 d1 h1 => ?_
       split
       · exact (takeT_cn _ ts1 d1).bind fun _ ts2 d2 h2 => (Y.bin 1 ts2 d2).bind fun e ts3 d3 h3 => (takeT_cn _ ts3 d3).bind fun _ ts4 d4 h4 => CN.ok (by simp only [cntS, cntEs, cntSs]; omega)
       · exact (takeT_cn _ ts1 d1).bind fun _ ts2 d2 h2 => CN.ok (by simp only [cntS, cntEs, cntSs]; omega)
     split
     · rename_i hc; exact X.ifs ts d (isT_ne hc)
     split
     · rename_i hc
       have := isT_ne hc
       exact (pCond_cn f ts.tail d).bind fun e ts1 d1 h1 => (X.block ts1 d1).bind fun b ts2 d2 h2 => CN.ok (by simp only [cntS, cntEs, cntSs]; omega)
     split
     · rename_i hc
       have := isT_ne hc
       split
       · exact (takeT_cn _ ts.tail d).bind fun _ ts2 d2 h2 => CN.ok (by simp only [cntS, cntEs, cntSs]; omega)
       · exact (Y.bin 1 ts.tail d).bind fun e ts3 d3 h3 => (takeT_cn _ ts3 d3).bind fun _ ts4 d4 h4 => CN.ok (by simp only [cntS, cntEs, cntSs]; omega)
     split
     · rename_i hc
       have := isT_ne hc
       exact (takeT_cn _ ts.tail d).bind fun _ ts2 d2 h2 => CN.ok (by simp only [cntS, cntEs, cntSs]; omega)
     split
     · rename_i hc
       have := isT_ne hc
       exact (takeT_cn _ ts.tail d).bind fun _ ts2 d2 h2 => CN.ok (by simp only [cntS, cntEs, cntSs]; omega)
     · exact CN.err
   · unfold pIf
     refine (pCond_cn f ts.tail d).bind fun e ts1 d1 h1 => (X.block ts1 d1).bind fun b ts2 d2 h2 => ?_
     split
     · rename_i hc
       have := isT_ne hc
       split
       · rename_i hc2
         exact (X.ifs ts2.tail d2 (isT_ne hc2)).bind fun s ts3 d3 h3 => CN.ok (by simp only [cntS, cntEs, cntSs]; omega)
       · exact (X.block ts2.tail d2).bind fun c ts3 d3 h3 => CN.ok (by simp only [cntS, cntEs]; omega)
     · exact CN.ok (by simp only [cntS, cntEs, cntSs]; omega)
   · rw [pNamed]
     have := isK_ne (by decide) hk
     split
     · exact (takeT_cn _ ts.tail d).bind fun _ ts2 d2 h2 => (Y.bin 1 ts2 d2).bind fun e ts3 d3 h3 => (takeT_cn _ ts3 d3).bind fun _ ts4 d4 h4 => CN.ok (by simp only [cntS, cntEs, cntSs]; omega)
     split
     · exact (takeT_cn _ ts.tail d).bind fun _ ts2 d2 h2 => (Y.bin 1 ts2 d2).bind fun i ts3 d3 h3 => (takeT_cn _ ts3 d3).bind fun _ ts4 d4 h4 => (takeT_cn _ ts4 d4).bind fun _ ts5 d5 h5 =>
        (Y.bin 1 ts5 d5).bind fun e ts6 d6 h6 => (takeT_cn _ ts6 d6).bind fun _ ts7 d7 h7 => CN.ok (by simp only [cntS, cntEs, cntSs]; omega)
     · exact (Y.call _ ts.tail d).bind fun e ts3 d3 h3 => (takeT_cn _ ts3 d3).bind fun _ ts4 d4 h4 => CN.ok (by simp only [cntS, cntEs, cntSs]; omega)
def cntF (f : F) : Nat := cntSs f.body + f.params.length
def cntFs : List F → Nat
 | [] => 0
 | f :: fs => cntF f + 1 + cntFs fs
theorem cntFs_append : ∀ (l m : List F), cntFs (l ++ m) = cntFs l + cntFs m
 | [], m => by simp [cntFs]
 | e :: l, m => by simp [cntFs, cntFs_append l m]; omega
theorem cntFs_mem : ∀ {l : List F} {e : F}, e ∈ l → cntF e + 1 ≤ cntFs l
 | e :: l, x, hx => by
   cases hx with
   | head => simp [cntFs]
   | tail _ hx => have := cntFs_mem hx; simp [cntFs]; omega
theorem cntFs_len : ∀ (l : List F), l.length ≤ cntFs l
 | [] => by simp
 | e :: l => by have := cntFs_len l; simp [cntFs]; omega
def cntP (p : Pg) : Nat := p.globals.length + cntFs p.funcs
theorem pGlobal_cn (ts : List Tok) (d : Int) : CN (fun _ => 1) ts.length (pGlobal ts d) := fun x us e hx => by
 have := (pGlobal_fn ts d).2 x us e hx; show 1 + us.length ≤ ts.length; omega
theorem pMoreP_cn : ∀ (f : Nat) (l : List Bytes) (ts : List Tok) (d : Int), CN List.length (l.length + ts.length) (pMoreP f l ts d)
 | 0, _, _, _ => CN.err
 | f + 1, l, ts, d => by
   unfold pMoreP
   split
   · exact (takeT_cn _ ts d).bind fun _ ts1 d1 h1 => (takeK_cn 1 (by decide) ts1 d1).bind fun t ts2 d2 h2 => (pMoreP_cn f _ ts2 d2).up fun x => by simp only [List.length_append, List.length_cons, List.length_nil]; omega
   · exact CN.ok (Nat.le_refl _)
theorem pFunc_cn (f : Nat) (ts : List Tok) (d : Int) : CN (fun g => cntF g + 1) ts.length (pFunc f ts d) := by
 unfold pFunc
 refine (takeT_cn _ ts d).bind fun _ ts1 d1 h1 => (takeK_cn 1 (by decide) ts1 d1).bind fun t ts2 d2 h2 => (takeT_cn _ ts2 d2).bind fun _ ts3 d3 h3 => ?_
 refine CN.bind (c := List.length) (n := ts3.length) ?_ fun ps ts4 d4 h4 => (takeT_cn _ ts4 d4).bind fun _ ts5 d5 h5 => ((hs f).block ts5 d5).bind fun b ts6 d6 h6 => CN.ok (by simp only [cntF]; omega)
 unfold pParams
 split
 · exact CN.ok (by simp)
 · exact (takeK_cn 1 (by decide) ts3 d3).bind fun t ts5 d5 h5 => (pMoreP_cn f _ ts5 d5).up fun x => by simp only [List.length_cons, List.length_nil]; omega
theorem pProg_cn : ∀ (f : Nat) (p : Pg) (ts : List Tok) (d : Int), CN cntP (cntP p + ts.length) (pProg f p ts d)
 | 0, _, _, _ => CN.err
 | f + 1, p, ts, d => by
   unfold pProg
   split
   · exact CN.ok (Nat.le_refl _)
   split
   · exact (pGlobal_cn ts d).bind fun g ts1 d1 h1 => (pProg_cn f _ ts1 d1).up fun x => by simp only [cntP, List.length_append, List.length_cons, List.length_nil]; omega
   · exact (pFunc_cn f ts d).bind fun g ts1 d1 h1 => (pProg_cn f _ ts1 d1).up fun x => by simp only [cntP, cntFs_append, cntFs]; omega
end Go.Sx
namespace Go.Proofs.D
open Go Go.Den Go.Sx
set_option maxRecDepth 100000
attribute [local irreducible] IntKind.wrap Tri parseS
theorem At.get {α : Type} {k : Nat} {rel : PHeap → α → List Value → Prop} {h : PHeap} {a : Option Addr} {xs : List α} (hA : At k rel h a xs) {n : Nat} (hn : n < xs.length) : ∃ b o cs, a = some ⟨b, o, none⟩ ∧ h.row b (o + ((n : Int)).toNat * k) cs ∧ rel h xs[n] cs := by
 rcases hA with hA | ⟨b, o, ha, hj⟩
 · subst hA; simp at hn
 · obtain ⟨cs, h1, h2⟩ := hj n xs[n] (List.getElem?_eq_getElem hn)
   exact ⟨b, o, cs, ha, by rw [Int.toNat_natCast]; exact h1, h2⟩
theorem parseS_cnt {s : Bytes} {p : Pg} (h : parseS s = .ok p) : cntP p ≤ 4097 := by
 have hso := scanS_ok s
 unfold parseS at h
 cases hsc : scanS s with
 | error e => rw [hsc] at h; cases h
 | ok ts =>
   rw [hsc] at h
   have := (hso.2 ts hsc).2.1
   simp only at h
   cases hpp : pProg (20 * ts.length + 40) ⟨[], []⟩ ts 0 with
   | error e => rw [hpp] at h; cases h
   | ok q =>
     obtain ⟨p', ts', d'⟩ := q
     rw [hpp] at h
     cases h
     have := pProg_cn _ ⟨[], []⟩ ts 0 _ _ _ hpp
     simp only [cntP, cntFs, List.length_nil] at this ⊢
     omega
def KnownOk : Prop := ∀ h, L.EscTab h → Tri Tryz.prog 16 [] h fun v h' => v = vB true ∧ Ext h h'
theorem At.whole {α : Type} {k : Nat} {rel : PHeap → α → List Value → Prop} (hm : Mono rel) {D : Nat → Prop} {h h' : PHeap} {a : Option Addr} {xs : List α} (hA : At k rel (only D h) a xs) (x : Ext h h') : At k rel h' a xs := hA.ext hm (only_sub.trans x)
end Go.Proofs.D
namespace Go.Sx
def zT (t : Tok) : Tok := { t with pos := 0 }
mutual
def zE : E → E
 | .mk k o n v t a _ => .mk k o n v t (zEs a) 0
def zEs : List E → List E
 | [] => []
 | e :: l => zE e :: zEs l
end
mutual
def zS : S → S
 | .mk k n a b e _ => .mk k n (zEs a) (zSs b) (zSs e) 0
def zSs : List S → List S
 | [] => []
 | e :: l => zS e :: zSs l
end
def zG (g : G) : G := { g with pos := 0 }
def zF (f : F) : F := { f with body := zSs f.body, pos := 0 }
def zP (p : Pg) : Pg := ⟨p.globals.map zG, p.funcs.map zF⟩
def zR {α : Type} (g : α → α) : R α → R α
 | .error e => .error (e.1, 0)
 | .ok (x, ts, d) => .ok (g x, ts.map zT, d)
theorem zEs_append : ∀ (l m : List E), zEs (l ++ m) = zEs l ++ zEs m
 | [], m => rfl
 | e :: l, m => by simp [zEs, zEs_append l m]
theorem zSs_append : ∀ (l m : List S), zSs (l ++ m) = zSs l ++ zSs m
 | [], m => rfl
 | e :: l, m => by simp [zSs, zSs_append l m]
theorem zR_bind {α β : Type} {g : α → α} {g' : β → β} {r r' : R α} {F F' : α → List Tok → Int → R β} (h : r' = zR g r) (hF : ∀ x ts d, F' (g x) (ts.map zT) d = zR g' (F x ts d)) : bindR r' F' = zR g' (bindR r F) := by
 subst h
 match r with
 | .error e => rfl
 | .ok (x, ts, d) => exact hF x ts d
theorem zR_ite {α : Type} {g : α → α} {c : Prop} [Decidable c] {a a' b b' : R α} (h1 : c → a' = zR g a) (h2 : ¬c → b' = zR g b) : (if c then a' else b') = zR g (if c then a else b) := by
 split
 · exact h1 (by assumption)
 · exact h2 (by assumption)
theorem hd_z (ts : List Tok) : hd (ts.map zT) = zT (hd ts) := by cases ts <;> rfl
theorem tail_z (ts : List Tok) : (ts.map zT).tail = ts.tail.map zT := by cases ts <;> rfl
theorem isT_z (ts : List Tok) (t : Bytes) : isT (ts.map zT) t = isT ts t := by rw [isT, hd_z]; rfl
theorem isK_z (ts : List Tok) (k : Nat) : isK (ts.map zT) k = isK ts k := by rw [isK, hd_z]; rfl
theorem text_z (t : Tok) : (zT t).text = t.text := rfl
theorem value_z (t : Tok) : (zT t).value = t.value := rfl
theorem bytes_z (t : Tok) : (zT t).bytes = t.bytes := rfl
theorem pos_z (t : Tok) : (zT t).pos = 0 := rfl
theorem takeT_z (t : Bytes) (ts : List Tok) (d : Int) : takeT t (ts.map zT) d = zR id (takeT t ts d) := by
 simp only [takeT, isT_z, hd_z, tail_z, pos_z]
 repeat' refine zR_ite (fun _ => ?_) (fun _ => ?_)
 all_goals rfl
theorem takeK_z (k : Nat) (ts : List Tok) (d : Int) : takeK k (ts.map zT) d = zR zT (takeK k ts d) := by
 simp only [takeK, isK_z, hd_z, tail_z, pos_z]
 refine zR_ite (fun _ => rfl) (fun _ => rfl)
structure ZX (f : Nat) : Prop where
 bin : ∀ lv ts d, pBin f lv (ts.map zT) d = zR zE (pBin f lv ts d)
 loop : ∀ lv e ts d, pLoop f lv (zE e) (ts.map zT) d = zR zE (pLoop f lv e ts d)
 un : ∀ ts d, pUn f (ts.map zT) d = zR zE (pUn f ts d)
 prim : ∀ ts d, pPrim f (ts.map zT) d = zR zE (pPrim f ts d)
 name : ∀ ts d, pName f (ts.map zT) d = zR zE (pName f ts d)
 call : ∀ t ts d, pCall f (zT t) (ts.map zT) d = zR zE (pCall f t ts d)
 args : ∀ ts d, pArgs f (ts.map zT) d = zR zEs (pArgs f ts d)
 more : ∀ l ts d, pMore f (zEs l) (ts.map zT) d = zR zEs (pMore f l ts d)
theorem zx : ∀ f, ZX f
 | 0 => by constructor <;> intros <;> simp only [pBin, pLoop, pUn, pPrim, pName, pCall, pArgs, pMore] <;> rfl
 | f + 1 => by
   have ih := zx f
   constructor
   · intro lv ts d
     rw [pBin, pBin]
     exact zR_ite (fun _ => ih.un _ _) (fun _ => zR_bind (ih.bin _ _ _) fun _ _ _ => ih.loop _ _ _ _)
   · intro lv e ts d
     rw [pLoop, pLoop]
     simp only [isK_z, hd_z, tail_z, text_z, pos_z]
     exact zR_ite (fun _ => zR_bind (ih.bin _ _ _) fun _ _ _ => ih.loop _ (.mk 7 _ _ _ _ [_, _] _) _ _) (fun _ => rfl)
   · intro ts d
     rw [pUn, pUn]
     simp only [isT_z, hd_z, tail_z, text_z, pos_z]
     exact zR_ite (fun _ => zR_bind (ih.un _ _) fun _ _ _ => rfl) (fun _ => ih.prim _ _)
   · intro ts d
     rw [pPrim, pPrim]
     simp only [isK_z, hd_z, tail_z, text_z, pos_z, value_z, bytes_z]
     exact zR_ite (fun _ => rfl) (fun _ => zR_ite (fun _ => rfl) (fun _ => zR_ite (fun _ => ih.name _ _) (fun _ => zR_bind (takeT_z _ _ _) fun _ _ _ => zR_bind (ih.bin _ _ _) fun _ _ _ => zR_bind (takeT_z _ _ _) fun _ _ _ => rfl)))
   · intro ts d
     rw [pName, pName]
     simp only [isT_z, hd_z, tail_z, text_z, pos_z]
     exact zR_ite (fun _ => ih.call _ _ _) (fun _ => zR_ite (fun _ => zR_bind (takeT_z _ _ _) fun _ _ _ => zR_bind (ih.bin _ _ _) fun _ _ _ => zR_bind (takeT_z _ _ _) fun _ _ _ => rfl) (fun _ => rfl))
   · intro t ts d
     rw [pCall, pCall]
     exact zR_bind (takeT_z _ _ _) fun _ _ _ => zR_bind (ih.args _ _) fun _ _ _ => zR_bind (takeT_z _ _ _) fun _ _ _ => rfl
   · intro ts d
     rw [pArgs, pArgs]
     simp only [isT_z]
     exact zR_ite (fun _ => rfl) (fun _ => zR_bind (ih.bin _ _ _) fun e _ _ => ih.more [e] _ _)
   · intro l ts d
     rw [pMore, pMore]
     simp only [isT_z]
     exact zR_ite (fun _ => zR_bind (takeT_z _ _ _) fun _ _ _ => zR_bind (ih.bin _ _ _) fun e _ _ => by
      have := ih.more (l ++ [e])
      rw [zEs_append] at this
      exact this _ _) (fun _ => rfl)
theorem pCond_z (f : Nat) (ts : List Tok) (d : Int) : pCond f (ts.map zT) d = zR zE (pCond f ts d) :=
 zR_bind (takeT_z _ _ _) fun _ _ _ => zR_bind ((zx f).bin _ _ _) fun _ _ _ => zR_bind (takeT_z _ _ _) fun _ _ _ => rfl
structure ZS (f : Nat) : Prop where
 block : ∀ ts d, pBlock f (ts.map zT) d = zR zSs (pBlock f ts d)
 stmts : ∀ l ts d, pStmts f (zSs l) (ts.map zT) d = zR zSs (pStmts f l ts d)
 stmt : ∀ ts d, pStmt f (ts.map zT) d = zR zS (pStmt f ts d)
 ifs : ∀ ts d, pIf f (ts.map zT) d = zR zS (pIf f ts d)
 named : ∀ ts d, pNamed f (ts.map zT) d = zR zS (pNamed f ts d)
theorem zs : ∀ f, ZS f
 | 0 => by constructor <;> intros <;> simp only [pBlock, pStmts, pStmt, pIf, pNamed] <;> rfl
 | f + 1 => by
   have ih := zs f
   have ix := zx f
   constructor
   · intro ts d
     rw [pBlock, pBlock]
     exact zR_bind (takeT_z _ _ _) fun _ _ _ => ih.stmts [] _ _
   · intro l ts d
     rw [pStmts, pStmts]
     simp only [isT_z]
     exact zR_ite (fun _ => zR_bind (takeT_z _ _ _) fun _ _ _ => rfl) (fun _ => zR_bind (ih.stmt _ _) fun e _ _ => by
      have := ih.stmts (l ++ [e])
      rw [zSs_append] at this
      exact this _ _)
   · intro ts d
     rw [pStmt, pStmt]
     simp only [isK_z, isT_z, hd_z, tail_z, text_z, pos_z]
     refine zR_ite (fun _ => ih.named _ _) (fun _ => zR_ite (fun _ => zR_bind (takeK_z _ _ _) fun _ _ _ => ?_) (fun _ => zR_ite (fun _ => ih.ifs _ _) (fun _ => zR_ite (fun _ => zR_bind (pCond_z _ _ _) fun _ _ _ => zR_bind (ih.block _ _) fun _ _ _ => rfl) (fun _ => zR_ite (fun _ => zR_ite (fun _ => zR_bind (takeT_z _ _ _) fun _ _ _ => rfl) (fun _ => zR_bind (ix.bin _ _ _) fun _ _ _ => zR_bind (takeT_z _ _ _) fun _ _ _ => rfl)) (fun _ => zR_ite (fun _ => zR_bind (takeT_z _ _ _) fun _ _ _ => rfl) (fun _ => zR_ite (fun _ => zR_bind (takeT_z _ _ _) fun _ _ _ => rfl) (fun _ => rfl)))))))
     simp only [isT_z]
     exact zR_ite (fun _ => zR_bind (takeT_z _ _ _) fun _ _ _ => zR_bind (ix.bin _ _ _) fun _ _ _ => zR_bind (takeT_z _ _ _) fun _ _ _ => rfl) (fun _ => zR_bind (takeT_z _ _ _) fun _ _ _ => rfl)
   · intro ts d
     rw [pIf, pIf]
     simp only [hd_z, tail_z, pos_z]
     refine zR_bind (pCond_z _ _ _) fun _ _ _ => zR_bind (ih.block _ _) fun _ _ _ => ?_
     simp only [isT_z, tail_z]
     exact zR_ite (fun _ => zR_ite (fun _ => zR_bind (ih.ifs _ _) fun _ _ _ => rfl) (fun _ => zR_bind (ih.block _ _) fun _ _ _ => rfl)) (fun _ => rfl)
   · intro ts d
     rw [pNamed, pNamed]
     simp only [isT_z, hd_z, tail_z, text_z, pos_z]
     exact zR_ite (fun _ => zR_bind (takeT_z _ _ _) fun _ _ _ => zR_bind (ix.bin _ _ _) fun _ _ _ => zR_bind (takeT_z _ _ _) fun _ _ _ => rfl) (fun _ => zR_ite (fun _ => zR_bind (takeT_z _ _ _) fun _ _ _ => zR_bind (ix.bin _ _ _) fun _ _ _ => zR_bind (takeT_z _ _ _) fun _ _ _ => zR_bind (takeT_z _ _ _) fun _ _ _ => zR_bind (ix.bin _ _ _) fun _ _ _ => zR_bind (takeT_z _ _ _) fun _ _ _ => rfl) (fun _ => zR_bind (ix.call _ _ _) fun _ _ _ => zR_bind (takeT_z _ _ _) fun _ _ _ => rfl))
theorem pGlobal_z (ts : List Tok) (d : Int) : pGlobal (ts.map zT) d = zR zG (pGlobal ts d) := by
 rw [pGlobal, pGlobal]
 refine zR_bind (takeT_z _ _ _) fun _ _ _ => zR_bind (takeK_z _ _ _) fun _ _ _ => ?_
 simp only [isT_z]
 exact zR_ite (fun _ => zR_bind (takeT_z _ _ _) fun _ _ _ => zR_bind (takeK_z _ _ _) fun _ _ _ => zR_bind (takeT_z _ _ _) fun _ _ _ => rfl) (fun _ => zR_ite (fun _ => zR_bind (takeT_z _ _ _) fun _ _ _ => zR_bind (takeK_z _ _ _) fun _ _ _ => zR_bind (takeT_z _ _ _) fun _ _ _ => zR_bind (takeT_z _ _ _) fun _ _ _ => rfl) (fun _ => zR_bind (takeT_z _ _ _) fun _ _ _ => rfl))
theorem pMoreP_z : ∀ (f : Nat) (l : List Bytes) (ts : List Tok) (d : Int), pMoreP f l (ts.map zT) d = zR id (pMoreP f l ts d)
 | 0, l, ts, d => by simp only [pMoreP]; rfl
 | f + 1, l, ts, d => by
   rw [pMoreP, pMoreP]
   simp only [isT_z]
   exact zR_ite (fun _ => zR_bind (takeT_z _ _ _) fun _ _ _ => zR_bind (takeK_z _ _ _) fun _ _ _ => pMoreP_z f _ _ _) (fun _ => rfl)
theorem pParams_z (f : Nat) (ts : List Tok) (d : Int) : pParams f (ts.map zT) d = zR id (pParams f ts d) := by
 rw [pParams, pParams]
 simp only [isT_z]
 exact zR_ite (fun _ => rfl) (fun _ => zR_bind (takeK_z _ _ _) fun _ _ _ => pMoreP_z f _ _ _)
theorem pFunc_z (f : Nat) (ts : List Tok) (d : Int) : pFunc f (ts.map zT) d = zR zF (pFunc f ts d) :=
 zR_bind (takeT_z _ _ _) fun _ _ _ => zR_bind (takeK_z _ _ _) fun _ _ _ => zR_bind (takeT_z _ _ _) fun _ _ _ => zR_bind (pParams_z f _ _) fun _ _ _ => zR_bind (takeT_z _ _ _) fun _ _ _ => zR_bind ((zs f).block _ _) fun _ _ _ => rfl
theorem pProg_z : ∀ (f : Nat) (p : Pg) (ts : List Tok) (d : Int), pProg f (zP p) (ts.map zT) d = zR zP (pProg f p ts d)
 | 0, p, ts, d => by simp only [pProg]; rfl
 | f + 1, p, ts, d => by
   rw [pProg, pProg]
   simp only [isK_z, isT_z]
   refine zR_ite (fun _ => rfl) (fun _ => zR_ite (fun _ => zR_bind (pGlobal_z _ _) fun g _ _ => ?_) (fun _ => zR_bind (pFunc_z _ _ _) fun g _ _ => ?_))
   · have := pProg_z f ⟨p.globals ++ [g], p.funcs⟩
     simp only [zP, List.map_append, List.map_cons, List.map_nil] at this
     exact this _ _
   · have := pProg_z f ⟨p.globals, p.funcs ++ [g]⟩
     simp only [zP, List.map_append, List.map_cons, List.map_nil] at this
     exact this _ _
def zX : Except (Nat × Nat) Pg → Except Nat Pg
 | .error e => .error e.1
 | .ok p => .ok (zP p)
theorem parse_z {s t : Bytes} {ts us : List Tok} (hs : scanS s = .ok ts) (ht : scanS t = .ok us) (h : ts.map zT = us.map zT) : zX (parseS s) = zX (parseS t) := by
 have hl : us.length = ts.length := by rw [← List.length_map zT, ← h, List.length_map]
 have h1 := pProg_z (20 * ts.length + 40) ⟨[], []⟩ ts 0
 have h2 := pProg_z (20 * ts.length + 40) ⟨[], []⟩ us 0
 rw [h] at h1
 rw [h1] at h2
 simp only [parseS, hs, ht, hl]
 cases e1 : pProg (20 * ts.length + 40) ⟨[], []⟩ ts 0 with
 | error e =>
   cases e2 : pProg (20 * ts.length + 40) ⟨[], []⟩ us 0 with
   | error e' => rw [e1, e2] at h2; injection h2 with h2; injection h2 with h2; simp [zX, h2]
   | ok x => rw [e1, e2] at h2; cases h2
 | ok x =>
   cases e2 : pProg (20 * ts.length + 40) ⟨[], []⟩ us 0 with
   | error e' => rw [e1, e2] at h2; cases h2
   | ok y => rw [e1, e2] at h2; injection h2 with h2; injection h2 with h2; simp [zX, h2]
end Go.Sx
namespace Go.Sx
mutual
def eqE : E → E → Bool
 | .mk k o n v t a _, .mk k' o' n' v' t' a' _ => k == k' && o == o' && n == n' && v == v' && t == t' && eqEs a a'
def eqEs : List E → List E → Bool
 | [], [] => true
 | e :: l, e' :: l' => eqE e e' && eqEs l l'
 | [], _ :: _ => false
 | _ :: _, [] => false
end
mutual
def eqS : S → S → Bool
 | .mk k n a b e _, .mk k' n' a' b' e' _ => k == k' && n == n' && eqEs a a' && eqSs b b' && eqSs e e'
def eqSs : List S → List S → Bool
 | [], [] => true
 | e :: l, e' :: l' => eqS e e' && eqSs l l'
 | [], _ :: _ => false
 | _ :: _, [] => false
end
def eqG (g h : G) : Bool := g.name == h.name && g.size == h.size && g.value == h.value
def eqF (g h : F) : Bool := g.name == h.name && g.params == h.params && eqSs g.body h.body
def eqL {α : Type} (q : α → α → Bool) : List α → List α → Bool
 | [], [] => true
 | e :: l, e' :: l' => q e e' && eqL q l l'
 | [], _ :: _ => false
 | _ :: _, [] => false
def eqP (p q : Pg) : Bool := eqL eqG p.globals q.globals && eqL eqF p.funcs q.funcs
theorem eqEs_L : ∀ (l m : List E), eqEs l m = eqL eqE l m
 | [], [] => rfl
 | e :: l, e' :: l' => by rw [eqEs, eqL, eqEs_L l l']
 | [], _ :: _ => rfl
 | _ :: _, [] => rfl
theorem eqSs_L : ∀ (l m : List S), eqSs l m = eqL eqS l m
 | [], [] => rfl
 | e :: l, e' :: l' => by rw [eqSs, eqL, eqSs_L l l']
 | [], _ :: _ => rfl
 | _ :: _, [] => rfl
theorem eqL_len {α : Type} {q : α → α → Bool} : ∀ {l m : List α}, l.length ≠ m.length → eqL q l m = false
 | [], [], h => absurd rfl h
 | e :: l, e' :: l', h => by rw [eqL, eqL_len (l := l) (m := l') (fun e => h (by rw [List.length_cons, List.length_cons, e])), Bool.and_false]
 | [], _ :: _, _ => rfl
 | _ :: _, [], _ => rfl
theorem eqL_drop {α : Type} {q : α → α → Bool} {l m : List α} {j : Nat} (hl : j < l.length) (hm : j < m.length) : eqL q (l.drop j) (m.drop j) = (q l[j] m[j] && eqL q (l.drop (j + 1)) (m.drop (j + 1))) := by
 rw [List.drop_eq_getElem_cons hl, List.drop_eq_getElem_cons hm]; rfl
mutual
theorem eqE_z : ∀ (a b : E), eqE a b = true ↔ zE a = zE b
 | .mk k o n v t a _, .mk k' o' n' v' t' a' _ => by
   simp only [eqE, zE, Bool.and_eq_true, beq_iff_eq, E.mk.injEq, eqEs_z a a', and_true, and_assoc]
theorem eqEs_z : ∀ (a b : List E), eqEs a b = true ↔ zEs a = zEs b
 | [], [] => by simp [eqEs, zEs]
 | e :: l, e' :: l' => by simp only [eqEs, zEs, Bool.and_eq_true, eqE_z e e', eqEs_z l l', List.cons.injEq]
 | [], _ :: _ => by simp [eqEs, zEs]
 | _ :: _, [] => by simp [eqEs, zEs]
end
mutual
theorem eqS_z : ∀ (a b : S), eqS a b = true ↔ zS a = zS b
 | .mk k n a b e _, .mk k' n' a' b' e' _ => by
   simp only [eqS, zS, Bool.and_eq_true, beq_iff_eq, S.mk.injEq, eqEs_z a a', eqSs_z b b', eqSs_z e e', and_true, and_assoc]
theorem eqSs_z : ∀ (a b : List S), eqSs a b = true ↔ zSs a = zSs b
 | [], [] => by simp [eqSs, zSs]
 | e :: l, e' :: l' => by simp only [eqSs, zSs, Bool.and_eq_true, eqS_z e e', eqSs_z l l', List.cons.injEq]
 | [], _ :: _ => by simp [eqSs, zSs]
 | _ :: _, [] => by simp [eqSs, zSs]
end
theorem eqL_map {α : Type} {q : α → α → Bool} {z : α → α} (h : ∀ a b, q a b = true ↔ z a = z b) : ∀ (l m : List α), eqL q l m = true ↔ l.map z = m.map z
 | [], [] => by simp [eqL]
 | e :: l, e' :: l' => by simp [eqL, h, eqL_map h l l']
 | [], _ :: _ => by simp [eqL]
 | _ :: _, [] => by simp [eqL]
theorem eqG_z (a b : G) : eqG a b = true ↔ zG a = zG b := by
 cases a; cases b; simp [eqG, zG, and_assoc]
theorem eqF_z (a b : F) : eqF a b = true ↔ zF a = zF b := by
 cases a; cases b; simp [eqF, zF, eqSs_z, and_assoc]
theorem eqP_z (p q : Pg) : eqP p q = true ↔ zP p = zP q := by
 cases p; cases q; simp [eqP, zP, eqL_map eqG_z, eqL_map eqF_z]
theorem eqP_refl (p : Pg) : eqP p p = true := (eqP_z p p).2 rfl
end Go.Sx
namespace Go.Proofs.D
open Go Go.Den
set_option maxRecDepth 100000
set_option maxHeartbeats 4000000
abbrev o13_0 : Op := .call { callee := (.builtin .min), args := #[(.tmp 5), (.const (vI 1500))], argTypes := #[3, 3] }
noncomputable def d13 : DCode := up ⟨[(6, .c (.one false [qi]))], [], []⟩ (low Tryz.prog (fun _ => false) (Tryz.f13.body.getD .skip))
theorem low13 : low Tryz.prog (fun _ => false) (Tryz.f13.body.getD .skip) = some (eC d13) := by kernel_rfl
def R13 (l1 : Bs) (h : PHeap) (Q : Value → PHeap → Prop) : Prop :=
 ∃ (i1 : Int), PureRun Tryz.prog (execOp (rho [(5, vI (l1.length : Int))]) (mkO o13_0 3)) (vI i1) ∧
 (0 ≤ (0 : Int) ∧ (0 : Int) ≤ i1 ∧ i1 ≤ (l1.length : Int)) ∧
 Q (vS ((l1.drop 0).take ((i1).toNat - 0))) h
theorem T13 {l1 : Bs} {h : PHeap} {Q : Value → PHeap → Prop} (hR : R13 l1 h Q) : Tri Tryz.prog 13 [vS l1] h Q :=
 tri_of_dn mixed Tryz.func13 rfl (by kernel_rfl) low13 (rs := [.tmp 2]) (by kernel_rfl) rfl (Eq.mpr (by kernel_rfl : dnF Tryz.prog Tryz.f13.ntmps d13 [.tmp 2] [vS l1] h Q = R13 l1 h Q) hR)
end Go.Proofs.D
