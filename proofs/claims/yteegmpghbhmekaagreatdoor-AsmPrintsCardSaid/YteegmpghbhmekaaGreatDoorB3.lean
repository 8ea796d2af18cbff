import Derived.Test.YteegmpghbhmekaaGreatDoorB2
import Derived.Test.YteegmpghbhmekaaGreatDoorProg
import Derived.IntWalk
namespace Go.Proofs.D
open Go Go.Den
theorem mixed : Tryz.prog.follows .mixedOrders = true := by kernel_rfl
end Go.Proofs.D
namespace Go.Proofs.D
open Go Go.Den
set_option maxRecDepth 100000
set_option maxHeartbeats 4000000
abbrev eik1 : List CK := [qi, qi, qi, qi]
abbrev eik2 : List CK := [.slice, .str, qi, qi, .slice]
noncomputable def d41 : DCode := up ⟨[(7, .l [.bool]), (9, .l [.bool]), (13, .l [.bool]), (16, .l [.bool]), (18, .l [.bool]), (22, .l [qi]), (24, .l [qi]), (29, .l [.bool]), (31, .l [.bool]), (34, .l [qi]), (36, .l [qi]), (39, .l [.str]), (41, .l [.str]), (42, .c (.one false [qi]))], [], []⟩ (low Tryz.prog (fun _ => false) (Tryz.f41.body.getD .skip))
theorem low41 : low Tryz.prog (fun _ => false) (Tryz.f41.body.getD .skip) = some (eC d41) := by kernel_rfl
def R41 (l1 : Bs) (c1 : Bool) (i1 : Int) (l2 : Bs) (c2 : Bool) (i2 : Int) (h : PHeap) (Q : Value → PHeap → Prop) : Prop :=
 br (!(c1 == c2))
 (br c2
 (Q (vI (-1)) h)
 (br (c1 == c2)
 (br (decide (i1 < i2))
 (Q (vI (-1)) h)
 (br (!(c1 == c2))
 (Q (vI 1) h)
 (br (decide (i1 > i2))
 (Q (vI 1) h)
 (Tri Tryz.prog 93 [vS l1, vS l2] h fun v_1 h_1 =>
 ∃ (i3 : Int), v_1 = vI i3 ∧
 Q (vI i3) h_1))))
 (br (!(c1 == c2))
 (Q (vI 1) h)
 (br (decide (i1 > i2))
 (Q (vI 1) h)
 (Tri Tryz.prog 93 [vS l1, vS l2] h fun v_2 h_2 =>
 ∃ (i4 : Int), v_2 = vI i4 ∧
 Q (vI i4) h_2)))))
 (br (c1 == c2)
 (br (decide (i1 < i2))
 (Q (vI (-1)) h)
 (br (!(c1 == c2))
 (Q (vI 1) h)
 (br (decide (i1 > i2))
 (Q (vI 1) h)
 (Tri Tryz.prog 93 [vS l1, vS l2] h fun v_3 h_3 =>
 ∃ (i5 : Int), v_3 = vI i5 ∧
 Q (vI i5) h_3))))
 (br (!(c1 == c2))
 (Q (vI 1) h)
 (br (decide (i1 > i2))
 (Q (vI 1) h)
 (Tri Tryz.prog 93 [vS l1, vS l2] h fun v_4 h_4 =>
 ∃ (i6 : Int), v_4 = vI i6 ∧
 Q (vI i6) h_4))))
theorem T41 {l1 : Bs} {c1 : Bool} {i1 : Int} {l2 : Bs} {c2 : Bool} {i2 : Int} {h : PHeap} {Q : Value → PHeap → Prop} (hR : R41 l1 c1 i1 l2 c2 i2 h Q) : Tri Tryz.prog 41 [vA [vS l1, vB c1, vI i1], vA [vS l2, vB c2, vI i2]] h Q :=
 tri_of_dn mixed Tryz.func41 rfl (by kernel_rfl) low41 (rs := [.tmp 4]) (by kernel_rfl) rfl (Eq.mpr (by kernel_rfl : dnF Tryz.prog Tryz.f41.ntmps d41 [.tmp 4] [vA [vS l1, vB c1, vI i1], vA [vS l2, vB c2, vI i2]] h Q = R41 l1 c1 i1 l2 c2 i2 h Q) hR)
abbrev o48_12 : Op := .makeMap 149 none
abbrev o48_14 : Op := .lookup 149 (.tmp 73) (.tmp 75) false
abbrev o48_15 : Op := .mapUpdate 149 (.tmp 77) (.tmp 79) (.const (vB true))
noncomputable def d48 : DCode := up ⟨[(9, .l [.slice]), (15, .l [.str, .bool, qi]), (17, .l [.str]), (18, .c (.one false [.bool])), (21, .l [.bool]), (25, .l [qi]), (27, .l [.slice]), (30, .c (.one false [.bool])), (34, .l [.bool]), (37, .l [qi]), (41, .l [qi]), (43, .l [.str]), (46, .l [qi]), (55, .l [.slice]), (59, .l [.str, .bool, qi]), (60, .l [.str, .bool, qi]), (61, .c (.one false [qi])), (65, .c (.one false [.map])), (67, .l [.slice]), (72, .l [.str, .bool, qi]), (75, .l [.str]), (76, .c (.one false [.bool])), (79, .l [.str])], [], [(12, 57, [(11, qi)], []), (70, 14, [(69, qi)], [])]⟩ (low Tryz.prog (fun _ => false) (Tryz.f48.body.getD .skip))
theorem low48 : low Tryz.prog (fun _ => false) (Tryz.f48.body.getD .skip) = some (eC d48) := by kernel_rfl
def R48 (a1 : OA) (n1 : Nat) (eik1 : Nat) (l1 : Bs) (i1 : Int) (i2 : Int) (a2 : OA) (n2 : Nat) (eik2 : Nat) (h : PHeap) (Q : Value → PHeap → Prop) : Prop :=
 ∃ (I_1 : Nat → Int → PHeap → Prop), (∃ (m2 : Nat), I_1 m2 (0 : Int) h) ∧
 ∀ (m1 : Nat) (i3 : Int) (h_1 : PHeap), I_1 m1 i3 h_1 →
 br (decide (i3 < ((n2 : Nat) : Int)))
 (∃ (b1 o1 : Nat), a2 = some ⟨b1, o1, none⟩ ∧ (0 ≤ i3 ∧ i3 < n2) ∧
 ∃ (l2 : Bs) (c1 : Bool) (i4 : Int), h_1.row b1 (o1 + (i3).toNat * 3) [vS l2, vB c1, vI i4] ∧
 Tri Tryz.prog 27 [vS l2] h_1 fun v_1 h_2 =>
 ∃ (c2 : Bool), v_1 = vB c2 ∧
 br (!c2)
 (Q (vI 12) h_2)
 (br (!c1)
 (Tri Tryz.prog 47 [vI i4, vI (IntKind.i64.wrap (((n1 : Nat) : Int) * 4))] h_2 fun v_2 h_3 =>
 ∃ (c3 : Bool), v_2 = vB c3 ∧
 br (!c3)
 (Q (vI 2) h_3)
 (br c1
 (br (decide (i4 < 0))
 (Q (vI 2) h_3)
 (br (decide (i4 > (IntKind.i64.wrap ((l1.length : Int) + i1))))
 (Q (vI 2) h_3)
 (br (decide (i3 > 0))
 (∃ (b2 o2 : Nat), a2 = some ⟨b2, o2, none⟩ ∧ (0 ≤ (IntKind.i64.wrap (i3 - 1)) ∧ (IntKind.i64.wrap (i3 - 1)) < n2) ∧
 ∃ (l3 : Bs) (c4 : Bool) (i5 : Int), h_3.row b2 (o2 + (IntKind.i64.wrap (i3 - 1)).toNat * 3) [vS l3, vB c4, vI i5] ∧
 Tri Tryz.prog 41 [vA [vS l3, vB c4, vI i5], vA [vS l2, vB c1, vI i4]] h_3 fun v_3 h_4 =>
 ∃ (i6 : Int), v_3 = vI i6 ∧
 (tv [vL a2 n2 eik2]) ∧
 br (decide (i6 ≥ 0))
 (Q (vI 32) h_4)
 (∃ (m3 : Nat), m3 < m1 ∧ I_1 m3 (IntKind.i64.wrap (i3 + 1)) h_4 ∧
 tv [vL a1 n1 eik1, vS l1, vI i1, vI i2, vL a2 n2 eik2] ∧ True))
 (∃ (m4 : Nat), m4 < m1 ∧ I_1 m4 (IntKind.i64.wrap (i3 + 1)) h_3 ∧
 tv [vL a1 n1 eik1, vS l1, vI i1, vI i2, vL a2 n2 eik2] ∧ True))))
 (br (decide (i3 > 0))
 (∃ (b3 o3 : Nat), a2 = some ⟨b3, o3, none⟩ ∧ (0 ≤ (IntKind.i64.wrap (i3 - 1)) ∧ (IntKind.i64.wrap (i3 - 1)) < n2) ∧
 ∃ (l4 : Bs) (c5 : Bool) (i7 : Int), h_3.row b3 (o3 + (IntKind.i64.wrap (i3 - 1)).toNat * 3) [vS l4, vB c5, vI i7] ∧
 Tri Tryz.prog 41 [vA [vS l4, vB c5, vI i7], vA [vS l2, vB c1, vI i4]] h_3 fun v_4 h_5 =>
 ∃ (i8 : Int), v_4 = vI i8 ∧
 (tv [vL a2 n2 eik2]) ∧
 br (decide (i8 ≥ 0))
 (Q (vI 32) h_5)
 (∃ (m5 : Nat), m5 < m1 ∧ I_1 m5 (IntKind.i64.wrap (i3 + 1)) h_5 ∧
 tv [vL a1 n1 eik1, vS l1, vI i1, vI i2, vL a2 n2 eik2] ∧ True))
 (∃ (m6 : Nat), m6 < m1 ∧ I_1 m6 (IntKind.i64.wrap (i3 + 1)) h_3 ∧
 tv [vL a1 n1 eik1, vS l1, vI i1, vI i2, vL a2 n2 eik2] ∧ True))))
 (br c1
 (br (decide (i4 < 0))
 (Q (vI 2) h_2)
 (br (decide (i4 > (IntKind.i64.wrap ((l1.length : Int) + i1))))
 (Q (vI 2) h_2)
 (br (decide (i3 > 0))
 (∃ (b4 o4 : Nat), a2 = some ⟨b4, o4, none⟩ ∧ (0 ≤ (IntKind.i64.wrap (i3 - 1)) ∧ (IntKind.i64.wrap (i3 - 1)) < n2) ∧
 ∃ (l5 : Bs) (c6 : Bool) (i9 : Int), h_2.row b4 (o4 + (IntKind.i64.wrap (i3 - 1)).toNat * 3) [vS l5, vB c6, vI i9] ∧
 Tri Tryz.prog 41 [vA [vS l5, vB c6, vI i9], vA [vS l2, vB c1, vI i4]] h_2 fun v_5 h_6 =>
 ∃ (i10 : Int), v_5 = vI i10 ∧
 (tv [vL a2 n2 eik2]) ∧
 br (decide (i10 ≥ 0))
 (Q (vI 32) h_6)
 (∃ (m7 : Nat), m7 < m1 ∧ I_1 m7 (IntKind.i64.wrap (i3 + 1)) h_6 ∧
 tv [vL a1 n1 eik1, vS l1, vI i1, vI i2, vL a2 n2 eik2] ∧ True))
 (∃ (m8 : Nat), m8 < m1 ∧ I_1 m8 (IntKind.i64.wrap (i3 + 1)) h_2 ∧
 tv [vL a1 n1 eik1, vS l1, vI i1, vI i2, vL a2 n2 eik2] ∧ True))))
 (br (decide (i3 > 0))
 (∃ (b5 o5 : Nat), a2 = some ⟨b5, o5, none⟩ ∧ (0 ≤ (IntKind.i64.wrap (i3 - 1)) ∧ (IntKind.i64.wrap (i3 - 1)) < n2) ∧
 ∃ (l6 : Bs) (c7 : Bool) (i11 : Int), h_2.row b5 (o5 + (IntKind.i64.wrap (i3 - 1)).toNat * 3) [vS l6, vB c7, vI i11] ∧
 Tri Tryz.prog 41 [vA [vS l6, vB c7, vI i11], vA [vS l2, vB c1, vI i4]] h_2 fun v_6 h_7 =>
 ∃ (i12 : Int), v_6 = vI i12 ∧
 (tv [vL a2 n2 eik2]) ∧
 br (decide (i12 ≥ 0))
 (Q (vI 32) h_7)
 (∃ (m9 : Nat), m9 < m1 ∧ I_1 m9 (IntKind.i64.wrap (i3 + 1)) h_7 ∧
 tv [vL a1 n1 eik1, vS l1, vI i1, vI i2, vL a2 n2 eik2] ∧ True))
 (∃ (m10 : Nat), m10 < m1 ∧ I_1 m10 (IntKind.i64.wrap (i3 + 1)) h_2 ∧
 tv [vL a1 n1 eik1, vS l1, vI i1, vI i2, vL a2 n2 eik2] ∧ True)))))
 (Raw Tryz.prog (execOp (rho []) (mkO o48_12 149)) h_1 fun v_7 h_8 =>
 ∃ (m11 : Nat), v_7 = vM m11 ∧
 ∃ (I_2 : Nat → Int → PHeap → Prop), (∃ (m13 : Nat), I_2 m13 (0 : Int) h_8) ∧
 ∀ (m12 : Nat) (i13 : Int) (h_9 : PHeap), I_2 m12 i13 h_9 →
 br (decide (i13 < ((n2 : Nat) : Int)))
 (∃ (b6 o6 : Nat), a2 = some ⟨b6, o6, none⟩ ∧ (0 ≤ i13 ∧ i13 < n2) ∧
 ∃ (l7 : Bs) (c8 : Bool) (i14 : Int), h_9.row b6 (o6 + (i13).toNat * 3) [vS l7, vB c8, vI i14] ∧
 Raw Tryz.prog (execOp (rho [(73, vM m11), (75, vS l7)]) (mkO o48_14 4)) h_9 fun v_8 h_10 =>
 ∃ (c9 : Bool), v_8 = vB c9 ∧
 br c9
 (Q (vI 7) h_10)
 (Raw Tryz.prog (execOp (rho [(77, vM m11), (79, vS l7)]) (mkO o48_15 0)) h_10 fun v_9 h_11 =>
 v_9 = vT [] ∧
 ∃ (m14 : Nat), m14 < m12 ∧ I_2 m14 (IntKind.i64.wrap (i13 + 1)) h_11 ∧
 tv [vL a1 n1 eik1, vS l1, vI i1, vI i2, vL a2 n2 eik2] ∧ True))
 (Q (vI 0) h_9))
theorem T48 {a1 : OA} {n1 : Nat} {eik1 : Nat} {l1 : Bs} {i1 : Int} {i2 : Int} {a2 : OA} {n2 : Nat} {eik2 : Nat} {h : PHeap} {Q : Value → PHeap → Prop} (hR : R48 a1 n1 eik1 l1 i1 i2 a2 n2 eik2 h Q) : Tri Tryz.prog 48 [vA [vL a1 n1 eik1, vS l1, vI i1, vI i2, vL a2 n2 eik2]] h Q :=
 tri_of_dn mixed Tryz.func48 rfl (by kernel_rfl) low48 (rs := [.tmp 2]) (by kernel_rfl) rfl (Eq.mpr (by kernel_rfl : dnF Tryz.prog Tryz.f48.ntmps d48 [.tmp 2] [vA [vL a1 n1 eik1, vS l1, vI i1, vI i2, vL a2 n2 eik2]] h Q = R48 a1 n1 eik1 l1 i1 i2 a2 n2 eik2 h Q) hR)
noncomputable def d24 : DCode := up ⟨[(7, .l [.slice]), (12, .l eik1), (13, .l eik1), (14, .c (.one false [qi])), (20, .l [qi]), (24, .l [qi]), (28, .l eik2), (29, .c (.one false [qi])), (31, .l [.str]), (35, .l [qi]), (41, .l [.slice]), (46, .l [qi]), (48, .l [.slice]), (52, .c (.one false [.bool])), (54, .l eik2), (55, .c (.one false [qi]))], [], [(10, 13, [(9, qi)], [])]⟩ (low Tryz.prog (fun _ => false) (Tryz.f24.body.getD .skip))
theorem low24 : low Tryz.prog (fun _ => false) (Tryz.f24.body.getD .skip) = some (eC d24) := by kernel_rfl
def R24 (a1 : OA) (n1 : Nat) (eik1 : Nat) (l1 : Bs) (i1 : Int) (i2 : Int) (a2 : OA) (n2 : Nat) (eik2 : Nat) (h : PHeap) (Q : Value → PHeap → Prop) : Prop :=
 ∃ (I_1 : Nat → Int → PHeap → Prop), (∃ (m2 : Nat), I_1 m2 (0 : Int) h) ∧
 ∀ (m1 : Nat) (i3 : Int) (h_1 : PHeap), I_1 m1 i3 h_1 →
 br (decide (i3 < ((n1 : Nat) : Int)))
 (∃ (b1 o1 : Nat), a1 = some ⟨b1, o1, none⟩ ∧ (0 ≤ i3 ∧ i3 < n1) ∧
 ∃ (i4 i5 i6 i7 : Int), h_1.row b1 (o1 + (i3).toNat * 4) [vI i4, vI i5, vI i6, vI i7] ∧
 Tri Tryz.prog 46 [vA [vI i4, vI i5, vI i6, vI i7]] h_1 fun v_1 h_2 =>
 ∃ (i8 : Int), v_1 = vI i8 ∧
 br (i8 != 0)
 (Q (vI i8) h_2)
 (∃ (m3 : Nat), m3 < m1 ∧ I_1 m3 (IntKind.i64.wrap (i3 + 1)) h_2 ∧
 tv [vL a1 n1 eik1, vS l1, vI i1, vI i2, vL a2 n2 eik2] ∧ True))
 (br (decide (i1 < 0))
 ((tv [vI i1]) ∧
 Q (vI 9) h_1)
 (br (decide (i1 > 4096))
 ((tv [vI i1]) ∧
 (tv [vI i1]) ∧
 Q (vI 9) h_1)
 (Tri Tryz.prog 25 [vA [vL a1 n1 eik1, vS l1, vI i1, vI i2, vL a2 n2 eik2]] h_1 fun v_2 h_3 =>
 ∃ (i9 : Int), v_2 = vI i9 ∧
 (tv [vI i1]) ∧
 (tv [vS l1]) ∧
 (tv [vI i1]) ∧
 (tv [vI i1]) ∧
 br (decide ((IntKind.i64.wrap ((IntKind.i64.wrap (i9 + (l1.length : Int))) + i1)) > 4096))
 (Q (vI 9) h_3)
 (br (decide (((n2 : Nat) : Int) > 1024))
 (Q (vI 9) h_3)
 (Tri Tryz.prog 47 [vI i2, vI (IntKind.i64.wrap ((IntKind.i64.wrap (((n1 : Nat) : Int) * 4)) - 4))] h_3 fun v_3 h_4 =>
 ∃ (c1 : Bool), v_3 = vB c1 ∧
 br (!c1)
 (Q (vI 2) h_4)
 (Tri Tryz.prog 48 [vA [vL a1 n1 eik1, vS l1, vI i1, vI i2, vL a2 n2 eik2]] h_4 fun v_4 h_5 =>
 ∃ (i10 : Int), v_4 = vI i10 ∧
 Q (vI i10) h_5))))))
theorem T24 {a1 : OA} {n1 : Nat} {eik1 : Nat} {l1 : Bs} {i1 : Int} {i2 : Int} {a2 : OA} {n2 : Nat} {eik2 : Nat} {h : PHeap} {Q : Value → PHeap → Prop} (hR : R24 a1 n1 eik1 l1 i1 i2 a2 n2 eik2 h Q) : Tri Tryz.prog 24 [vA [vL a1 n1 eik1, vS l1, vI i1, vI i2, vL a2 n2 eik2]] h Q :=
 tri_of_dn mixed Tryz.func24 rfl (by kernel_rfl) low24 (rs := [.tmp 2]) (by kernel_rfl) rfl (Eq.mpr (by kernel_rfl : dnF Tryz.prog Tryz.f24.ntmps d24 [.tmp 2] [vA [vL a1 n1 eik1, vS l1, vI i1, vI i2, vL a2 n2 eik2]] h Q = R24 a1 n1 eik1 l1 i1 i2 a2 n2 eik2 h Q) hR)
abbrev o142_0 : Op := .lookup 71 (.tmp 13) (.tmp 14) true
noncomputable def d142 : DCode := up ⟨[(10, .l [.ptr]), (13, .l [.map]), (14, .l [.str]), (15, .c (.tup [(true, [.str, .bool, qi]), (false, [.bool])])), (20, .l [.ptr]), (23, .l eik2), (24, .l [.str, .bool, qi]), (25, .c (.one false [qi])), (27, .l [qi]), (31, .l [qi]), (34, .l [.func]), (36, .c (.tup []))], [], []⟩ (low Tryz.prog (fun _ => false) (Tryz.f142.body.getD .skip))
theorem low142 : low Tryz.prog (fun _ => false) (Tryz.f142.body.getD .skip) = some (eC d142) := by kernel_rfl
def R142 (p1 : Nat) (o1 : Nat) (p2 : Nat) (o2 : Nat) (p3 : Nat) (o3 : Nat) (p4 : Nat) (o4 : Nat) (p5 : Nat) (o5 : Nat) (h : PHeap) (Q : Value → PHeap → Prop) : Prop :=
 ∃ (p6 o6 : Nat), h.cell p1 o1 = some (vP p6 o6) ∧
 ∃ (m1 : Nat), h.cell p6 (o6 + 10) = some (vM m1) ∧
 ∃ (l1 : Bs), h.cell p2 o2 = some (vS l1) ∧
 (Raw Tryz.prog (execOp (rho [(13, vM m1), (14, vS l1)]) (mkO o142_0 168)) h fun v_1 h_1 =>
 ∃ (l2 : Bs) (c1 : Bool) (i1 : Int) (c2 : Bool), v_1 = vT [vA [vS l2, vB c1, vI i1], vB c2] ∧
 (h_1.cell p1 o1 = some (vP p6 o6)) ∧
 (h_1.cell p1 o1 = some (vP p6 o6)) ∧
 br (!c2)
 (Q (vI 37) h_1)
 (∃ (p7 o7 : Nat), h_1.cell p1 o1 = some (vP p7 o7) ∧
 ∃ (a1 : OA) (n1 eik1 : Nat) (l3 : Bs) (i2 i3 : Int) (a2 : OA) (n2 eik2 : Nat), h_1.row p7 (o7 + 1) [vL a1 n1 eik1, vS l3, vI i2, vI i3, vL a2 n2 eik2] ∧
 Tri Tryz.prog 44 [vA [vL a1 n1 eik1, vS l3, vI i2, vI i3, vL a2 n2 eik2], vA [vS l2, vB c1, vI i1]] h_1 fun v_2 h_2 =>
 ∃ (i4 : Int), v_2 = vI i4 ∧
 (h_2.cell p1 o1 = some (vP p7 o7)) ∧
 ∃ (i5 : Int), h_2.cell p3 o3 = some (vI i5) ∧
 br (decide (i4 < i5))
 (Q (vI 2) h_2)
 (∃ (i6 : Int), h_2.cell p4 o4 = some (vI i6) ∧
 br (decide (i4 > i6))
 (Q (vI 2) h_2)
 (∃ (f1 : Nat) (x1 y1 : List Value), h_2.cell p5 o5 = some (vF f1 x1 y1) ∧
 Tri Tryz.prog f1 (x1 ++ [vI i4] ++ y1) h_2 fun v_3 h_3 =>
 v_3 = vT [] ∧
 Q (vI 0) h_3)))) ∧
 ((h.cell p2 o2 = some (vS l1)) ∧
 (h.cell p6 (o6 + 10) = some (vM m1)) ∧
 (h.cell p1 o1 = some (vP p6 o6)) ∧
 Raw Tryz.prog (execOp (rho [(13, vM m1), (14, vS l1)]) (mkO o142_0 168)) h fun v_4 h_4 =>
 ∃ (l4 : Bs) (c3 : Bool) (i7 : Int) (c4 : Bool), v_4 = vT [vA [vS l4, vB c3, vI i7], vB c4] ∧
 (h_4.cell p1 o1 = some (vP p6 o6)) ∧
 br (!c4)
 (Q (vI 37) h_4)
 (∃ (p8 o8 : Nat), h_4.cell p1 o1 = some (vP p8 o8) ∧
 ∃ (a3 : OA) (n3 k3 : Nat) (l5 : Bs) (i8 i9 : Int) (a4 : OA) (n4 k4 : Nat), h_4.row p8 (o8 + 1) [vL a3 n3 k3, vS l5, vI i8, vI i9, vL a4 n4 k4] ∧
 Tri Tryz.prog 44 [vA [vL a3 n3 k3, vS l5, vI i8, vI i9, vL a4 n4 k4], vA [vS l4, vB c3, vI i7]] h_4 fun v_5 h_5 =>
 ∃ (i10 : Int), v_5 = vI i10 ∧
 (h_5.cell p1 o1 = some (vP p8 o8)) ∧
 ∃ (i11 : Int), h_5.cell p3 o3 = some (vI i11) ∧
 br (decide (i10 < i11))
 (Q (vI 2) h_5)
 (∃ (i12 : Int), h_5.cell p4 o4 = some (vI i12) ∧
 br (decide (i10 > i12))
 (Q (vI 2) h_5)
 (∃ (f2 : Nat) (x2 y2 : List Value), h_5.cell p5 o5 = some (vF f2 x2 y2) ∧
 Tri Tryz.prog f2 (x2 ++ [vI i10] ++ y2) h_5 fun v_6 h_6 =>
 v_6 = vT [] ∧
 Q (vI 0) h_6))))
theorem T142 {p1 : Nat} {o1 : Nat} {p2 : Nat} {o2 : Nat} {p3 : Nat} {o3 : Nat} {p4 : Nat} {o4 : Nat} {p5 : Nat} {o5 : Nat} {h : PHeap} {Q : Value → PHeap → Prop} (hR : R142 p1 o1 p2 o2 p3 o3 p4 o4 p5 o5 h Q) : Tri Tryz.prog 142 [vP p1 o1, vP p2 o2, vP p3 o3, vP p4 o4, vP p5 o5] h Q :=
 tri_of_dn mixed Tryz.func142 rfl (by kernel_rfl) low142 (rs := [.tmp 5]) (by kernel_rfl) rfl (Eq.mpr (by kernel_rfl : dnF Tryz.prog Tryz.f142.ntmps d142 [.tmp 5] [vP p1 o1, vP p2 o2, vP p3 o3, vP p4 o4, vP p5 o5] h Q = R142 p1 o1 p2 o2 p3 o3 p4 o4 p5 o5 h Q) hR)
abbrev o13_1 : Op := .makeMap 71 none
abbrev o13_9 : Op := .range 71 (.tmp 79)
abbrev o13_10 : Op := .next (.tmp 80) false
abbrev o13_12 : Op := .entry (.tmp 80)
abbrev o13_14 : Op := .call { callee := (.builtin .append), args := #[(.tmp 90), (.tmp 92)], argTypes := #[23, 23] }
noncomputable def d13 : DCode := up ⟨[(19, .c (.one false [.map])), (20, .c (.one false [.map])), (24, .c (.one false [.slice])), (30, .l [.str]), (38, .c (.one false [qi])), (45, .l [qi]), (51, .l [.slice]), (56, .l [qi, .func]), (58, .l [.func]), (59, .c (.one false [qi])), (64, .l [qi]), (71, .l [.slice]), (79, .l [.map]), (80, .c (.one false [.ptr])), (81, .c .nxt), (83, .c (.tup [(false, [.str]), (true, [.str, .bool, qi])])), (90, .l [.slice]), (91, .l [.str, .bool, qi]), (93, .c (.one false [.slice])), (101, .l [.slice]), (102, .c (.tup [])), (106, .l eik2), (107, .c (.one false [qi])), (115, .l eik2)], [35, 75, 96], [(27, 27, [(26, qi)], [(2, eik2)]), (54, 18, [(53, qi)], [(2, eik2)]), (81, 17, [], [])]⟩ (low Tryz.prog (fun d => Nat.beq d 22) (Tryz.f13.body.getD .skip))
theorem low13 : low Tryz.prog (fun d => Nat.beq d 22) (Tryz.f13.body.getD .skip) = some (eC d13) := by kernel_rfl
def R13 (l1 : Bs) (h : PHeap) (Q : Value → PHeap → Prop) : Prop :=
 br (decide ((l1.length : Int) > 65536))
 (Q (vT [vA [vL none 0 0, vS [], vI 0, vI 0, vL none 0 0], vI 0, vI 5]) h)
 (Tri Tryz.prog 37 [] h fun v_1 h_1 =>
 ∃ (m1 : Nat), v_1 = vM m1 ∧
 Raw Tryz.prog (execOp (rho []) (mkO o13_1 71)) h_1 fun v_2 h_2 =>
 ∃ (m2 : Nat), v_2 = vM m2 ∧
 ∀ (b1 : Nat), h_2 b1 = none → ∀ (h_3 : PHeap), h_3 = h_2.put b1 (.cells ⟨[vM m1, vL none 0 0, vS [], vI 0, vI 0, vL none 0 0, vL none 0 0, vB false, vB false, vB false, vM m2, vI 0, vL none 0 0]⟩ 74) →
 Tri Tryz.prog 38 [vS l1, vS [10]] h_3 fun v_3 h_4 =>
 ∃ (a1 : OA) (n1 eik1 : Nat), v_3 = vL a1 n1 eik1 ∧
 ∃ (I_1 : Nat → Int → OA → Nat → Nat → Bs → Int → Int → OA → Nat → Nat → PHeap → Prop), (∃ (m4 : Nat), I_1 m4 (0 : Int) none 0 0 [] (0 : Int) (0 : Int) none 0 0 h_4) ∧
 ∀ (m3 : Nat) (i1 : Int) (a2 : OA) (n2 : Nat) (eik2 : Nat) (l2 : Bs) (i2 : Int) (i3 : Int) (a3 : OA) (n3 : Nat) (k3 : Nat) (h_5 : PHeap), I_1 m3 i1 a2 n2 eik2 l2 i2 i3 a3 n3 k3 h_5 →
 br (decide (i1 < ((n1 : Nat) : Int)))
 (∃ (b2 o1 : Nat), a1 = some ⟨b2, o1, none⟩ ∧ (0 ≤ i1 ∧ i1 < n1) ∧
 ∃ (l3 : Bs), h_5.cell b2 (o1 + (i1).toNat * 1) = some (vS l3) ∧
 ∃ (l4 : List Value) (t1 : TypeId) (z1 : Nat × Nat), h_5 b1 = some (.cells ⟨l4⟩ t1 z1) ∧ (11 + 1 ≤ l4.length ∧ z1.2 ≤ 11) ∧
 ∀ (h_6 : PHeap), h_6 = h_5.put b1 (.cells ⟨splice l4 11 [vI (IntKind.i64.wrap (i1 + 1))]⟩ t1 z1) →
 Tri Tryz.prog 39 [vP b1 0, vS l3] h_6 fun v_4 h_7 =>
 ∃ (i4 : Int), v_4 = vI i4 ∧
 br (i4 != 0)
 (∃ (i5 : Int), h_7.cell b1 11 = some (vI i5) ∧
 (h_7.cell b1 11 = some (vI i5)) ∧
 Q (vT [vA [vL none 0 0, vS [], vI 0, vI 0, vL none 0 0], vI i5, vI i4]) h_7)
 (∃ (m5 : Nat), m5 < m3 ∧ I_1 m5 (IntKind.i64.wrap (i1 + 1)) a2 n2 eik2 l2 i2 i3 a3 n3 k3 h_7 ∧
 True))
 (∃ (a4 : OA) (n4 k4 : Nat), h_5.cell b1 12 = some (vL a4 n4 k4) ∧
 ∃ (I_2 : Nat → Int → OA → Nat → Nat → Bs → Int → Int → OA → Nat → Nat → PHeap → Prop), (∃ (m7 : Nat), I_2 m7 (0 : Int) a2 n2 eik2 l2 i2 i3 a3 n3 k3 h_5) ∧
 ∀ (m6 : Nat) (i6 : Int) (a5 : OA) (n5 : Nat) (k5 : Nat) (l5 : Bs) (i7 : Int) (i8 : Int) (a6 : OA) (n6 : Nat) (k6 : Nat) (h_8 : PHeap), I_2 m6 i6 a5 n5 k5 l5 i7 i8 a6 n6 k6 h_8 →
 br (decide (i6 < ((n4 : Nat) : Int)))
 (∃ (b3 o2 : Nat), a4 = some ⟨b3, o2, none⟩ ∧ (0 ≤ i6 ∧ i6 < n4) ∧
 ∃ (i9 : Int) (f1 : Nat) (x1 y1 : List Value), h_8.row b3 (o2 + (i6).toNat * 2) [vI i9, vF f1 x1 y1] ∧
 Tri Tryz.prog f1 (x1 ++ [] ++ y1) h_8 fun v_5 h_9 =>
 ∃ (i10 : Int), v_5 = vI i10 ∧
 br (i10 != 0)
 ((tv [vI i9]) ∧
 Q (vT [vA [vL none 0 0, vS [], vI 0, vI 0, vL none 0 0], vI i9, vI i10]) h_9)
 (∃ (m8 : Nat), m8 < m6 ∧ I_2 m8 (IntKind.i64.wrap (i6 + 1)) a5 n5 k5 l5 i7 i8 a6 n6 k6 h_9 ∧
 True))
 (∃ (a7 : OA) (n7 k7 : Nat), h_8.cell b1 6 = some (vL a7 n7 k7) ∧
 ∃ (l6 : Bs), BytesAt h_8 a7 n7 l6 ∧
 ∃ (l7 : List Value) (t2 : TypeId) (z2 : Nat × Nat), h_8 b1 = some (.cells ⟨l7⟩ t2 z2) ∧ (2 + 1 ≤ l7.length ∧ z2.2 ≤ 2) ∧
 ∀ (h_10 : PHeap), h_10 = h_8.put b1 (.cells ⟨splice l7 2 [vS l6]⟩ t2 z2) →
 ∃ (m9 : Nat), h_10.cell b1 10 = some (vM m9) ∧
 Raw Tryz.prog (execOp (rho [(79, vM m9)]) (mkO o13_9 0)) h_10 fun v_6 h_11 =>
 ∃ (p1 o3 : Nat), v_6 = vP p1 o3 ∧
 ∃ (I_3 : Nat → PHeap → Prop), (∃ (m11 : Nat), I_3 m11 h_11) ∧
 ∀ (m10 : Nat) (h_12 : PHeap), I_3 m10 h_12 →
 Raw Tryz.prog (execOp (rho [(80, vP p1 o3)]) (mkO o13_10 0)) h_12 fun v_7 h_13 =>
 ((v_7 = vT [vB false] ∧
 ∃ (a8 : OA) (n8 k9 : Nat), h_13.cell b1 5 = some (vL a8 n8 k9) ∧
 Tri Tryz.prog 40 [vL a8 n8 k9, vF 41 [] []] h_13 fun v_8 h_14 =>
 v_8 = vT [] ∧
 ∃ (a9 : OA) (n9 k10 : Nat) (l8 : Bs) (i11 i12 : Int) (a10 : OA) (n10 k11 : Nat), h_14.row b1 1 [vL a9 n9 k10, vS l8, vI i11, vI i12, vL a10 n10 k11] ∧
 Tri Tryz.prog 24 [vA [vL a9 n9 k10, vS l8, vI i11, vI i12, vL a10 n10 k11]] h_14 fun v_9 h_15 =>
 ∃ (i13 : Int), v_9 = vI i13 ∧
 br (i13 != 0)
 (Q (vT [vA [vL none 0 0, vS [], vI 0, vI 0, vL none 0 0], vI 0, vI i13]) h_15)
 (∃ (a11 : OA) (n11 k12 : Nat) (l9 : Bs) (i14 i15 : Int) (a12 : OA) (n12 k13 : Nat), h_15.row b1 1 [vL a11 n11 k12, vS l9, vI i14, vI i15, vL a12 n12 k13] ∧
 Q (vT [vA [vL a11 n11 k12, vS l9, vI i14, vI i15, vL a12 n12 k13], vI 0, vI 0]) h_15)) ∨
 (∃ (k8 u1 : Value), v_7 = vT [vB true, k8, u1] ∧
 Raw Tryz.prog (execOp (rho [(80, vP p1 o3)]) (mkO o13_12 0)) h_13 fun v_10 h_16 =>
 ∃ (l10 l11 : Bs) (c1 : Bool) (i16 : Int), v_10 = vT [vS l10, vA [vS l11, vB c1, vI i16]] ∧
 ∃ (a13 : OA) (n13 k14 : Nat), h_16.cell b1 5 = some (vL a13 n13 k14) ∧
 ∀ (b4 : Nat), h_16 b4 = none → ∀ (h_17 : PHeap), h_17 = h_16.put b4 (.cells ⟨[vS l11, vB c1, vI i16]⟩ 80) →
 (h_17.cell b1 5 = some (vL a13 n13 k14)) ∧
 Raw Tryz.prog (execOp (rho [(90, vL a13 n13 k14), (92, vL (ad b4 0) 1 1)]) (mkO o13_14 23)) h_17 fun v_11 h_18 =>
 ∃ (a14 : OA) (n14 k15 : Nat), v_11 = vL a14 n14 k15 ∧
 ∃ (l12 : List Value) (t3 : TypeId) (z3 : Nat × Nat), h_18 b1 = some (.cells ⟨l12⟩ t3 z3) ∧ (5 + 1 ≤ l12.length ∧ z3.2 ≤ 5) ∧
 ∀ (h_19 : PHeap), h_19 = h_18.put b1 (.cells ⟨splice l12 5 [vL a14 n14 k15]⟩ t3 z3) →
 ∃ (m12 : Nat), m12 < m10 ∧ I_3 m12 h_19 ∧
 tv [vL a5 n5 k5, vS l5, vI i7, vI i8, vL a6 n6 k6] ∧ True)))))
theorem T13 {l1 : Bs} {h : PHeap} {Q : Value → PHeap → Prop} (hR : R13 l1 h Q) : Tri Tryz.prog 13 [vS l1] h Q :=
 tri_of_dn mixed Tryz.func13 rfl (by kernel_rfl) low13 (rs := [.cell 2 true 5, .tmp 3, .tmp 4]) (by kernel_rfl) rfl (Eq.mpr (by kernel_rfl : dnF Tryz.prog Tryz.f13.ntmps d13 [.cell 2 true 5, .tmp 3, .tmp 4] [vS l1] h Q = R13 l1 h Q) hR)
abbrev o15_16 : Op := .binOp .eql 80 (.tmp 64) (.tmp 65) 80
noncomputable def d15 : DCode := up ⟨[(14, .c (.tup [(true, eik2), (false, [qi]), (false, [qi])])), (19, .c (.tup [(true, eik2), (false, [qi]), (false, [qi])])), (24, .c (.tup [(true, eik2), (false, [qi]), (false, [qi])])), (29, .c (.tup [(true, eik2), (false, [qi]), (false, [qi])])), (37, .l [.slice]), (43, .l [.slice]), (46, .l [qi]), (51, .l [.str]), (56, .l [.slice]), (62, .l [.slice]), (64, .l [.str, .bool, qi]), (66, .c (.one false [.bool]))], [], []⟩ (low Tryz.prog (fun _ => false) (Tryz.f15.body.getD .skip))
theorem low15 : low Tryz.prog (fun _ => false) (Tryz.f15.body.getD .skip) = some (eC d15) := by kernel_rfl
def R15 (h : PHeap) (Q : Value → PHeap → Prop) : Prop :=
 Tri Tryz.prog 13 [vS [115, 101, 116, 32, 114, 49, 44, 32, 120, 10, 46, 100, 97, 116, 97, 10, 120, 58, 32, 46, 98, 121, 116, 101, 32, 53]] h fun v_1 h_1 =>
 ∃ (a1 : OA) (n1 eik1 : Nat) (l1 : Bs) (i1 i2 : Int) (a2 : OA) (n2 eik2 : Nat) (i3 i4 : Int), v_1 = vT [vA [vL a1 n1 eik1, vS l1, vI i1, vI i2, vL a2 n2 eik2], vI i3, vI i4] ∧
 Tri Tryz.prog 13 [vS [97, 58, 32, 106, 117, 109, 112, 32, 97, 44, 32, 49]] h_1 fun v_2 h_2 =>
 ∃ (a3 : OA) (n3 k3 : Nat) (l2 : Bs) (i5 i6 : Int) (a4 : OA) (n4 k4 : Nat) (i7 i8 : Int), v_2 = vT [vA [vL a3 n3 k3, vS l2, vI i5, vI i6, vL a4 n4 k4], vI i7, vI i8] ∧
 Tri Tryz.prog 13 [vS [106, 117, 109, 112, 32, 98]] h_2 fun v_3 h_3 =>
 ∃ (a5 : OA) (n5 k5 : Nat) (l3 : Bs) (i9 i10 : Int) (a6 : OA) (n6 k6 : Nat) (i11 i12 : Int), v_3 = vT [vA [vL a5 n5 k5, vS l3, vI i9, vI i10, vL a6 n6 k6], vI i11, vI i12] ∧
 Tri Tryz.prog 13 [vS [115, 101, 116, 32, 114, 49, 44, 32, 51, 50, 55, 54, 56]] h_3 fun v_4 h_4 =>
 ∃ (a7 : OA) (n7 k7 : Nat) (l4 : Bs) (i13 i14 : Int) (a8 : OA) (n8 k8 : Nat) (i15 i16 : Int), v_4 = vT [vA [vL a7 n7 k7, vS l4, vI i13, vI i14, vL a8 n8 k8], vI i15, vI i16] ∧
 br (i4 == 0)
 (br (((n1 : Nat) : Int) == 1)
 (∃ (b1 o1 : Nat), a1 = some ⟨b1, o1, none⟩ ∧ (0 ≤ (0 : Int) ∧ (0 : Int) < n1) ∧
 ∃ (i17 : Int), h_4.cell b1 (o1 + 3) = some (vI i17) ∧
 br (i17 == 64)
 (br (l1 == [5])
 (br (((n2 : Nat) : Int) == 1)
 (∃ (b2 o2 : Nat), a2 = some ⟨b2, o2, none⟩ ∧ (0 ≤ (0 : Int) ∧ (0 : Int) < n2) ∧
 ∃ (l5 : Bs) (c1 : Bool) (i18 : Int), h_4.row b2 o2 [vS l5, vB c1, vI i18] ∧
 ∃ (c2 : Bool), PureRun Tryz.prog (execOp (rho [(64, vA [vS l5, vB c1, vI i18]), (65, vA [vS [120], vB true, vI 0])]) (mkO o15_16 4)) (vB c2) ∧
 br c2
 (br (i7 == 1)
 (br (i8 == 30)
 (br (i12 == 37)
 (Q (vB (i16 == 2)) h_4)
 (Q (vB false) h_4))
 (Q (vB false) h_4))
 (Q (vB false) h_4))
 (Q (vB false) h_4))
 (Q (vB false) h_4))
 (Q (vB false) h_4))
 (Q (vB false) h_4))
 (Q (vB false) h_4))
 (Q (vB false) h_4)
theorem T15 {h : PHeap} {Q : Value → PHeap → Prop} (hR : R15  h Q) : Tri Tryz.prog 15 [] h Q :=
 tri_of_dn mixed Tryz.func15 rfl (by kernel_rfl) low15 (rs := [.tmp 0]) (by kernel_rfl) rfl (Eq.mpr (by kernel_rfl : dnF Tryz.prog Tryz.f15.ntmps d15 [.tmp 0] [] h Q = R15  h Q) hR)
end Go.Proofs.D
namespace Go.Proofs.D
open Go Go.Den
set_option maxRecDepth 100000
theorem br_pos {c : Bool} {X Y : Prop} (h : c = true) (x : X) : br c X Y := by subst h; exact x
theorem br_neg {c : Bool} {X Y : Prop} (h : c = false) (y : Y) : br c X Y := by subst h; exact y
theorem put_same (h : PHeap) (b : Nat) (o : Obj) : (h.put b o) b = some o := if_pos rfl
theorem put_ne {h : PHeap} {k b : Nat} {o : Obj} (hk : k ≠ b) : (h.put b o) k = h k := if_neg hk
theorem put_put (h : PHeap) (b : Nat) (o o' : Obj) : (h.put b o).put b o' = h.put b o' := by
 funext k; simp only [PHeap.put]; split <;> rfl
theorem cell_of {h : PHeap} {b : Nat} {l : List Value} {t : TypeId} {z : Nat × Nat} (hb : h b = some (.cells ⟨l⟩ t z)) (o : Nat) : h.cell b o = l[o]? := by
 simp [PHeap.cell, hb]
theorem cell_eq {h h' : PHeap} {b : Nat} (e : h' b = h b) (o : Nat) : h'.cell b o = h.cell b o := by simp only [PHeap.cell, e]
theorem row_eq {h h' : PHeap} {b : Nat} (e : h' b = h b) : ∀ (l : List Value) (o : Nat), h.row b o l → h'.row b o l
 | [], _, _ => trivial
 | [v], o, hr => by show h'.cell b o = _; rw [cell_eq e]; exact hr
 | v :: w :: l, o, hr => ⟨by rw [cell_eq e]; exact hr.1, row_eq e (w :: l) (o + 1) hr.2⟩
theorem row_get {h : PHeap} {b : Nat} : ∀ {l : List Value} {o j : Nat} {v : Value}, h.row b o l → l[j]? = some v → h.cell b (o + j) = some v
 | [], _, _, _, _, hj => by simp at hj
 | [w], o, 0, v, hr, hj => by simp at hj; subst hj; exact hr
 | [w], o, j + 1, v, hr, hj => by simp at hj
 | w :: x :: l, o, 0, v, hr, hj => by simp at hj; subst hj; exact hr.1
 | w :: x :: l, o, j + 1, v, hr, hj => by
   have := row_get (l := x :: l) (j := j) hr.2 (by simpa using hj)
   rw [show o + (j + 1) = o + 1 + j by omega]; exact this
theorem row_lit {h : PHeap} {b : Nat} {l : List Value} {t : TypeId} {z : Nat × Nat} (hb : h b = some (.cells ⟨l⟩ t z)) {o : Nat} {vs : List Value} (hv : ∀ j v, vs[j]? = some v → l[o + j]? = some v) : h.row b o vs :=
 Go.Den.row_of vs o fun j v hj => by rw [cell_of hb]; exact hv j v hj
def Ext (h h' : PHeap) : Prop := ∀ k o, h k = some o → h' k = some o
def Away (p : Nat) (h h' : PHeap) : Prop := ∀ k o, k ≠ p → h k = some o → h' k = some o
def Chg (p : Nat) (h h' : PHeap) : Prop := ∀ k, k ≠ p → h' k = h k
theorem Ext.refl (h : PHeap) : Ext h h := fun _ _ x => x
theorem Ext.trans {a b c : PHeap} (x : Ext a b) (y : Ext b c) : Ext a c := fun k o z => y k o (x k o z)
theorem Ext.put {h : PHeap} {b : Nat} (hb : h b = none) (o : Obj) : Ext h (h.put b o) := fun k o' hk => by
 have : k ≠ b := fun e => by subst e; rw [hb] at hk; cases hk
 rw [put_ne this]; exact hk
theorem Ext.dom {h h' : PHeap} (x : Ext h h') : ∀ k, h' k = none → h k = none := fun k hk => by
 cases e : h k with
 | none => rfl
 | some o => rw [x _ _ e] at hk; cases hk
theorem Away.refl (p : Nat) (h : PHeap) : Away p h h := fun _ _ _ x => x
theorem Away.trans {p : Nat} {a b c : PHeap} (x : Away p a b) (y : Away p b c) : Away p a c := fun k o hk z => y k o hk (x k o hk z)
theorem Ext.away {p : Nat} {a b : PHeap} (x : Ext a b) : Away p a b := fun k o _ z => x k o z
theorem Chg.away {p : Nat} {a b : PHeap} (x : Chg p a b) : Away p a b := fun k o hk z => by rw [x k hk]; exact z
theorem Chg.refl (p : Nat) (h : PHeap) : Chg p h h := fun _ _ => rfl
theorem Chg.trans {p : Nat} {a b c : PHeap} (x : Chg p a b) (y : Chg p b c) : Chg p a c := fun k hk => (y k hk).trans (x k hk)
theorem Chg.put (p : Nat) (h : PHeap) (o : Obj) : Chg p h (h.put p o) := fun _ hk => put_ne hk
theorem cell_ext {h h' : PHeap} {b o : Nat} {v : Value} (x : ∀ ob, h b = some ob → h' b = some ob) (hc : h.cell b o = some v) : h'.cell b o = some v := by
 unfold PHeap.cell at hc
 split at hc
 · rename_i c t z hb
   simp only [PHeap.cell, x _ hb]; exact hc
 · cases hc
theorem row_ext {h h' : PHeap} {b : Nat} (x : ∀ ob, h b = some ob → h' b = some ob) : ∀ {l : List Value} {o : Nat}, h.row b o l → h'.row b o l
 | [], _, _ => trivial
 | [v], o, hr => cell_ext x hr
 | v :: w :: l, o, hr => ⟨cell_ext x hr.1, row_ext x (l := w :: l) hr.2⟩
open Classical in
noncomputable def only (D : Nat → Prop) (h : PHeap) : PHeap := fun k => if D k then h k else none
def New (h0 : PHeap) (k : Nat) : Prop := h0 k = none
theorem only_some {D : Nat → Prop} {h : PHeap} {k : Nat} {o : Obj} : only D h k = some o ↔ D k ∧ h k = some o := by
 unfold only; split
 · rename_i hd; exact ⟨fun x => ⟨hd, x⟩, fun x => x.2⟩
 · rename_i hd; exact ⟨(fun x => by cases x), fun x => absurd x.1 hd⟩
theorem only_ext {D D' : Nat → Prop} {h h' : PHeap} (x : ∀ k o, D k → h k = some o → D' k ∧ h' k = some o) : Ext (only D h) (only D' h') := fun k o hk => by
 rw [only_some] at hk ⊢; exact x k o hk.1 hk.2
theorem only_sub {D : Nat → Prop} {h : PHeap} : Ext (only D h) h := fun k o hk => (only_some.1 hk).2
theorem only_away {p : Nat} {h0 h h' : PHeap} (hp : h0 p ≠ none) (x : Away p h h') : Ext (only (New h0) h) (only (New h0) h') :=
 only_ext fun k o hn hk => ⟨hn, x k o (fun e => by subst e; exact hp hn) hk⟩
theorem only_new {h0 h1 h : PHeap} (x : ∀ k, h1 k = none → h0 k = none) : Ext (only (New h1) h) (only (New h0) h) :=
 only_ext fun k o hn hk => ⟨x k hn, hk⟩
theorem Put.ext {h h1 : PHeap} {b : Nat} {o : Obj} (e : h1 = h.put b o) (hb : h b = none) : Ext h h1 := e ▸ Ext.put hb o
theorem Put.at {h h1 : PHeap} {b : Nat} {o : Obj} (e : h1 = h.put b o) : h1 b = some o := e ▸ put_same h b o
theorem Put.chg {h h1 : PHeap} {b : Nat} {o : Obj} (e : h1 = h.put b o) : Chg b h h1 := e ▸ Chg.put b h o
theorem Away.dom {p : Nat} {h h' : PHeap} (x : Away p h h') (hp : h' p ≠ none) : ∀ k, h' k = none → h k = none := fun k hk => by
 cases e : h k with
 | none => rfl
 | some o =>
   have : k ≠ p := fun e => by subst e; exact hp hk
   rw [x k o this e] at hk; cases hk
theorem wrap64 {n : Int} (h1 : -9223372036854775808 ≤ n) (h2 : n ≤ 9223372036854775807) : IntKind.i64.wrap n = n := Go.IntWalk.i64_in n ⟨h1, h2⟩
attribute [local irreducible] IntKind.wrap Tri
def ElemT (e k : Nat) : Prop := ∃ i z, Tryz.prog.info? e = some i ∧ i.zero = some z ∧ z.cells.size = k ∧ i.size = k ∧ i.bytes ≤ 200
theorem append_one {h : PHeap} {e t ty : TypeId} {k : Nat} (hu : Tryz.prog.underlying t = some (.slice e)) (he : ElemT e k) {ρ : Operand → Value} {c : Call} {x y : Operand} (hc : c.callee = .builtin .append) (ha : c.args = #[x, y]) (hts : c.argTypes = #[t, t])
 {a : Option Addr} {n cp b2 : Nat} {xs ys : List Value} (hx : ρ x = vL a n cp) (hy : ρ y = vL (ad b2 0) 1 1) (ho : Own h e k (vL a n cp) n xs) (hb2 : h b2 = some (.cells ⟨ys⟩ e (0, 0))) (hl : ys.length = k) (h1 : allOne ys = true) (hn : n ≤ 10000000) :
 Raw Tryz.prog (execOp ρ (mkO (.call c) ty)) h fun v h' => ∃ b cap, v = vL (ad b 0) (n + 1) cap ∧ Own h' e k (vL (ad b 0) (n + 1) cap) (n + 1) (xs ++ ys) ∧ (h b = none ∨ a = ad b 0) ∧ Chg b h h' := by
 obtain ⟨i, z, hi, hz, hzc, hk, hby⟩ := he
 subst hk
 have hsrc : SrcH Tryz.prog h i.size t (vL (ad b2 0) 1 1) 1 ys := SrcH.row hu (by omega) (row_lit hb2 fun j v hj => by simpa using hj) h1
 have hbig : (16 * (n + 1) + 16384) * i.bytes ≤ 281474976710656 := by
  have : (16 * (n + 1) + 16384) * i.bytes ≤ (16 * (n + 1) + 16384) * 200 := Nat.mul_le_mul_left _ hby
  omega
 refine Raw.mono (raw_append hc ha hts hu hi hz hx hy ho hsrc hzc (by omega) hbig (by omega)) ?_
 rintro v h' ⟨b, cap, rest, rfl, rfl, hr, hcap, hb⟩
 have hxl := ho.1
 refine ⟨b, cap, rfl, ⟨?_, .inr ⟨b, cap, rest, rfl, put_same _ _ _, hr, hcap⟩⟩, ?_, Chg.put _ _ _⟩
 · rw [List.length_append, hxl, hl, Nat.add_mul]; omega
 · rcases hb with hb | ⟨c2, hb⟩
   · exact .inl hb
   · injection hb with h1 h2 h3; exact .inr h1
structure LM (e k : Nat) (h0 h : PHeap) (a : Option Addr) (n c : Nat) (css : List (List Value)) : Prop where
 own : ∀ b, a = ad b 0 → h0 b = none ∧ h b ≠ none
 len : css.length = n
 each : ∀ (j : Nat) (cs : List Value), css[j]? = some cs → cs.length = k
 row : Own h e k (vL a n c) n css.flatten
 emp : n = 0 → a = none ∧ c = 0
def LR {α : Type} (rel : PHeap → α → List Value → Prop) (h0 h : PHeap) (a : Option Addr) (css : List (List Value)) (xs : List α) : Prop :=
 css.length = xs.length ∧ ∀ (j : Nat) (x : α) (cs : List Value), xs[j]? = some x → css[j]? = some cs → rel (only (fun b => New h0 b ∧ a ≠ ad b 0) h) x cs
def At {α : Type} (k : Nat) (rel : PHeap → α → List Value → Prop) (h : PHeap) (a : Option Addr) (xs : List α) : Prop :=
 xs = [] ∨ ∃ b o, a = ad b o ∧ ∀ (j : Nat) (x : α), xs[j]? = some x → ∃ cs, h.row b (o + j * k) cs ∧ rel h x cs
structure Mono {α : Type} (rel : PHeap → α → List Value → Prop) : Prop where
 ap : ∀ {h h' : PHeap} {x : α} {cs : List Value}, Ext h h' → rel h x cs → rel h' x cs
section
variable {α : Type} {e k : Nat} {rel : PHeap → α → List Value → Prop} {h0 h h' : PHeap} {a : Option Addr} {n c : Nat} {xs : List α}
theorem At.ext (hm : Mono rel) (x : Ext h h') (ha : At k rel h a xs) : At k rel h' a xs := by
 rcases ha with ha | ⟨b, o, ha, hj⟩
 · exact .inl ha
 · exact .inr ⟨b, o, ha, fun j y hy => let ⟨cs, h1, h2⟩ := hj j y hy; ⟨cs, row_ext (fun ob => x b ob) h1, hm.ap x h2⟩⟩
theorem LM.nil : LM e k h0 h none 0 0 [] :=
 ⟨(fun b hb => by cases hb), rfl, (fun j cs hj => by simp at hj), ⟨by simp, .inl ⟨rfl, rfl⟩⟩, fun _ => ⟨rfl, rfl⟩⟩
theorem LR.nil : LR rel h0 h none [] ([] : List α) := ⟨rfl, fun j x cs hx => by simp at hx⟩
theorem Own.keep {xs : List Value} (hb : ∀ b, a = ad b 0 → h' b = h b) (ho : Own h e k (vL a n c) n xs) : Own h' e k (vL a n c) n xs := by
 refine ⟨ho.1, ?_⟩
 rcases ho.2 with h1 | ⟨b', cap, rest, h1, h2, h3, h4⟩
 · exact .inl h1
 · injection h1 with e1 e2 e3
   subst e3
   exact .inr ⟨b', c, rest, by rw [e1], by rw [hb b' e1]; exact h2, h3, h4⟩
variable {css : List (List Value)}
theorem LM.away {p : Nat} (hp : h0 p ≠ none) (x : Away p h h') (hL : LM e k h0 h a n c css) : LM e k h0 h' a n c css := by
 obtain ⟨h2, h3, h4, h5, h6⟩ := hL
 have hk : ∀ b, a = ad b 0 → h' b = h b := fun b hb => by
  obtain ⟨g1, g2⟩ := h2 b hb
  cases e : h b with
  | none => exact absurd e g2
  | some o => exact x b o (fun e => by subst e; exact hp g1) e
 exact ⟨fun b hb => ⟨(h2 b hb).1, by rw [hk b hb]; exact (h2 b hb).2⟩, h3, h4, Own.keep hk h5, h6⟩
theorem LM.ext (x : Ext h h') (hL : LM e k h0 h a n c css) : LM e k h0 h' a n c css := by
 obtain ⟨h2, h3, h4, h5, h6⟩ := hL
 have hk : ∀ b, a = ad b 0 → h' b = h b := fun b hb => by
  obtain ⟨g1, g2⟩ := h2 b hb
  cases e : h b with
  | none => exact absurd e g2
  | some o => exact x b o e
 exact ⟨fun b hb => ⟨(h2 b hb).1, by rw [hk b hb]; exact (h2 b hb).2⟩, h3, h4, Own.keep hk h5, h6⟩
theorem LR.away (hm : Mono rel) {p : Nat} (hp : h0 p ≠ none) (x : Away p h h') (hL : LR rel h0 h a css xs) : LR rel h0 h' a css xs :=
 ⟨hL.1, fun j y cs hy hc => hm.ap (only_ext fun k o hn hk => ⟨hn, x k o (fun e => by subst e; exact hp hn.1) hk⟩) (hL.2 j y cs hy hc)⟩
theorem LR.ext (hm : Mono rel) (x : Ext h h') (hL : LR rel h0 h a css xs) : LR rel h0 h' a css xs :=
 ⟨hL.1, fun j y cs hy hc => hm.ap (only_ext fun k o hn hk => ⟨hn, x k o hk⟩) (hL.2 j y cs hy hc)⟩
def okN (a : Option Addr) (n c : Nat) : Prop := n ≤ c ∧ (n = 0 → a = none ∧ c = 0)
theorem LM.okN (hL : LM e k h0 h a n c css) : okN a n c := by
 refine ⟨?_, hL.emp⟩
 rcases hL.row.2 with ⟨_, h1⟩ | ⟨_, _, _, h1, _, _, h2⟩
 · omega
 · injection h1 with _ _ h1; omega
theorem LM.new (hL : LM e k h0 h a n c css) (hd : ∀ b, h b = none → h0 b = none) : Ext (only (New h) h') (only (fun b => New h0 b ∧ a ≠ ad b 0) h') :=
 only_ext fun b o hn hk => ⟨⟨hd b hn, fun e => (hL.own b e).2 hn⟩, hk⟩
theorem flatten_row {k : Nat} : ∀ {css : List (List Value)} {j : Nat} {cs : List Value}, (∀ (i : Nat) (c : List Value), css[i]? = some c → c.length = k) → css[j]? = some cs → ∀ (i : Nat) (v : Value), cs[i]? = some v → css.flatten[j * k + i]? = some v
 | [], j, cs, _, hj, _, _, _ => by simp at hj
 | c :: css, 0, cs, hl, hj, i, v, hv => by
   simp at hj; subst hj
   have : i < c.length := (List.getElem?_eq_some_iff.1 hv).1
   simp [List.getElem?_append_left this, hv]
 | c :: css, j + 1, cs, hl, hj, i, v, hv => by
   have h0 := hl 0 c rfl
   have := flatten_row (k := k) (css := css) (j := j) (cs := cs) (fun i c hc => hl (i + 1) c (by simpa using hc)) (by simpa using hj) i v hv
   rw [List.flatten_cons, List.getElem?_append_right (by rw [h0, Nat.add_mul]; omega), h0, Nat.add_mul, show j * k + 1 * k + i - k = j * k + i by omega]
   exact this
theorem LM.at (hm : Mono rel) (hM : LM e k h0 h a n c css) (hL : LR rel h0 h a css xs) : At k rel (only (New h0) h) a xs := by
 obtain ⟨h2, h3, h4, h5, _⟩ := hM
 obtain ⟨g0, h6⟩ := hL
 rcases h5.2 with ⟨g1, g2⟩ | ⟨b, cap, rest, g1, g2, g3, g4⟩
 · left; exact List.eq_nil_of_length_eq_zero (by omega)
 · injection g1 with g1 _ _
   right
   refine ⟨b, 0, g1, fun j x hx => ?_⟩
   have hj : j < css.length := by rw [g0]; exact (List.getElem?_eq_some_iff.1 hx).1
   have hcs : css[j]? = some css[j] := List.getElem?_eq_getElem hj
   refine ⟨css[j], ?_, hm.ap (only_ext fun b o hn hk => ⟨hn.1, hk⟩) (h6 j x _ hx hcs)⟩
   have hbk : only (New h0) h b = some (.cells ⟨css.flatten ++ rest⟩ e (0, 0)) := only_some.2 ⟨(h2 b g1).1, g2⟩
   refine row_lit hbk fun i v hv => ?_
   have hfl := flatten_row (k := k) h4 hcs i v hv
   rw [Nat.zero_add, List.getElem?_append_left (List.getElem?_eq_some_iff.1 hfl).1]
   exact hfl
theorem LM.append {t ty : TypeId} (hu : Tryz.prog.underlying t = some (.slice e)) (he : ElemT e k) {ρ : Operand → Value} {cl : Call} {x y : Operand} (hcl : cl.callee = .builtin .append) (hca : cl.args = #[x, y]) (hts : cl.argTypes = #[t, t])
 {b2 : Nat} {cs : List Value} (hx : ρ x = vL a n c) (hy : ρ y = vL (ad b2 0) 1 1) (hL : LM e k h0 h a n c css) (hb2 : h b2 = none) (hh : h' = h.put b2 (.cells ⟨cs⟩ e (0, 0))) (hl : cs.length = k) (h1 : allOne cs = true) (hn : n ≤ 10000000)
 (hd : ∀ b, h b = none → h0 b = none) :
 Raw Tryz.prog (execOp ρ (mkO (.call cl) ty)) h' fun w h2 => ∃ b cap, w = vL (ad b 0) (n + 1) cap ∧ (∀ q o, h0 q ≠ none → h q = some o → h2 q = some o) ∧ (∀ q, h2 q = none → h q = none) ∧ h0 b = none ∧ (∀ q o, ad b 0 ≠ ad q 0 → h q = some o → h2 q = some o) ∧
  LM e k h0 h2 (ad b 0) (n + 1) cap (css ++ [cs]) ∧ ∀ {α : Type} {rel : PHeap → α → List Value → Prop} {xs : List α} {v : α}, Mono rel → LR rel h0 h a css xs → rel (only (fun b => New h0 b ∧ a ≠ ad b 0) h) v cs → LR rel h0 h2 (ad b 0) (css ++ [cs]) (xs ++ [v]) := by
 have hL' := hL.ext (Put.ext hh hb2)
 obtain ⟨g2, g3, g4, g5, _⟩ := hL'
 refine Raw.mono (append_one hu he hcl hca hts hx hy g5 (Put.at hh) hl h1 hn) ?_
 rintro w h2 ⟨b, cap, rfl, ho, hb, hc⟩
 have hbh : h' b ≠ none → a = ad b 0 := fun hne => hb.resolve_left hne
 have hb0 : h0 b = none := by
  rcases hb with hb | hb
  · refine hd b ?_
    cases e : h b with
    | none => rfl
    | some o => rw [Put.ext hh hb2 b o e] at hb; cases hb
  · exact (g2 b hb).1
 have hown : h2 b ≠ none := by
  rcases ho.2 with ⟨g, _⟩ | ⟨b', c', rest, g, g', _⟩
  · cases g
  · injection g with g; injection g with g; injection g with g; subst g; rw [g']; exact fun e => by cases e
 have hq : ∀ q o, q ≠ b → h q = some o → h2 q = some o := fun q o e hqo => by rw [hc q e]; exact Put.ext hh hb2 q o hqo
 refine ⟨b, cap, rfl, fun q o hq0 hqo => hq q o (fun e => by subst e; exact hq0 hb0) hqo, fun q hqn => ?_, hb0, fun q o e hqo => hq q o (fun e' => by subst e'; exact e rfl) hqo, ⟨fun q hq => ?_, by simp [g3], fun j cs' hj => ?_, by simpa using ho, fun e => absurd e (Nat.succ_ne_zero _)⟩, fun {α rel xs v} hm hR hrel => ⟨by simp [hR.1], fun j x cs' hx hcs => ?_⟩⟩
 · by_cases e : q = b
   · subst e; exact absurd hqn hown
   · cases e2 : h q with
     | none => rfl
     | some o => rw [hq q o e e2] at hqn; cases hqn
 · injection hq with hq; injection hq with hq; subst hq
   exact ⟨hb0, hown⟩
 · by_cases hj' : j < css.length
   · rw [List.getElem?_append_left hj'] at hj; exact g4 j cs' hj
   · have : j = css.length := by
      have := (List.getElem?_eq_some_iff.1 hj).1
      simp at this; omega
     subst this
     have e2 : cs' = cs := by simpa using hj.symm
     subst e2; exact hl
 · have hold : Ext (only (fun b => New h0 b ∧ a ≠ ad b 0) h) (only (fun q => New h0 q ∧ ad b 0 ≠ ad q 0) h2) := only_ext fun q o hq' hqo => by
    have hqb : q ≠ b := fun e => by
     subst e
     exact hq'.2 (hbh (by rw [Put.ext hh hb2 q o hqo]; exact fun e => by cases e))
    exact ⟨⟨hq'.1, fun e => hqb (by injection e with e; injection e with e; exact e.symm)⟩, hq q o hqb hqo⟩
   by_cases hj : j < xs.length
   · rw [List.getElem?_append_left hj] at hx
     rw [List.getElem?_append_left (by rw [hR.1]; exact hj)] at hcs
     exact hm.ap hold (hR.2 j x cs' hx hcs)
   · have : j = xs.length := by
      have := (List.getElem?_eq_some_iff.1 hx).1
      simp at this; omega
     subst this
     have e1 : x = v := by simpa using hx.symm
     have e2 : cs' = cs := by rw [← hR.1] at hcs; simpa using hcs.symm
     subst e1; subst e2
     exact hm.ap hold hrel
end
end Go.Proofs.D
