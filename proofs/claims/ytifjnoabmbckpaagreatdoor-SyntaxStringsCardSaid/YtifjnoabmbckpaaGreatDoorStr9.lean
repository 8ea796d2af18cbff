import Derived.Test.YtifjnoabmbckpaaGreatDoorStr8
import Derived.WalkKit
import Derived.ProofKit
import Derived.OpenShut
import Derived.Deep.DeepHandedRow
namespace Go.Proofs.D
open Go Go.Den
set_option maxRecDepth 100000
set_option maxHeartbeats 4000000
abbrev dbk1 : List CK := [.str, .slice, .slice, qi, qi]
abbrev dbk2 : List CK := [qi, .str, .slice, .slice, .slice, qi, qi]
abbrev dbk3 : List CK := [qi, .str, .str, qi, .str, .slice, qi, qi]
noncomputable def d9 : DCode := up ⟨[(14, .c (.one false [.str])), (17, .c (.tup [(true, [.slice, .slice]), (false, [qi]), (false, [qi])])), (21, .c (.one false [.bool])), (27, .c (.one false [.bool])), (30, .c (.tup [(true, [.slice, .slice]), (false, [qi]), (false, [qi]), (false, [qi])])), (35, .l [.slice, .slice]), (36, .c (.one false [.slice])), (37, .l [.slice, .slice]), (38, .c (.one false [.slice])), (57, .l [.str]), (61, .l [.str])], [], [(48, 17, [(12, qi)], [])]⟩ (low Tryz.prog (fun _ => false) (Tryz.f9.body.getD .skip))
theorem low9 : low Tryz.prog (fun _ => false) (Tryz.f9.body.getD .skip) = some (eC d9) := by kernel_rfl
def R9 (l1 : Bs) (h : PHeap) (Q : Value → PHeap → Prop) : Prop :=
 Tri Tryz.prog 13 [vS l1] h fun v_1 h_1 =>
 ∃ (l2 : Bs), v_1 = vS l2 ∧
 Tri Tryz.prog 15 [vS l2] h_1 fun v_2 h_2 =>
 ∃ (a1 : OA) (n1 dbk1 : Nat) (a2 : OA) (n2 dbk2 : Nat) (i1 i2 : Int), v_2 = vT [vA [vL a1 n1 dbk1, vL a2 n2 dbk2], vI i1, vI i2] ∧
 Tri Tryz.prog 16 [] h_2 fun v_3 h_3 =>
 ∃ (c1 : Bool), v_3 = vB c1 ∧
 br (!c1)
 (Tri Tryz.prog 16 [] h_3 fun v_4 h_4 =>
 ∃ (c2 : Bool), v_4 = vB c2 ∧
 Q (vB c2) h_4)
 (br (i2 != 0)
 (Tri Tryz.prog 16 [] h_3 fun v_5 h_5 =>
 ∃ (c3 : Bool), v_5 = vB c3 ∧
 Q (vB c3) h_5)
 (Tri Tryz.prog 14 [vS l2] h_3 fun v_6 h_6 =>
 ∃ (a3 : OA) (n3 dbk3 : Nat) (a4 : OA) (n4 k4 : Nat) (i3 i4 i5 : Int), v_6 = vT [vA [vL a3 n3 dbk3, vL a4 n4 k4], vI i3, vI i4, vI i5] ∧
 Tri Tryz.prog 29 [vA [vL a3 n3 dbk3, vL a4 n4 k4]] h_6 fun v_7 h_7 =>
 ∃ (a5 : OA) (n5 k5 : Nat), v_7 = vL a5 n5 k5 ∧
 (tv [vL a1 n1 dbk1, vL a2 n2 dbk2]) ∧
 Tri Tryz.prog 30 [vA [vL a1 n1 dbk1, vL a2 n2 dbk2]] h_7 fun v_8 h_8 =>
 ∃ (a6 : OA) (n6 k6 : Nat), v_8 = vL a6 n6 k6 ∧
 br (i5 != 0)
 (Q (vB false) h_8)
 (br (((n5 : Nat) : Int) != ((n6 : Nat) : Int))
 (Q (vB false) h_8)
 (∃ (I_1 : Nat → Int → PHeap → Prop), (∃ (m2 : Nat), I_1 m2 (0 : Int) h_8) ∧
 ∀ (m1 : Nat) (i6 : Int) (h_9 : PHeap), I_1 m1 i6 h_9 →
 br (decide (i6 < ((n5 : Nat) : Int)))
 (∃ (b1 o1 : Nat), a5 = some ⟨b1, o1, none⟩ ∧ (0 ≤ i6 ∧ i6 < n5) ∧
 ∃ (l3 : Bs), h_9.cell b1 (o1 + (i6).toNat * 1) = some (vS l3) ∧
 ∃ (b2 o2 : Nat), a6 = some ⟨b2, o2, none⟩ ∧ (0 ≤ i6 ∧ i6 < n6) ∧
 ∃ (l4 : Bs), h_9.cell b2 (o2 + (i6).toNat * 1) = some (vS l4) ∧
 br (!(l3 == l4))
 (Q (vB false) h_9)
 (∃ (m3 : Nat), m3 < m1 ∧ I_1 m3 (IntKind.i64.wrap (i6 + 1)) h_9 ∧
 tv [vL a3 n3 dbk3, vL a4 n4 k4] ∧ tv [vL a1 n1 dbk1, vL a2 n2 dbk2] ∧ True))
 (Q (vB true) h_9)))))
theorem T9 {l1 : Bs} {h : PHeap} {Q : Value → PHeap → Prop} (hR : R9 l1 h Q) : Tri Tryz.prog 9 [vS l1] h Q :=
 tri_of_dn mixed Tryz.func9 rfl (by kernel_rfl) low9 (rs := [.tmp 2]) (by kernel_rfl) rfl (Eq.mpr (by kernel_rfl : dnF Tryz.prog Tryz.f9.ntmps d9 [.tmp 2] [vS l1] h Q = R9 l1 h Q) hR)
abbrev o29_1 : Op := .makeMap 133 none
noncomputable def d29 : DCode := up ⟨[(6, .l [.slice, .slice]), (7, .c (.one false [.bool])), (9, .c (.one false [.map])), (13, .l [.slice]), (18, .l dbk1), (21, .l [.slice]), (22, .c (.tup [])), (27, .l [.slice])], [], [(16, 10, [(15, qi)], [])]⟩ (low Tryz.prog (fun d => Nat.beq d 11) (Tryz.f29.body.getD .skip))
theorem low29 : low Tryz.prog (fun d => Nat.beq d 11) (Tryz.f29.body.getD .skip) = some (eC d29) := by kernel_rfl
def R29 (a1 : OA) (n1 : Nat) (dbk1 : Nat) (a2 : OA) (n2 : Nat) (dbk2 : Nat) (h : PHeap) (Q : Value → PHeap → Prop) : Prop :=
 Tri Tryz.prog 56 [vA [vL a1 n1 dbk1, vL a2 n2 dbk2]] h fun v_1 h_1 =>
 ∃ (c1 : Bool), v_1 = vB c1 ∧
 br (!c1)
 (Q (vL none 0 0) h_1)
 (Raw Tryz.prog (execOp (rho []) (mkO o29_1 133)) h_1 fun v_2 h_2 =>
 ∃ (m1 : Nat), v_2 = vM m1 ∧
 ∀ (b1 : Nat), h_2 b1 = none → ∀ (h_3 : PHeap), h_3 = h_2.put b1 (.cells ⟨[vL none 0 0, vM m1]⟩ 135) →
 ∃ (I_1 : Nat → Int → PHeap → Prop), (∃ (m3 : Nat), I_1 m3 (0 : Int) h_3) ∧
 ∀ (m2 : Nat) (i1 : Int) (h_4 : PHeap), I_1 m2 i1 h_4 →
 br (decide (i1 < ((n2 : Nat) : Int)))
 (∃ (b2 o1 : Nat), a2 = some ⟨b2, o1, none⟩ ∧ (0 ≤ i1 ∧ i1 < n2) ∧
 ∃ (l1 : Bs) (a3 : OA) (n3 dbk3 : Nat) (a4 : OA) (n4 k4 : Nat) (i2 i3 : Int), h_4.row b2 (o1 + (i1).toNat * 5) [vS l1, vL a3 n3 dbk3, vL a4 n4 k4, vI i2, vI i3] ∧
 Tri Tryz.prog 68 [vP b1 0, vL a4 n4 k4] h_4 fun v_3 h_5 =>
 v_3 = vT [] ∧
 ∃ (m4 : Nat), m4 < m2 ∧ I_1 m4 (IntKind.i64.wrap (i1 + 1)) h_5 ∧
 tv [vL a1 n1 dbk1, vL a2 n2 dbk2] ∧ True)
 (∃ (a5 : OA) (n5 k5 : Nat), h_4.cell b1 0 = some (vL a5 n5 k5) ∧
 Q (vL a5 n5 k5) h_4))
theorem T29 {a1 : OA} {n1 : Nat} {dbk1 : Nat} {a2 : OA} {n2 : Nat} {dbk2 : Nat} {h : PHeap} {Q : Value → PHeap → Prop} (hR : R29 a1 n1 dbk1 a2 n2 dbk2 h Q) : Tri Tryz.prog 29 [vA [vL a1 n1 dbk1, vL a2 n2 dbk2]] h Q :=
 tri_of_dn mixed Tryz.func29 rfl (by kernel_rfl) low29 (rs := [.tmp 2]) (by kernel_rfl) rfl (Eq.mpr (by kernel_rfl : dnF Tryz.prog Tryz.f29.ntmps d29 [.tmp 2] [vA [vL a1 n1 dbk1, vL a2 n2 dbk2]] h Q = R29 a1 n1 dbk1 a2 n2 dbk2 h Q) hR)
noncomputable def d30 : DCode := up ⟨[(7, .l [.slice]), (14, .l [.slice]), (18, .l [.slice]), (19, .c (.one false [.slice]))], [], [(5, 17, [(3, .slice), (4, qi)], [])]⟩ (low Tryz.prog (fun _ => false) (Tryz.f30.body.getD .skip))
theorem low30 : low Tryz.prog (fun _ => false) (Tryz.f30.body.getD .skip) = some (eC d30) := by kernel_rfl
def R30 (a1 : OA) (n1 : Nat) (dbk1 : Nat) (a2 : OA) (n2 : Nat) (dbk2 : Nat) (h : PHeap) (Q : Value → PHeap → Prop) : Prop :=
 ∃ (I_1 : Nat → OA → Nat → Nat → Int → PHeap → Prop), (∃ (m2 : Nat), I_1 m2 none 0 0 (0 : Int) h) ∧
 ∀ (m1 : Nat) (a3 : OA) (n3 : Nat) (dbk3 : Nat) (i1 : Int) (h_1 : PHeap), I_1 m1 a3 n3 dbk3 i1 h_1 →
 br (decide (i1 < ((n2 : Nat) : Int)))
 (∃ (b1 o1 : Nat), a2 = some ⟨b1, o1, none⟩ ∧ (0 ≤ i1 ∧ i1 < n2) ∧
 ∃ (a4 : OA) (n4 k4 : Nat), h_1.cell b1 ((o1 + (i1).toNat * 4) + 2) = some (vL a4 n4 k4) ∧
 Tri Tryz.prog 69 [vL a3 n3 dbk3, vL a4 n4 k4] h_1 fun v_1 h_2 =>
 ∃ (a5 : OA) (n5 k5 : Nat), v_1 = vL a5 n5 k5 ∧
 ∃ (m3 : Nat), m3 < m1 ∧ I_1 m3 a5 n5 k5 (IntKind.i64.wrap (i1 + 1)) h_2 ∧
 tv [vL a1 n1 dbk1, vL a2 n2 dbk2] ∧ True)
 (Q (vL a3 n3 dbk3) h_1)
theorem T30 {a1 : OA} {n1 : Nat} {dbk1 : Nat} {a2 : OA} {n2 : Nat} {dbk2 : Nat} {h : PHeap} {Q : Value → PHeap → Prop} (hR : R30 a1 n1 dbk1 a2 n2 dbk2 h Q) : Tri Tryz.prog 30 [vA [vL a1 n1 dbk1, vL a2 n2 dbk2]] h Q :=
 tri_of_dn mixed Tryz.func30 rfl (by kernel_rfl) low30 (rs := [.tmp 2]) (by kernel_rfl) rfl (Eq.mpr (by kernel_rfl : dnF Tryz.prog Tryz.f30.ntmps d30 [.tmp 2] [vA [vL a1 n1 dbk1, vL a2 n2 dbk2]] h Q = R30 a1 n1 dbk1 a2 n2 dbk2 h Q) hR)
noncomputable def d68 : DCode := up ⟨[(13, .l dbk2), (15, .l [.slice]), (20, .l dbk3), (22, .l dbk3), (23, .c (.tup [])), (27, .l [.slice]), (28, .c (.tup [])), (31, .l [.slice]), (32, .c (.tup []))], [], [(11, 26, [(10, qi)], []), (18, 9, [(17, qi)], [])]⟩ (low Tryz.prog (fun _ => false) (Tryz.f68.body.getD .skip))
theorem low68 : low Tryz.prog (fun _ => false) (Tryz.f68.body.getD .skip) = some (eC d68) := by kernel_rfl
def R68 (p1 : Nat) (o1 : Nat) (a1 : OA) (n1 : Nat) (dbk1 : Nat) (h : PHeap) (Q : Value → PHeap → Prop) : Prop :=
 ∃ (I_1 : Nat → Int → PHeap → Prop), (∃ (m2 : Nat), I_1 m2 (0 : Int) h) ∧
 ∀ (m1 : Nat) (i1 : Int) (h_1 : PHeap), I_1 m1 i1 h_1 →
 br (decide (i1 < ((n1 : Nat) : Int)))
 (∃ (b1 o2 : Nat), a1 = some ⟨b1, o2, none⟩ ∧ (0 ≤ i1 ∧ i1 < n1) ∧
 ∃ (i2 : Int) (l1 : Bs) (a2 : OA) (n2 dbk2 : Nat) (a3 : OA) (n3 dbk3 : Nat) (a4 : OA) (n4 k4 : Nat) (i3 i4 : Int), h_1.row b1 (o2 + (i1).toNat * 7) [vI i2, vS l1, vL a2 n2 dbk2, vL a3 n3 dbk3, vL a4 n4 k4, vI i3, vI i4] ∧
 ∃ (I_2 : Nat → Int → PHeap → Prop), (∃ (m4 : Nat), I_2 m4 (0 : Int) h_1) ∧
 ∀ (m3 : Nat) (i5 : Int) (h_2 : PHeap), I_2 m3 i5 h_2 →
 br (decide (i5 < ((n2 : Nat) : Int)))
 (∃ (b2 o3 : Nat), a2 = some ⟨b2, o3, none⟩ ∧ (0 ≤ i5 ∧ i5 < n2) ∧
 ∃ (i6 : Int) (l2 l3 : Bs) (i7 : Int) (l4 : Bs) (a5 : OA) (n5 k5 : Nat) (i8 i9 : Int), h_2.row b2 (o3 + (i5).toNat * 8) [vI i6, vS l2, vS l3, vI i7, vS l4, vL a5 n5 k5, vI i8, vI i9] ∧
 Tri Tryz.prog 111 [vP p1 o1, vA [vI i6, vS l2, vS l3, vI i7, vS l4, vL a5 n5 k5, vI i8, vI i9]] h_2 fun v_1 h_3 =>
 v_1 = vT [] ∧
 ∃ (m5 : Nat), m5 < m3 ∧ I_2 m5 (IntKind.i64.wrap (i5 + 1)) h_3 ∧
 tv [vI i2, vS l1, vL a2 n2 dbk2, vL a3 n3 dbk3, vL a4 n4 k4, vI i3, vI i4] ∧ True)
 (Tri Tryz.prog 68 [vP p1 o1, vL a3 n3 dbk3] h_2 fun v_2 h_4 =>
 v_2 = vT [] ∧
 Tri Tryz.prog 68 [vP p1 o1, vL a4 n4 k4] h_4 fun v_3 h_5 =>
 v_3 = vT [] ∧
 ∃ (m6 : Nat), m6 < m1 ∧ I_1 m6 (IntKind.i64.wrap (i1 + 1)) h_5 ∧
 True))
 (Q (vT []) h_1)
theorem T68 {p1 : Nat} {o1 : Nat} {a1 : OA} {n1 : Nat} {dbk1 : Nat} {h : PHeap} {Q : Value → PHeap → Prop} (hR : R68 p1 o1 a1 n1 dbk1 h Q) : Tri Tryz.prog 68 [vP p1 o1, vL a1 n1 dbk1] h Q :=
 tri_of_dn mixed Tryz.func68 rfl (by kernel_rfl) low68 (rs := []) (by kernel_rfl) rfl (Eq.mpr (by kernel_rfl : dnF Tryz.prog Tryz.f68.ntmps d68 [] [vP p1 o1, vL a1 n1 dbk1] h Q = R68 p1 o1 a1 n1 dbk1 h Q) hR)
noncomputable def d69 : DCode := up ⟨[(17, .l [.slice]), (18, .c (.one false [.slice])), (24, .l [.slice]), (25, .c (.one false [.slice])), (31, .l [.slice]), (32, .c (.one false [.slice]))], [], [(6, 29, [(0, .slice), (5, qi)], [])]⟩ (low Tryz.prog (fun _ => false) (Tryz.f69.body.getD .skip))
theorem low69 : low Tryz.prog (fun _ => false) (Tryz.f69.body.getD .skip) = some (eC d69) := by kernel_rfl
def R69 (a1 : OA) (n1 : Nat) (dbk1 : Nat) (a2 : OA) (n2 : Nat) (dbk2 : Nat) (h : PHeap) (Q : Value → PHeap → Prop) : Prop :=
 ∃ (I_1 : Nat → OA → Nat → Nat → Int → PHeap → Prop), (∃ (m2 : Nat), I_1 m2 a1 n1 dbk1 (0 : Int) h) ∧
 ∀ (m1 : Nat) (a3 : OA) (n3 : Nat) (dbk3 : Nat) (i1 : Int) (h_1 : PHeap), I_1 m1 a3 n3 dbk3 i1 h_1 →
 br (decide (i1 < ((n2 : Nat) : Int)))
 (∃ (b1 o1 : Nat), a2 = some ⟨b1, o1, none⟩ ∧ (0 ≤ i1 ∧ i1 < n2) ∧
 ∃ (a4 : OA) (n4 k4 : Nat), h_1.cell b1 ((o1 + (i1).toNat * 6) + 2) = some (vL a4 n4 k4) ∧
 Tri Tryz.prog 112 [vL a3 n3 dbk3, vL a4 n4 k4] h_1 fun v_1 h_2 =>
 ∃ (a5 : OA) (n5 k5 : Nat), v_1 = vL a5 n5 k5 ∧
 ∃ (b2 o2 : Nat), a2 = some ⟨b2, o2, none⟩ ∧ (0 ≤ i1 ∧ i1 < n2) ∧
 ∃ (a6 : OA) (n6 k6 : Nat), h_2.cell b2 ((o2 + (i1).toNat * 6) + 3) = some (vL a6 n6 k6) ∧
 Tri Tryz.prog 69 [vL a5 n5 k5, vL a6 n6 k6] h_2 fun v_2 h_3 =>
 ∃ (a7 : OA) (n7 k7 : Nat), v_2 = vL a7 n7 k7 ∧
 ∃ (b3 o3 : Nat), a2 = some ⟨b3, o3, none⟩ ∧ (0 ≤ i1 ∧ i1 < n2) ∧
 ∃ (a8 : OA) (n8 k8 : Nat), h_3.cell b3 ((o3 + (i1).toNat * 6) + 4) = some (vL a8 n8 k8) ∧
 Tri Tryz.prog 69 [vL a7 n7 k7, vL a8 n8 k8] h_3 fun v_3 h_4 =>
 ∃ (a9 : OA) (n9 k9 : Nat), v_3 = vL a9 n9 k9 ∧
 ∃ (m3 : Nat), m3 < m1 ∧ I_1 m3 a9 n9 k9 (IntKind.i64.wrap (i1 + 1)) h_4 ∧
 True)
 (Q (vL a3 n3 dbk3) h_1)
theorem T69 {a1 : OA} {n1 : Nat} {dbk1 : Nat} {a2 : OA} {n2 : Nat} {dbk2 : Nat} {h : PHeap} {Q : Value → PHeap → Prop} (hR : R69 a1 n1 dbk1 a2 n2 dbk2 h Q) : Tri Tryz.prog 69 [vL a1 n1 dbk1, vL a2 n2 dbk2] h Q :=
 tri_of_dn mixed Tryz.func69 rfl (by kernel_rfl) low69 (rs := [.tmp 4]) (by kernel_rfl) rfl (Eq.mpr (by kernel_rfl : dnF Tryz.prog Tryz.f69.ntmps d69 [.tmp 4] [vL a1 n1 dbk1, vL a2 n2 dbk2] h Q = R69 a1 n1 dbk1 a2 n2 dbk2 h Q) hR)
abbrev o111_1 : Op := .lookup 133 (.tmp 13) (.tmp 15) false
abbrev o111_3 : Op := .mapUpdate 133 (.tmp 22) (.tmp 24) (.const (vB true))
abbrev o111_4 : Op := .call { callee := (.builtin .append), args := #[(.tmp 29), (.tmp 32)], argTypes := #[51, 51] }
noncomputable def d111 : DCode := up ⟨[(7, .l [qi]), (13, .l [.map]), (15, .l [.str]), (16, .c (.one false [.bool])), (22, .l [.map]), (24, .l [.str]), (29, .l [.slice]), (31, .l [.str]), (33, .c (.one false [.slice])), (37, .l [.slice]), (42, .l dbk3), (44, .l dbk3), (45, .c (.tup []))], [35], [(40, 9, [(39, qi)], [])]⟩ (low Tryz.prog (fun _ => false) (Tryz.f111.body.getD .skip))
theorem low111 : low Tryz.prog (fun _ => false) (Tryz.f111.body.getD .skip) = some (eC d111) := by kernel_rfl
def K111_1 (h_5 : PHeap) (n1 : Nat) (a1 : OA) (p1 : Nat) (o1 : Nat) (i1 : Int) (l1 : Bs) (l2 : Bs) (i2 : Int) (l3 : Bs) (dbk1 : Nat) (i3 : Int) (i4 : Int) (Q : Value → PHeap → Prop) : Prop :=
 ∃ (I_1 : Nat → Int → PHeap → Prop), (∃ (m4 : Nat), I_1 m4 (0 : Int) h_5) ∧
 ∀ (m3 : Nat) (i5 : Int) (h_6 : PHeap), I_1 m3 i5 h_6 →
 br (decide (i5 < ((n1 : Nat) : Int)))
 (∃ (b2 o2 : Nat), a1 = some ⟨b2, o2, none⟩ ∧ (0 ≤ i5 ∧ i5 < n1) ∧
 ∃ (i6 : Int) (l5 l6 : Bs) (i7 : Int) (l7 : Bs) (a4 : OA) (n4 k4 : Nat) (i8 i9 : Int), h_6.row b2 (o2 + (i5).toNat * 8) [vI i6, vS l5, vS l6, vI i7, vS l7, vL a4 n4 k4, vI i8, vI i9] ∧
 Tri Tryz.prog 111 [vP p1 o1, vA [vI i6, vS l5, vS l6, vI i7, vS l7, vL a4 n4 k4, vI i8, vI i9]] h_6 fun v_4 h_7 =>
 v_4 = vT [] ∧
 ∃ (m5 : Nat), m5 < m3 ∧ I_1 m5 (IntKind.i64.wrap (i5 + 1)) h_7 ∧
 tv [vI i1, vS l1, vS l2, vI i2, vS l3, vL a1 n1 dbk1, vI i3, vI i4] ∧ True)
 (Q (vT []) h_6)
def R111 (p1 : Nat) (o1 : Nat) (i1 : Int) (l1 : Bs) (l2 : Bs) (i2 : Int) (l3 : Bs) (a1 : OA) (n1 : Nat) (dbk1 : Nat) (i3 : Int) (i4 : Int) (h : PHeap) (Q : Value → PHeap → Prop) : Prop :=
 br (i1 == 2)
 (∃ (m1 : Nat), h.cell p1 (o1 + 1) = some (vM m1) ∧
 Raw Tryz.prog (execOp (rho [(13, vM m1), (15, vS l3)]) (mkO o111_1 4)) h fun v_1 h_1 =>
 ∃ (c1 : Bool), v_1 = vB c1 ∧
 (tv [vI i1]) ∧
 br (!c1)
 (∃ (m2 : Nat), h_1.cell p1 (o1 + 1) = some (vM m2) ∧
 Raw Tryz.prog (execOp (rho [(22, vM m2), (24, vS l3)]) (mkO o111_3 0)) h_1 fun v_2 h_2 =>
 v_2 = vT [] ∧
 ∃ (a2 : OA) (n2 dbk2 : Nat), h_2.cell p1 o1 = some (vL a2 n2 dbk2) ∧
 ∀ (b1 : Nat), h_2 b1 = none → ∀ (h_3 : PHeap), h_3 = h_2.put b1 (.cells ⟨[vS l3]⟩ 9) →
 (h_3.cell p1 o1 = some (vL a2 n2 dbk2)) ∧
 Raw Tryz.prog (execOp (rho [(29, vL a2 n2 dbk2), (32, vL (ad b1 0) 1 1)]) (mkO o111_4 51)) h_3 fun v_3 h_4 =>
 ∃ (a3 : OA) (n3 dbk3 : Nat), v_3 = vL a3 n3 dbk3 ∧
 ∃ (l4 : List Value) (t1 : TypeId) (z1 : Nat × Nat), h_4 p1 = some (.cells ⟨l4⟩ t1 z1) ∧ (o1 + 1 ≤ l4.length ∧ z1.2 ≤ o1) ∧
 ∀ (h_5 : PHeap), h_5 = h_4.put p1 (.cells ⟨splice l4 o1 [vL a3 n3 dbk3]⟩ t1 z1) →
 K111_1 h_5 n1 a1 p1 o1 i1 l1 l2 i2 l3 dbk1 i3 i4 Q)
 (K111_1 h_1 n1 a1 p1 o1 i1 l1 l2 i2 l3 dbk1 i3 i4 Q))
 ((tv [vI i1]) ∧
 K111_1 h n1 a1 p1 o1 i1 l1 l2 i2 l3 dbk1 i3 i4 Q)
theorem T111 {p1 : Nat} {o1 : Nat} {i1 : Int} {l1 : Bs} {l2 : Bs} {i2 : Int} {l3 : Bs} {a1 : OA} {n1 : Nat} {dbk1 : Nat} {i3 : Int} {i4 : Int} {h : PHeap} {Q : Value → PHeap → Prop} (hR : R111 p1 o1 i1 l1 l2 i2 l3 a1 n1 dbk1 i3 i4 h Q) : Tri Tryz.prog 111 [vP p1 o1, vA [vI i1, vS l1, vS l2, vI i2, vS l3, vL a1 n1 dbk1, vI i3, vI i4]] h Q :=
 tri_of_dn mixed Tryz.func111 rfl (by kernel_rfl) low111 (rs := []) (by kernel_rfl) rfl (Eq.mpr (by kernel_rfl : dnF Tryz.prog Tryz.f111.ntmps d111 [] [vP p1 o1, vA [vI i1, vS l1, vS l2, vI i2, vS l3, vL a1 n1 dbk1, vI i3, vI i4]] h Q = R111 p1 o1 i1 l1 l2 i2 l3 a1 n1 dbk1 i3 i4 h Q) hR)
abbrev o112_3 : Op := .call { callee := (.builtin .append), args := #[(.tmp 28), (.tmp 34)], argTypes := #[51, 51] }
noncomputable def d112 : DCode := up ⟨[(16, .l [qi]), (24, .l [.str]), (25, .c (.one false [.bool])), (33, .l [.str]), (35, .c (.one false [.slice])), (41, .l [.slice]), (42, .c (.one false [.slice]))], [], [(6, 39, [(0, .slice), (5, qi)], [])]⟩ (low Tryz.prog (fun _ => false) (Tryz.f112.body.getD .skip))
theorem low112 : low Tryz.prog (fun _ => false) (Tryz.f112.body.getD .skip) = some (eC d112) := by kernel_rfl
def R112 (a1 : OA) (n1 : Nat) (dbk1 : Nat) (a2 : OA) (n2 : Nat) (dbk2 : Nat) (h : PHeap) (Q : Value → PHeap → Prop) : Prop :=
 ∃ (I_1 : Nat → OA → Nat → Nat → Int → PHeap → Prop), (∃ (m2 : Nat), I_1 m2 a1 n1 dbk1 (0 : Int) h) ∧
 ∀ (m1 : Nat) (a3 : OA) (n3 : Nat) (dbk3 : Nat) (i1 : Int) (h_1 : PHeap), I_1 m1 a3 n3 dbk3 i1 h_1 →
 br (decide (i1 < ((n2 : Nat) : Int)))
 (∃ (b1 o1 : Nat), a2 = some ⟨b1, o1, none⟩ ∧ (0 ≤ i1 ∧ i1 < n2) ∧
 ∃ (i2 : Int), h_1.cell b1 (o1 + (i1).toNat * 7) = some (vI i2) ∧
 br (i2 == 2)
 (∃ (b2 o2 : Nat), a2 = some ⟨b2, o2, none⟩ ∧ (0 ≤ i1 ∧ i1 < n2) ∧
 ∃ (l1 : Bs), h_1.cell b2 ((o2 + (i1).toNat * 7) + 4) = some (vS l1) ∧
 Tri Tryz.prog 63 [vL a3 n3 dbk3, vS l1] h_1 fun v_1 h_2 =>
 ∃ (c1 : Bool), v_1 = vB c1 ∧
 br (!c1)
 (∃ (b3 o3 : Nat), a2 = some ⟨b3, o3, none⟩ ∧ (0 ≤ i1 ∧ i1 < n2) ∧
 ∃ (l2 : Bs), h_2.cell b3 ((o3 + (i1).toNat * 7) + 4) = some (vS l2) ∧
 ∀ (b4 : Nat), h_2 b4 = none → ∀ (h_3 : PHeap), h_3 = h_2.put b4 (.cells ⟨[vS l2]⟩ 9) →
 Raw Tryz.prog (execOp (rho [(28, vL a3 n3 dbk3), (34, vL (ad b4 0) 1 1)]) (mkO o112_3 51)) h_3 fun v_2 h_4 =>
 ∃ (a4 : OA) (n4 k4 : Nat), v_2 = vL a4 n4 k4 ∧
 ∃ (b5 o4 : Nat), a2 = some ⟨b5, o4, none⟩ ∧ (0 ≤ i1 ∧ i1 < n2) ∧
 ∃ (a5 : OA) (n5 k5 : Nat), h_4.cell b5 ((o4 + (i1).toNat * 7) + 5) = some (vL a5 n5 k5) ∧
 Tri Tryz.prog 112 [vL a4 n4 k4, vL a5 n5 k5] h_4 fun v_3 h_5 =>
 ∃ (a6 : OA) (n6 k6 : Nat), v_3 = vL a6 n6 k6 ∧
 ∃ (m3 : Nat), m3 < m1 ∧ I_1 m3 a6 n6 k6 (IntKind.i64.wrap (i1 + 1)) h_5 ∧
 True)
 (∃ (b6 o5 : Nat), a2 = some ⟨b6, o5, none⟩ ∧ (0 ≤ i1 ∧ i1 < n2) ∧
 ∃ (a7 : OA) (n7 k7 : Nat), h_2.cell b6 ((o5 + (i1).toNat * 7) + 5) = some (vL a7 n7 k7) ∧
 Tri Tryz.prog 112 [vL a3 n3 dbk3, vL a7 n7 k7] h_2 fun v_4 h_6 =>
 ∃ (a8 : OA) (n8 k8 : Nat), v_4 = vL a8 n8 k8 ∧
 ∃ (m4 : Nat), m4 < m1 ∧ I_1 m4 a8 n8 k8 (IntKind.i64.wrap (i1 + 1)) h_6 ∧
 True))
 (∃ (b7 o6 : Nat), a2 = some ⟨b7, o6, none⟩ ∧ (0 ≤ i1 ∧ i1 < n2) ∧
 ∃ (a9 : OA) (n9 k9 : Nat), h_1.cell b7 ((o6 + (i1).toNat * 7) + 5) = some (vL a9 n9 k9) ∧
 Tri Tryz.prog 112 [vL a3 n3 dbk3, vL a9 n9 k9] h_1 fun v_5 h_7 =>
 ∃ (a10 : OA) (n10 k10 : Nat), v_5 = vL a10 n10 k10 ∧
 ∃ (m5 : Nat), m5 < m1 ∧ I_1 m5 a10 n10 k10 (IntKind.i64.wrap (i1 + 1)) h_7 ∧
 True))
 (Q (vL a3 n3 dbk3) h_1)
theorem T112 {a1 : OA} {n1 : Nat} {dbk1 : Nat} {a2 : OA} {n2 : Nat} {dbk2 : Nat} {h : PHeap} {Q : Value → PHeap → Prop} (hR : R112 a1 n1 dbk1 a2 n2 dbk2 h Q) : Tri Tryz.prog 112 [vL a1 n1 dbk1, vL a2 n2 dbk2] h Q :=
 tri_of_dn mixed Tryz.func112 rfl (by kernel_rfl) low112 (rs := [.tmp 4]) (by kernel_rfl) rfl (Eq.mpr (by kernel_rfl : dnF Tryz.prog Tryz.f112.ntmps d112 [.tmp 4] [vL a1 n1 dbk1, vL a2 n2 dbk2] h Q = R112 a1 n1 dbk1 a2 n2 dbk2 h Q) hR)
end Go.Proofs.D
namespace Go.Proofs.D
open Go Go.Den Go.Sx
set_option maxRecDepth 100000
attribute [local irreducible] IntKind.wrap Tri parseS
theorem und133 : Tryz.prog.underlying 133 = some (.map 9 4) := rfl
structure SS (g : PHeap) (cb m : Nat) (out : List Bytes) (h : PHeap) : Prop where
 ext : Ext g h
 f0 : g cb = none
 f1 : g m = none
 n1 : m ≠ cb
 mh : ∃ L ck, h m = some (.map ⟨ents L⟩ ck) ∧ ∀ n, mapGet L n = if out.contains n then some (vB true) else none
 bl : ∃ a k, h cb = some (.cells ⟨[vL a out.length k, vM m]⟩ 135) ∧ Own h 9 1 (vL a out.length k) out.length (out.map fun l => vS l) ∧ ∀ b, a = ad b 0 → b ≠ cb ∧ b ≠ m ∧ g b = none
section
variable {s : Bytes} {g : PHeap} {cb m : Nat} {out : List Bytes} {h : PHeap}
theorem SS.look (hk : SS g cb m out h) {ρ : Operand → Value} {x y : Operand} {l : Bytes} (hx : ρ x = vM m) (hy : ρ y = vS l) (ty : TypeId) : Raw Tryz.prog (execOp ρ (mkO (.lookup 133 x y false) ty)) h fun v h' => v = vB (out.contains l) ∧ h' = h := by
 obtain ⟨L, ck, h1, h2⟩ := hk.mh
 refine Raw.mono (raw_lookupS (z := vB false) und133 rfl rfl hx hy h1) ?_
 rintro _ h' ⟨rfl, rfl⟩
 refine ⟨?_, rfl⟩
 rw [h2 l]
 cases out.contains l <;> rfl
theorem SS.add (hk : SS g cb m out h) {l : Bytes} (hc : out.contains l = false) (hl : out.length ≤ 1000000) {ρ : Operand → Value} {x y z : Operand} (hx : ρ x = vM m) (hy : ρ y = vS l) (hz : ρ z = vB true) {Q : PHeap → Prop} (hQ : ∀ h', SS g cb m (out ++ [l]) h' → Q h') :
 Raw Tryz.prog (execOp ρ (mkO (.mapUpdate 133 x y z) 0)) h fun v_2 h_2 => v_2 = vT [] ∧ ∃ (a2 : OA) (n2 k2 : Nat), h_2.cell cb 0 = some (vL a2 n2 k2) ∧
  ∀ (b1 : Nat), h_2 b1 = none → ∀ (h_3 : PHeap), h_3 = h_2.put b1 (.cells ⟨[vS l]⟩ 9) → (h_3.cell cb 0 = some (vL a2 n2 k2)) ∧
    Raw Tryz.prog (execOp (rho [(29, vL a2 n2 k2), (32, vL (ad b1 0) 1 1)]) (mkO o111_4 51)) h_3 fun v_3 h_4 => ∃ (a3 : OA) (n3 k3 : Nat), v_3 = vL a3 n3 k3 ∧
     ∃ (l4 : List Value) (t1 : TypeId) (z1 : Nat × Nat), h_4 cb = some (.cells ⟨l4⟩ t1 z1) ∧ (0 + 1 ≤ l4.length ∧ z1.2 ≤ 0) ∧ ∀ (h_5 : PHeap), h_5 = h_4.put cb (.cells ⟨splice l4 0 [vL a3 n3 k3]⟩ t1 z1) → Q h_5 := by
 obtain ⟨L, ck, hm, hg⟩ := hk.mh
 obtain ⟨a, k, hb, ho, hf⟩ := hk.bl
 refine Raw.mono (raw_updS (.inl rfl) und133 rfl hx hy hz hm) ?_
 rintro _ h2 ⟨rfl, ck', rfl, _⟩
 generalize hh2 : h.put m (.map ⟨ents (mapSet l (vB true) ck L)⟩ ck') = h2
 have hx2 : Chg m h h2 := hh2 ▸ Chg.put m h _
 have hm2 : h2 m = some (.map ⟨ents (mapSet l (vB true) ck L)⟩ ck') := hh2 ▸ put_same _ _ _
 have hb2 : h2 cb = some (.cells ⟨[vL a out.length k, vM m]⟩ 135) := by rw [hx2 _ hk.n1.symm]; exact hb
 refine ⟨rfl, _, _, _, cell_of hb2 0, fun b1 hb1 h3 hh3 => ?_⟩
 have hx3 := Put.ext hh3 hb1
 refine ⟨cell_of (hx3 _ _ hb2) 0, ?_⟩
 have ho3 : Own h3 9 1 (vL a out.length k) out.length (out.map fun l => vS l) := Own.keep (fun b hab => by
  have h0 := hf b hab
  rw [Put.chg hh3 b (fun e => by
   subst e
   rcases ho.2 with ⟨q, _⟩ | ⟨b', cap, rest, q, q', _⟩
   · injection q with q; rw [hab] at q; cases q
   · injection q with q; rw [hab] at q; injection q with q; injection q with q; subst q; rw [hx2 _ h0.2.1, q'] at hb1; cases hb1), hx2 b h0.2.1]) ho
 refine Raw.mono (append_one und51 elem9 rfl rfl rfl rfl rfl ho3 (Put.at hh3) rfl rfl (by omega)) ?_
 rintro _ h4 ⟨b4, cap, rfl, ho4, hor, hx4⟩
 have hq4 : b4 ≠ cb ∧ b4 ≠ m ∧ g b4 = none := by
  rcases hor with hor | hor
  · refine ⟨fun e => ?_, fun e => ?_, ?_⟩
    · subst e; rw [hx3 _ _ hb2] at hor; cases hor
    · subst e; rw [hx3 _ _ hm2] at hor; cases hor
    · cases hg4 : g b4 with
      | none => rfl
      | some o =>
        have : h2 b4 = some o := by rw [hx2 _ (fun e => by subst e; rw [hk.f1] at hg4; cases hg4)]; exact hk.ext _ _ hg4
        rw [hx3 _ _ this] at hor; cases hor
  · exact hf _ hor
 have hb4 := (hx4 _ hq4.1.symm).trans (hx3 _ _ hb2)
 refine ⟨_, _, _, rfl, _, _, _, hb4, ⟨by simp, Nat.zero_le _⟩, fun h5 hh5 => hQ h5 ?_⟩
 have hx5 := Put.chg hh5
 refine ⟨fun q o hq => ?_, hk.f0, hk.f1, hk.n1, ⟨mapSet l (vB true) ck L, ck', ?_, fun n => ?_⟩, ad b4 0, cap, ?_, Own.keep (fun b hab => hx5 b ?_) (by rw [List.length_append, List.map_append]; exact ho4), fun b hab => ?_⟩
 · have n1 : q ≠ cb := fun e => by subst e; rw [hk.f0] at hq; cases hq
   have n2 : q ≠ m := fun e => by subst e; rw [hk.f1] at hq; cases hq
   have n3 : q ≠ b4 := fun e => by subst e; rw [hq4.2.2] at hq; cases hq
   rw [hx5 _ n1, hx4 _ n3]
   exact hx3 _ _ (by rw [hx2 _ n2]; exact hk.ext _ _ hq)
 · rw [hx5 _ hk.n1, hx4 _ hq4.2.1.symm]; exact hx3 _ _ hm2
 · rw [mapGet_set, hg n]
   have : (out ++ [l]).contains n = (out.contains n || n == l) := by rw [Bool.eq_iff_iff]; simp
   rw [this]
   cases n == l <;> cases out.contains n <;> rfl
 · have := Put.at hh5
   rw [this, List.length_append]; rfl
 · injection hab with hab; injection hab with hab; subst hab; exact hq4.1
 · injection hab with hab; injection hab with hab; subst hab; exact hq4
def YE (s : Bytes) (g : PHeap) (cb m : Nat) (e : E) : Prop := ∀ cs out h, RE (plP s) 8 g e cs → SS g cb m out h → out.length + cntE e ≤ 1000000 → Tri Tryz.prog 111 [vP cb 0, vA cs] h fun v h' => v = vT [] ∧ SS g cb m (stE e out) h'
theorem str_t : ∀ k e, cntE e ≤ k → YE s g cb m e := by
 intro k
 induction k with
 | zero => intro e he; have := cntE_pos e; omega
 | succ k ih =>
   intro e he cs out h hrel hk hl
   match e, he, hrel, hl with
   | .mk kd op nm vl tx args pos, he, hrel, hl =>
   obtain ⟨a1, c1, rfl, hA1⟩ := RE_iff.1 hrel
   simp only [cntE] at he hl
   have hlen := cntEs_len args
   have hih : ∀ e ∈ args, YE s g cb m e := fun e hm => ih e (by have := cntEs_mem hm; omega)
   have loop : ∀ o0 h1, SS g cb m o0 h1 → o0.length ≤ out.length + 1 → o0 = (if kd = 2 ∧ out.contains tx = false then out ++ [tx] else out) →
    K111_1 h1 args.length a1 cb 0 kd op nm vl tx c1 (place s pos).1 (place s pos).2 fun v h' => v = vT [] ∧ SS g cb m (stE (.mk kd op nm vl tx args pos) out) h' := by
    intro o0 h1 hk1 hl0 ho0
    unfold K111_1
    refine ⟨fun m' i h' => ∃ (j : Nat) (o : List Bytes), i = j ∧ j + m' = args.length ∧ SS g cb m o h' ∧ o.length + cntEs (args.drop j) ≤ 1000000 ∧ stEs (args.drop j) o = stEs args o0, ⟨args.length, 0, o0, rfl, by omega, hk1, by rw [List.drop_zero]; omega, rfl⟩, ?_⟩
    rintro m' _ h2 ⟨j, o, rfl, hjm, hk2, hl2, hee⟩
    refine br_split (fun e2 => ?_) (fun e2 => ?_)
    · have hj : j < args.length := by have := of_decide_eq_true e2; omega
      obtain ⟨b, o', cs, ha, hr, hrel⟩ := hA1.get hj
      rw [cntEs_drop hj] at hl2
      have ihj := hih _ (List.getElem_mem hj) _ _ _ hrel hk2 (by omega)
      have hln := stE_len args[j] o
      rw [stEs_drop hj] at hee
      have hr := row_ext (fun ob => hk2.ext b ob) hr
      generalize args[j] = y at *
      match y, hrel with
      | .mk kd' op' nm' vl' tx' args' pos', hrel =>
      obtain ⟨a3, c3, rfl, hA3⟩ := RE_iff.1 hrel
      refine ⟨b, o', ha, ⟨by omega, by omega⟩, _, _, _, _, _, _, _, _, _, _, hr, ?_⟩
      refine Tri.mono ihj ?_
      rintro _ h3 ⟨rfl, hk3⟩
      refine ⟨rfl, m' - 1, by omega, ⟨j + 1, _, ?_, by omega, hk3, by omega, hee⟩, rfl, trivial⟩
      rw [wrap64 (by omega) (by omega)]; rfl
    · have hj : args.length ≤ j := by have := of_decide_eq_false e2; omega
      rw [List.drop_eq_nil_of_le hj] at hee
      have hee : o = stEs args o0 := hee
      refine ⟨rfl, ?_⟩
      rw [stE, ← ho0, ← hee]; exact hk2
   refine T111 ?_
   unfold R111
   refine br_split (fun e => ?_) (fun e => ?_)
   · have e : kd = 2 := by have := beq_iff_eq.1 e; omega
     obtain ⟨a, k, hb, ho, hf⟩ := hk.bl
     refine ⟨_, cell_of hb (0 + 1), ?_⟩
     refine Raw.mono (hk.look rfl rfl 4) ?_
     rintro _ h1 ⟨rfl, rfl⟩
     refine ⟨_, rfl, rfl, br_split (fun e2 => ?_) (fun e2 => ?_)⟩
     · have e2 : out.contains tx = false := by simpa using e2
       refine ⟨_, cell_of hb (0 + 1), ?_⟩
       exact hk.add e2 (by omega) rfl rfl rfl fun h' hk' => loop _ h' hk' (by simp) (by rw [if_pos ⟨e, e2⟩])
     · have e2 : out.contains tx = true := by simpa using e2
       exact loop _ h1 hk (by omega) (by rw [if_neg (by rw [e2]; simp)])
   · have e : kd ≠ 2 := fun h => by subst h; cases e
     exact ⟨rfl, loop _ h hk (by omega) (by rw [if_neg (fun h => e h.1)])⟩
end
end Go.Proofs.D
namespace Go.Proofs.D
open Go Go.Den Go.Sx
set_option maxRecDepth 100000
attribute [local irreducible] IntKind.wrap Tri parseS
section
variable {s : Bytes} {g : PHeap} {cb m : Nat}
def YS (s : Bytes) (g : PHeap) (cb m : Nat) (es : List S) : Prop := ∀ (a : OA) (c : Nat) out h, At 7 (RS (plP s) 8 7) g a es → SS g cb m out h → out.length + cntSs es ≤ 1000000 → Tri Tryz.prog 68 [vP cb 0, vL a es.length c] h fun v h' => v = vT [] ∧ SS g cb m (stSs es out) h'
theorem strs_t : ∀ k es, cntSs es ≤ k → YS s g cb m es := by
 intro k
 induction k with
 | zero =>
   intro es he a c out h hA hk hl
   obtain rfl : es = [] := List.eq_nil_of_length_eq_zero (by have := cntSs_len es; omega)
   refine T68 ?_
   unfold R68
   refine ⟨fun m' i h' => i = 0 ∧ h' = h, ⟨0, rfl, rfl⟩, ?_⟩
   rintro m' _ h1 ⟨rfl, rfl⟩
   exact br_neg rfl ⟨rfl, hk⟩
 | succ k ih =>
   intro es he a c out h hA hk hl
   have hlen := cntSs_len es
   refine T68 ?_
   unfold R68
   refine ⟨fun m' i h' => ∃ (j : Nat) (o : List Bytes), i = j ∧ j + m' = es.length ∧ SS g cb m o h' ∧ o.length + cntSs (es.drop j) ≤ 1000000 ∧ stSs (es.drop j) o = stSs es out, ⟨es.length, 0, out, rfl, by omega, hk, by rw [List.drop_zero]; omega, rfl⟩, ?_⟩
   rintro m' _ h1 ⟨j, o, rfl, hjm, hk1, hl1, hee⟩
   refine br_split (fun e2 => ?_) (fun e2 => ?_)
   · have hj : j < es.length := by have := of_decide_eq_true e2; omega
     obtain ⟨b, o', cs, ha, hr, hrel⟩ := hA.get hj
     have hcj := cntSs_mem (List.getElem_mem hj)
     rw [cntSs_drop hj] at hl1
     rw [stSs_drop hj] at hee
     have hr := row_ext (fun ob => hk1.ext b ob) hr
     generalize es[j] = y at *
     match y, hrel, hcj, hl1, hee with
     | .mk kd nm args body els pos, hrel, hcj, hl1, hee =>
     obtain ⟨a1, c1, a2, c2, a3, c3, rfl, hA1, hA2, hA3⟩ := RS_iff.1 hrel
     simp only [cntS] at hcj hl1
     have hlen1 := cntEs_len args
     refine ⟨b, o', ha, ⟨by omega, by omega⟩, _, _, _, _, _, _, _, _, _, _, _, _, _, hr, ?_⟩
     refine ⟨fun m2 i h' => ∃ (q : Nat) (w : List Bytes), i = q ∧ q + m2 = args.length ∧ SS g cb m w h' ∧ w.length + cntEs (args.drop q) ≤ o.length + cntEs args ∧ stEs (args.drop q) w = stEs args o, ⟨args.length, 0, o, rfl, by omega, hk1, by rw [List.drop_zero]; omega, rfl⟩, ?_⟩
     rintro m2 _ h2 ⟨q, w, rfl, hqm, hk2, hl2, heq⟩
     refine br_split (fun e3 => ?_) (fun e3 => ?_)
     · have hq : q < args.length := by have := of_decide_eq_true e3; omega
       obtain ⟨b, o', cs, ha, hr, hrel⟩ := hA1.get hq
       rw [cntEs_drop hq] at hl2
       have ihq := str_t _ args[q] (Nat.le_refl _) _ _ _ hrel hk2 (by omega)
       have hln := stE_len args[q] w
       rw [stEs_drop hq] at heq
       have hr := row_ext (fun ob => hk2.ext b ob) hr
       generalize args[q] = y at *
       match y, hrel with
       | .mk kd' op' nm' vl' tx' args' pos', hrel =>
       obtain ⟨a3, c3, rfl, hA3⟩ := RE_iff.1 hrel
       refine ⟨b, o', ha, ⟨by omega, by omega⟩, _, _, _, _, _, _, _, _, _, _, hr, ?_⟩
       refine Tri.mono ihq ?_
       rintro _ h3 ⟨rfl, hk3⟩
       refine ⟨rfl, m2 - 1, by omega, ⟨q + 1, _, ?_, by omega, hk3, by omega, heq⟩, rfl, trivial⟩
       rw [wrap64 (by omega) (by omega)]; rfl
     · have hq : args.length ≤ q := by have := of_decide_eq_false e3; omega
       rw [List.drop_eq_nil_of_le hq] at heq
       have heq : w = stEs args o := heq
       subst heq
       have h1 := stEs_len args o
       have h2' := stSs_len body (stEs args o)
       have h3' := stSs_len els (stSs body (stEs args o))
       refine Tri.mono (ih body (by omega) a2 c2 _ h2 hA2 hk2 (by omega)) ?_
       rintro _ h3 ⟨rfl, hk3⟩
       refine ⟨rfl, ?_⟩
       refine Tri.mono (ih els (by omega) a3 c3 _ h3 hA3 hk3 (by omega)) ?_
       rintro _ h4 ⟨rfl, hk4⟩
       refine ⟨rfl, m' - 1, by omega, ⟨j + 1, _, ?_, by omega, hk4, by omega, hee⟩, trivial⟩
       rw [wrap64 (by omega) (by omega)]; rfl
   · have hj : es.length ≤ j := by have := of_decide_eq_false e2; omega
     rw [List.drop_eq_nil_of_le hj] at hee
     have hee : o = stSs es out := hee
     exact ⟨rfl, hee ▸ hk1⟩
theorem strings_t {p : Pg} {h : PHeap} (hw : ∀ f ∈ p.funcs, wfSs f.body) (hc : cntP p ≤ 4097) {ga fa : OA} {gc fc : Nat} (hF : At 5 (RF (plP s) 8 7) h fa p.funcs) :
 Tri Tryz.prog 29 [vA [vL ga p.globals.length gc, vL fa p.funcs.length fc]] h fun v h' => ∃ a k, v = vL a (stF p.funcs []).length k ∧ StrAt h' a (stF p.funcs []) ∧ Ext h h' := by
 refine T29 ?_
 unfold R29
 refine Tri.mono (tree_tri hw hc hF) ?_
 rintro _ h1 ⟨rfl, hx1⟩
 have hF := hF.ext (RF_mono _ _ _) hx1
 refine ⟨_, rfl, br_neg rfl ?_⟩
 refine raw_makeMap fun m1 hm1 => ⟨m1, rfl, ?_⟩
 intro cb hcb h3 hh3
 simp only [cntP] at hc
 have hnc : cb ≠ m1 := fun e => by subst e; rw [put_same] at hcb; cases hcb
 rw [put_ne hnc] at hcb
 have hk3 : SS h1 cb m1 [] h3 := by
  refine ⟨fun k o hk => ?_, hcb, hm1, hnc.symm, ⟨[], 0, ?_, fun n => rfl⟩, none, 0, Put.at hh3, ⟨by simp, .inl ⟨rfl, rfl⟩⟩, fun b hb => by cases hb⟩
  · rw [hh3, put_ne (fun e => by subst e; rw [hcb] at hk; cases hk), put_ne (fun e => by subst e; rw [hm1] at hk; cases hk)]; exact hk
  · rw [hh3, put_ne hnc.symm, put_same]; rfl
 clear hh3
 have hlen := cntFs_len p.funcs
 generalize p.funcs = fs at *
 refine ⟨fun m' i h' => ∃ (j : Nat) (o : List Bytes), i = j ∧ j + m' = fs.length ∧ SS h1 cb m1 o h' ∧ o.length + cntFs (fs.drop j) ≤ 10000 ∧ stF (fs.drop j) o = stF fs [], ⟨fs.length, 0, [], rfl, by omega, hk3, by simp; omega, rfl⟩, ?_⟩
 rintro m' _ h4 ⟨j, o, rfl, hjm, hk4, hl4, hee⟩
 refine br_split (fun e2 => ?_) (fun e2 => ?_)
 · have hj : j < fs.length := by have := of_decide_eq_true e2; omega
   obtain ⟨b, o', cs, ha, hr, hrel⟩ := hF.get hj
   rw [List.drop_eq_getElem_cons hj] at hl4 hee
   simp only [cntFs, stF] at hl4 hee
   have hr := row_ext (fun ob => hk4.ext b ob) hr
   generalize fs[j] = y at *
   obtain ⟨pa, pc, ba, bc, rfl, hP, hB, _⟩ := hrel
   simp only [cntF] at hl4
   have hln := stSs_len y.body o
   refine ⟨b, o', ha, ⟨by omega, by omega⟩, _, _, _, _, _, _, _, _, _, hr, ?_⟩
   refine Tri.mono (strs_t _ y.body (Nat.le_refl _) ba bc o h4 hB hk4 (by omega)) ?_
   rintro _ h5 ⟨rfl, hk5⟩
   refine ⟨rfl, m' - 1, by omega, ⟨j + 1, _, ?_, by omega, hk5, by omega, hee⟩, rfl, trivial⟩
   rw [wrap64 (by omega) (by omega)]; rfl
 · have hj : fs.length ≤ j := by have := of_decide_eq_false e2; omega
   rw [List.drop_eq_nil_of_le hj] at hee
   have hee : o = stF fs [] := hee
   subst hee
   obtain ⟨a, k, hb, ho, hf⟩ := hk4.bl
   refine ⟨_, _, _, cell_of hb 0, a, k, rfl, ?_, hx1.trans hk4.ext⟩
   rcases ho.2 with ⟨_, h1⟩ | ⟨b, cap, rest, h1, h2, _, _⟩
   · exact .inl (List.eq_nil_of_length_eq_zero h1)
   · injection h1 with h1 _ _
     refine .inr ⟨b, 0, h1, fun j l hj => ?_⟩
     rw [cell_of h2]
     have : j < (stF fs []).length := (List.getElem?_eq_some_iff.1 hj).1
     rw [List.getElem?_append_left (by simpa using this)]
     simp [hj]
end
end Go.Proofs.D
namespace Go.Proofs.D
open Go Go.Den Go.Sx
set_option maxRecDepth 100000
attribute [local irreducible] IntKind.wrap Tri parseS
section
variable {g : PHeap}
def ZT (g : PHeap) (out : List Bytes) (a : OA) (n k : Nat) (h : PHeap) : Prop := n = out.length ∧ LM 9 1 g h a n k (out.map fun x => [vS x]) ∧ Ext g h
def ZE (g : PHeap) (es : List E) : Prop := ∀ (ea : OA) (ec : Nat) out a n k h, At 7 (RE plR 7) g ea es → ZT g out a n k h → out.length + cntEs es ≤ 1000000 → Tri Tryz.prog 112 [vL a n k, vL ea es.length ec] h fun v h' => ∃ a' n' k', v = vL a' n' k' ∧ ZT g (stEs es out) a' n' k' h'
def ZS (g : PHeap) (es : List S) : Prop := ∀ (ea : OA) (ec : Nat) out a n k h, At 6 (RS plR 7 6) g ea es → ZT g out a n k h → out.length + cntSs es ≤ 1000000 → Tri Tryz.prog 69 [vL a n k, vL ea es.length ec] h fun v h' => ∃ a' n' k', v = vL a' n' k' ∧ ZT g (stSs es out) a' n' k' h'
theorem strs_r : ∀ k es, cntEs es ≤ k → ZE g es := by
 intro k
 induction k with
 | zero =>
   intro es he ea ec out a n k h hA hz hl
   obtain rfl : es = [] := List.eq_nil_of_length_eq_zero (by have := cntEs_len es; omega)
   refine T112 ?_
   unfold R112
   refine ⟨fun m' a' n' k' i h' => i = 0 ∧ h' = h ∧ a' = a ∧ n' = n ∧ k' = k, ⟨0, rfl, rfl, rfl, rfl, rfl⟩, ?_⟩
   rintro m' a' n' k' _ h1 ⟨rfl, rfl, rfl, rfl, rfl⟩
   exact br_neg rfl ⟨_, _, _, rfl, hz⟩
 | succ k ih =>
   intro es he ea ec out a n k1 h hA hz hl
   have hlen := cntEs_len es
   refine T112 ?_
   unfold R112
   refine ⟨fun m' a' n' k' i h' => ∃ (j : Nat) (o : List Bytes), i = j ∧ j + m' = es.length ∧ ZT g o a' n' k' h' ∧ o.length + cntEs (es.drop j) ≤ 1000000 ∧ stEs (es.drop j) o = stEs es out, ⟨es.length, 0, out, rfl, by omega, hz, by rw [List.drop_zero]; omega, rfl⟩, ?_⟩
   rintro m' a' n' k' _ h1 ⟨j, o, rfl, hjm, hz1, hl1, hee⟩
   refine br_split (fun e2 => ?_) (fun e2 => ?_)
   · have hj : j < es.length := by have := of_decide_eq_true e2; omega
     obtain ⟨b, o', cs, ha, hr, hrel⟩ := hA.get hj
     have hcj := cntEs_mem (List.getElem_mem hj)
     rw [cntEs_drop hj] at hl1
     rw [stEs_drop hj] at hee
     generalize es[j] = y at *
     match y, hrel, hcj, hl1, hee with
     | .mk kd op nm vl tx args pos, hrel, hcj, hl1, hee =>
     obtain ⟨a1, c1, rfl, hA1⟩ := RE_iff.1 hrel
     simp only [cntE] at hcj hl1
     rw [stE] at hee
     have next : ∀ o2 a2 n2 k2 h2, o2 = (if kd = 2 ∧ o.contains tx = false then o ++ [tx] else o) → ZT g o2 a2 n2 k2 h2 → ∃ (b5 o4 : Nat), ea = some ⟨b5, o4, none⟩ ∧ (0 ≤ ((j : Nat) : Int) ∧ ((j : Nat) : Int) < es.length) ∧
      ∃ (a5 : OA) (n5 k5 : Nat), h2.cell b5 ((o4 + (((j : Nat) : Int)).toNat * 7) + 5) = some (vL a5 n5 k5) ∧ Tri Tryz.prog 112 [vL a2 n2 k2, vL a5 n5 k5] h2 fun v_3 h_5 => ∃ (a6 : OA) (n6 k6 : Nat), v_3 = vL a6 n6 k6 ∧
        ∃ (m3 : Nat), m3 < m' ∧ (∃ (j' : Nat) (o : List Bytes), IntKind.i64.wrap (((j : Nat) : Int) + 1) = j' ∧ j' + m3 = es.length ∧ ZT g o a6 n6 k6 h_5 ∧ o.length + cntEs (es.drop j') ≤ 1000000 ∧ stEs (es.drop j') o = stEs es out) ∧ True := by
      intro o2 a2 n2 k2 h2 ho2 hz2
      have hol : o2.length ≤ o.length + 1 := by rw [ho2]; split <;> simp
      rw [← ho2] at hee
      have hln := stEs_len args o2
      have hr2 := row_ext (fun ob => hz2.2.2 b ob) hr
      refine ⟨b, o', ha, ⟨by omega, by omega⟩, _, _, _, hr2.2.2.2.2.2.1, ?_⟩
      refine Tri.mono (ih args (by omega) a1 c1 o2 a2 n2 k2 h2 hA1 hz2 (by omega)) ?_
      rintro _ h3 ⟨a3, n3, k3, rfl, hz3⟩
      refine ⟨_, _, _, rfl, m' - 1, by omega, ⟨j + 1, _, ?_, by omega, hz3, by omega, hee⟩, trivial⟩
      rw [wrap64 (by omega) (by omega)]; rfl
     have hr1 := row_ext (fun ob => hz1.2.2 b ob) hr
     refine ⟨b, o', ha, ⟨by omega, by omega⟩, _, hr1.1, br_split (fun e3 => ?_) (fun e3 => ?_)⟩
     · have e3 : kd = 2 := by have := beq_iff_eq.1 e3; omega
       obtain ⟨rfl, hM, hx⟩ := hz1
       refine ⟨b, o', ha, ⟨by omega, by omega⟩, _, hr1.2.2.2.2.1, ?_⟩
       refine Tri.mono (has_r tx (LM.names rfl hM) (by omega)) ?_
       rintro _ h2 ⟨rfl, rfl⟩
       refine ⟨_, rfl, br_split (fun e4 => ?_) (fun e4 => ?_)⟩
       · have e4 : o.contains tx = false := by simpa using e4
         refine ⟨b, o', ha, ⟨by omega, by omega⟩, _, hr1.2.2.2.2.1, fun b4 hb4 h3 hh3 => ?_⟩
         refine Raw.mono (LM.append (h0 := g) (cs := [vS tx]) und51 elem9 rfl rfl rfl rfl rfl hM hb4 hh3 rfl rfl (by omega) hx.dom) ?_
         rintro _ h4 ⟨b5, cap5, rfl, hk5, hd5, hn5, hq5, hM5, hR5⟩
         exact ⟨_, _, _, rfl, next (o ++ [tx]) _ _ _ h4 (by rw [if_pos ⟨e3, e4⟩]) ⟨by simp, by rw [List.map_append]; exact hM5, fun q w hq => hk5 q w (ne_of hq) (hx q w hq)⟩⟩
       · have e4 : o.contains tx = true := by simpa using e4
         exact next o _ _ _ h2 (by rw [if_neg (by rw [e4]; simp)]) ⟨rfl, hM, hx⟩
     · have e3 : kd ≠ 2 := fun h => by subst h; cases e3
       exact next o _ _ _ h1 (by rw [if_neg (fun h => e3 h.1)]) hz1
   · have hj : es.length ≤ j := by have := of_decide_eq_false e2; omega
     rw [List.drop_eq_nil_of_le hj] at hee
     have hee : o = stEs es out := hee
     exact ⟨_, _, _, rfl, hee ▸ hz1⟩
theorem inside_r : ∀ k es, cntSs es ≤ k → ZS g es := by
 intro k
 induction k with
 | zero =>
   intro es he ea ec out a n k h hA hz hl
   obtain rfl : es = [] := List.eq_nil_of_length_eq_zero (by have := cntSs_len es; omega)
   refine T69 ?_
   unfold R69
   refine ⟨fun m' a' n' k' i h' => i = 0 ∧ h' = h ∧ a' = a ∧ n' = n ∧ k' = k, ⟨0, rfl, rfl, rfl, rfl, rfl⟩, ?_⟩
   rintro m' a' n' k' _ h1 ⟨rfl, rfl, rfl, rfl, rfl⟩
   exact br_neg rfl ⟨_, _, _, rfl, hz⟩
 | succ k ih =>
   intro es he ea ec out a n k1 h hA hz hl
   have hlen := cntSs_len es
   refine T69 ?_
   unfold R69
   refine ⟨fun m' a' n' k' i h' => ∃ (j : Nat) (o : List Bytes), i = j ∧ j + m' = es.length ∧ ZT g o a' n' k' h' ∧ o.length + cntSs (es.drop j) ≤ 1000000 ∧ stSs (es.drop j) o = stSs es out, ⟨es.length, 0, out, rfl, by omega, hz, by rw [List.drop_zero]; omega, rfl⟩, ?_⟩
   rintro m' a' n' k' _ h1 ⟨j, o, rfl, hjm, hz1, hl1, hee⟩
   refine br_split (fun e2 => ?_) (fun e2 => ?_)
   · have hj : j < es.length := by have := of_decide_eq_true e2; omega
     obtain ⟨b, o', cs, ha, hr, hrel⟩ := hA.get hj
     have hcj := cntSs_mem (List.getElem_mem hj)
     rw [cntSs_drop hj] at hl1
     rw [stSs_drop hj] at hee
     generalize es[j] = y at *
     match y, hrel, hcj, hl1, hee with
     | .mk kd nm args body els pos, hrel, hcj, hl1, hee =>
     obtain ⟨a1, c1, a2, c2, a3, c3, rfl, hA1, hA2, hA3⟩ := RS_iff.1 hrel
     simp only [cntS] at hcj hl1
     rw [stS] at hee
     have l1 := stEs_len args o
     have l2 := stSs_len body (stEs args o)
     have l3 := stSs_len els (stSs body (stEs args o))
     refine ⟨b, o', ha, ⟨by omega, by omega⟩, _, _, _, (row_ext (fun ob => hz1.2.2 b ob) hr).2.2.1, ?_⟩
     refine Tri.mono (strs_r _ args (Nat.le_refl _) a1 c1 o _ _ _ h1 hA1 hz1 (by omega)) ?_
     rintro _ h2 ⟨x2, y2, z2, rfl, hz2⟩
     refine ⟨_, _, _, rfl, b, o', ha, ⟨by omega, by omega⟩, _, _, _, (row_ext (fun ob => hz2.2.2 b ob) hr).2.2.2.1, ?_⟩
     refine Tri.mono (ih body (by omega) a2 c2 _ _ _ _ h2 hA2 hz2 (by omega)) ?_
     rintro _ h3 ⟨x3, y3, z3, rfl, hz3⟩
     refine ⟨_, _, _, rfl, b, o', ha, ⟨by omega, by omega⟩, _, _, _, (row_ext (fun ob => hz3.2.2 b ob) hr).2.2.2.2.1, ?_⟩
     refine Tri.mono (ih els (by omega) a3 c3 _ _ _ _ h3 hA3 hz3 (by omega)) ?_
     rintro _ h4 ⟨x4, y4, z4, rfl, hz4⟩
     refine ⟨_, _, _, rfl, m' - 1, by omega, ⟨j + 1, _, ?_, by omega, hz4, by omega, hee⟩, trivial⟩
     rw [wrap64 (by omega) (by omega)]; rfl
   · have hj : es.length ≤ j := by have := of_decide_eq_false e2; omega
     rw [List.drop_eq_nil_of_le hj] at hee
     have hee : o = stSs es out := hee
     exact ⟨_, _, _, rfl, hee ▸ hz1⟩
theorem strings_r {p : Pg} {h : PHeap} (hc : cntP p ≤ 4097) {ga fa : OA} {gn gc fc : Nat} (hF : At 4 (RF plR 7 6) h fa p.funcs) :
 Tri Tryz.prog 30 [vA [vL ga gn gc, vL fa p.funcs.length fc]] h fun v h' => ∃ a k, v = vL a (stF p.funcs []).length k ∧ StrAt h' a (stF p.funcs []) ∧ Ext h h' := by
 refine T30 ?_
 unfold R30
 simp only [cntP] at hc
 have hlen := cntFs_len p.funcs
 generalize p.funcs = fs at *
 refine ⟨fun m' a' n' k' i h' => ∃ (j : Nat) (o : List Bytes), i = j ∧ j + m' = fs.length ∧ ZT h o a' n' k' h' ∧ o.length + cntFs (fs.drop j) ≤ 10000 ∧ stF (fs.drop j) o = stF fs [], ⟨fs.length, 0, [], rfl, by omega, ⟨rfl, LM.nil, Ext.refl _⟩, by simp; omega, rfl⟩, ?_⟩
 rintro m' a' n' k' _ h4 ⟨j, o, rfl, hjm, hz4, hl4, hee⟩
 refine br_split (fun e2 => ?_) (fun e2 => ?_)
 · have hj : j < fs.length := by have := of_decide_eq_true e2; omega
   obtain ⟨b, o', cs, ha, hr, hrel⟩ := hF.get hj
   rw [List.drop_eq_getElem_cons hj] at hl4 hee
   simp only [cntFs, stF] at hl4 hee
   have hr := row_ext (fun ob => hz4.2.2 b ob) hr
   generalize fs[j] = y at *
   obtain ⟨pa, pc, ba, bc, rfl, hP, hB, _⟩ := hrel
   simp only [cntF] at hl4
   have hln := stSs_len y.body o
   refine ⟨b, o', ha, ⟨by omega, by omega⟩, _, _, _, hr.2.2.1, ?_⟩
   refine Tri.mono (inside_r _ y.body (Nat.le_refl _) ba bc o _ _ _ h4 hB hz4 (by omega)) ?_
   rintro _ h5 ⟨x5, y5, z5, rfl, hz5⟩
   refine ⟨_, _, _, rfl, m' - 1, by omega, ⟨j + 1, _, ?_, by omega, hz5, by omega, hee⟩, rfl, trivial⟩
   rw [wrap64 (by omega) (by omega)]; rfl
 · have hj : fs.length ≤ j := by have := of_decide_eq_false e2; omega
   rw [List.drop_eq_nil_of_le hj] at hee
   have hee : o = stF fs [] := hee
   subst hee
   obtain ⟨rfl, hM, hx⟩ := hz4
   exact ⟨a', k', rfl, LM.names rfl hM, hx⟩
end
end Go.Proofs.D
namespace Go.Proofs.D
open Go Go.Den Go.Sx
set_option maxRecDepth 100000
attribute [local irreducible] IntKind.wrap Tri parseS
theorem StrAt.cell {h : PHeap} {a : OA} {L : List Bytes} (hs : StrAt h a L) {j : Nat} (hj : j < L.length) : ∃ b o, a = some ⟨b, o, none⟩ ∧ h.cell b (o + j) = some (vS L[j]) := by
 rcases hs with rfl | ⟨b, o, ha, hc⟩
 · simp at hj
 · exact ⟨b, o, ha, hc j _ (List.getElem?_eq_getElem hj)⟩
theorem strings_tri {h : PHeap} (ht : L.EscTab h) (s : Bytes) : Tri Tryz.prog 9 [vS s] h fun v h' => v = vB true ∧ Ext h h' := by
 refine T9 ?_
 unfold R9
 refine Tri.mono (short_tri s h) ?_
 rintro _ h ⟨rfl, rfl⟩
 refine ⟨_, rfl, ?_⟩
 generalize s.take 1500 = t
 refine Tri.mono (parse_r t h) ?_
 rintro v4 h4 ⟨hx4, hv4⟩
 have hk4 := known_ok h4 (ht.ext hx4)
 cases hp : parseS t with
 | error e =>
   rw [hp] at hv4
   have hv4 : v4 = _ := hv4
   have he := parseS_err hp
   refine ⟨_, _, _, _, _, _, _, _, hv4, ?_⟩
   refine Tri.mono hk4 ?_
   rintro _ h5 ⟨rfl, hx5⟩
   refine ⟨_, rfl, br_neg rfl (br_pos (by have : (e.1 : Int) ≠ 0 := by omega
                                          simpa using this) ?_)⟩
   refine Tri.mono (known_ok h5 (ht.ext (hx4.trans hx5))) ?_
   rintro _ h6 ⟨rfl, hx6⟩
   exact ⟨_, rfl, rfl, (hx4.trans hx5).trans hx6⟩
 | ok p =>
   rw [hp] at hv4
   obtain ⟨ga, gc, fa, fc, rfl, hG, hF⟩ := hv4
   refine ⟨_, _, _, _, _, _, _, _, rfl, ?_⟩
   refine Tri.mono hk4 ?_
   rintro _ h5 ⟨rfl, hx5⟩
   have hx45 := hx4.trans hx5
   refine ⟨_, rfl, br_neg rfl (br_neg rfl ?_)⟩
   refine Tri.mono (parse_tri t h5 (ht.ext hx45)) ?_
   rintro v6 h6 ⟨hx6, hv6⟩
   rw [hp] at hv6
   obtain ⟨ga', gc', fa', fc', rfl, hG', hF'⟩ := hv6
   refine ⟨_, _, _, _, _, _, _, _, _, rfl, ?_⟩
   have hwf := parseS_wf hp
   have hcnt := parseS_cnt hp
   refine Tri.mono (strings_t hwf hcnt (hF'.whole (RF_mono _ _ _) (Ext.refl _))) ?_
   rintro _ h7 ⟨a7, k7, rfl, hs7, hx7⟩
   refine ⟨_, _, _, rfl, rfl, ?_⟩
   have hx47 : Ext h4 h7 := (hx5.trans hx6).trans hx7
   refine Tri.mono (strings_r hcnt (hF.whole (RF_mono _ _ _) hx47)) ?_
   rintro _ h8 ⟨a8, k8, rfl, hs8, hx8⟩
   have hx08 : Ext h h8 := hx4.trans (hx47.trans hx8)
   refine ⟨_, _, _, rfl, br_neg rfl (br_neg (by simp) ?_)⟩
   have hs7 := StrAt.ext hx8 hs7
   have hlen : (stF p.funcs []).length ≤ 1000000 := by
    have : ∀ (l : List F) (o : List Bytes), (stF l o).length ≤ o.length + cntFs l := by
     intro l
     induction l with
     | nil => intro o; simp [stF, cntFs]
     | cons f l ih =>
       intro o
       have h1 := ih (stSs f.body o)
       have h2 := stSs_len f.body o
       simp only [stF, cntFs, cntF]
       omega
    have := this p.funcs []
    simp only [cntP, List.length_nil] at hcnt this
    omega
   generalize stF p.funcs [] = out at *
   refine ⟨fun m i h' => h' = h8 ∧ ∃ n : Nat, i = n ∧ n + m = out.length, ⟨out.length, rfl, 0, rfl, by omega⟩, ?_⟩
   rintro m _ h9 ⟨rfl, n, rfl, hnm⟩
   refine br_split (fun e => ?_) (fun e => ⟨rfl, hx08⟩)
   have hn : n < out.length := by have := of_decide_eq_true e; omega
   obtain ⟨b1, o1, ha1, hc1⟩ := hs7.cell hn
   obtain ⟨b2, o2, ha2, hc2⟩ := hs8.cell hn
   refine ⟨b1, o1, ha1, ⟨by omega, by omega⟩, _, by rw [Int.toNat_natCast, Nat.mul_one]; exact hc1, b2, o2, ha2, ⟨by omega, by omega⟩, _, by rw [Int.toNat_natCast, Nat.mul_one]; exact hc2, br_neg (by simp) ⟨m - 1, by omega, ⟨rfl, n + 1, ?_, by omega⟩, rfl, rfl, trivial⟩⟩
   rw [wrap64 (by omega) (by omega)]; rfl
end Go.Proofs.D
namespace Go.Fr
open Go Go.Den Go.ChangeShapes Go.RowKit
def Kept (w w' : World) : Prop := w'.os = w.os ∧ w'.output = w.output ∧ w.heap.size ≤ w'.heap.size ∧ ∀ k, k < w.heap.size → w'.heap[k]? = w.heap[k]?
theorem calls_of_tri {P : Program} {f : FuncId} {fn : Func} {args : List Value} {Q : Value → Prop} {h : PHeap} (ht : Tri P f args h fun v h' => Q v ∧ ∀ k o, h k = some o → h' k = some o) (hf : P.funcs[f]? = some fn) (hb : fn.body.isSome = true) (hname : (fn.name == "runtime.NumGoroutine") = false) (w : World) (hs : Sub w h) :
 Calls P f args.toArray w fun e w' => ∃ v, e = .returned v ∧ Q v ∧ Kept w w' := by
 have h1 := ht w hs
 unfold CallR at h1
 have hcall : (callFunc f args.toArray).run P w = .ok (.enter f args.toArray) w := by
  unfold callFunc
  have hname' : ¬ fn.name = "runtime.NumGoroutine" := fun e => by rw [e] at hname; simp at hname
  cases hbb : fn.body with
  | none => rw [hbb] at hb; cases hb
  | some c => simp [program, Sem.run, hf, hname', hbb]
 rw [hcall] at h1
 refine Calls.mono h1 fun e w' he => ?_
 cases e with
 | returned v =>
   obtain ⟨h', ⟨hq, hx⟩, hs', hk⟩ := he
   refine ⟨v, rfl, hq, hk.os, hk.output, hk.size, fun k hk' => ?_⟩
   cases hh : h k with
   | none => exact (hk.out k hk' hh).2
   | some o => rw [hs k o hh, hs' k o (hx k o hh)]
 | _ => exact he.elim
def one (w : World) (b : Nat) : PHeap := fun k => if k = b then w.heap[b]? else none
theorem one_sub (w : World) (b : Nat) : Sub w (one w b) := fun k o hk => by
 unfold one at hk; split at hk
 · rename_i e; subst e; exact hk
 · cases hk
theorem one_cell {w : World} {b i : Nat} {v : Value} (h : w.cell? ⟨b, i, none⟩ = some v) : (one w b).cell b i = some v := by
 unfold World.cell? at h
 unfold PHeap.cell one
 rw [if_pos rfl]
 cases hb : w.heap[b]? with
 | none => simp [hb] at h
 | some o =>
   cases o with
   | cells c t z => simpa [hb] using h
   | _ => simp [hb] at h
theorem Kept.but {w w' : World} (h : Kept w w') (may : MemPlace → Prop) : w.keptBut w' may := by
 obtain ⟨h1, h2, h3, h4⟩ := h
 obtain ⟨_, _, r⟩ := World.keptBut_refl w may
 refine ⟨h1, h2, fun i hi => ?_⟩
 have := r i hi
 rw [h4 i hi]
 exact this
theorem Kept.frozen {w w' : World} (h : Kept w w') (b off : Nat) (hb : b < w.heap.size) : w'.frozen? ⟨b, off, none⟩ = w.frozen? ⟨b, off, none⟩ := by
 simp only [World.frozen?, h.2.2.2 b hb]
section
variable {H : Type} {enc : TypeId × Value → H} {P : Program}
theorem post_kept {f : Func} {s : ChangeSpec} {apart fresh handsOn again : Bool} {W W' : World} {args : Array Value} {v : Value} {ds gs : List (DataW H)} {before pa pv : List MemPlace}
 (hW : DataW.Whole enc P f.params.toList s.vars apart W args.toList ds gs before)
 (hres : ∀ (b : Nat) (sp : Nat → Bool) (hd : Bool), DataW.TrodAll enc P W' b sp hd f.resultTypes.toList (v.resultList f.resultTypes.size) (s.fn H (ds ++ gs)).results [])
 (hargs : ∀ sp : Nat → Bool, (∀ p ∈ before, sp p.block = true) → DataW.TrodAll enc P W' 0 sp true f.params.toList args.toList (s.fn H (ds ++ gs)).args pa)
 (hvars : ∀ sp : Nat → Bool, (∀ p ∈ before, sp p.block = true) → DataW.TrodVars enc P W' sp s.vars (s.fn H (ds ++ gs)).vars pv)
 (hps : before = pa ++ pv) (hk : Kept W W')
 (hok : ∀ (j : Nat) (t : TypeId) (r : Value), f.resultTypes[j]? = some t → (v.resultList f.resultTypes.size)[j]? = some r → Value.okWide P W' .any 0 t r) :
 s.post enc P f apart fresh handsOn again W args v W' := by
 have hlt : ∀ p ∈ before, p.block < W.heap.size := fun p hp => hW.lt p hp
 have hold : ∀ p ∈ before, (fun b => decide (b < W.heap.size)) p.block = true := fun p hp => by simpa using hlt p hp
 refine ⟨ds, gs, before, [], pa, pv, hW, hres _ _ _, hargs _ hold, hvars _ hold, World.keptBut_mono (fun p hp => ⟨hp, ?_⟩) (hk.but _), fun _ => ?_⟩
 · rw [hps, List.mem_append] at hp
   exact Or.inr hp
 · obtain ⟨_, _, _, _, _, hz, hn⟩ := hW
   refine ⟨hok, _, _, ([] ++ pa) ++ pv, ⟨[] ++ pa, pv, trodAll_append (hargs _ (fun _ _ => rfl)) (hres _ _ _), hvars _ (fun _ _ => rfl), rfl, ?_, ?_⟩, ?_⟩
   · intro b off hp
     have hp' : MemPlace.cell b off ∈ before := by rw [hps]; simpa using hp
     rw [hk.frozen b off (hlt _ hp')]
     exact hz b off hp'
   · intro ha
     have := hn ha
     rw [hps] at this
     simpa using this
   · intro p hp _
     rw [hps]
     simpa using hp
end
end Go.Fr
