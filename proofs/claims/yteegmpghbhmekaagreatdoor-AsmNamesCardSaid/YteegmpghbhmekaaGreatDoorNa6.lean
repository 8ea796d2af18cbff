import Derived.Test.YteegmpghbhmekaaGreatDoorNa5
import Derived.Sort.Grow
import Derived.Deep.Draws
import Derived.Shelf.SlSortCmp.WholeK
import Derived.Shelf.SlSortCmp.NoneTotal
import Derived.Laws.IdiomRangeMap
namespace Go.Proofs.D
open Go Go.Den
set_option maxRecDepth 100000
set_option maxHeartbeats 4000000
abbrev o110_5 : Op := .call { callee := (.builtin .append), args := #[(.tmp 36), (.tmp 43)], argTypes := #[72, 72] }
noncomputable def d110 : DCode := up ⟨[(15, .l [.str]), (16, .c (.tup [(false, [qi]), (false, [.bool])])), (21, .l [qi]), (25, .l [qi]), (29, .l [.str]), (30, .c (.one false [.bool])), (32, .l [.ptr]), (33, .l [.ptr]), (36, .l [.slice]), (37, .l [.ptr]), (40, .l [qi]), (44, .c (.one false [.slice]))], [46], []⟩ (low Tryz.prog (fun d => Nat.beq d 5 || Nat.beq d 6 || Nat.beq d 7 || Nat.beq d 8 || Nat.beq d 9) (Tryz.f110.body.getD .skip))
theorem low110 : low Tryz.prog (fun d => Nat.beq d 5 || Nat.beq d 6 || Nat.beq d 7 || Nat.beq d 8 || Nat.beq d 9) (Tryz.f110.body.getD .skip) = some (eC d110) := by kernel_rfl
def R110 (p1 : Nat) (o1 : Nat) (l1 : Bs) (i1 : Int) (i2 : Int) (f1 : Nat) (x1 : List Value) (y1 : List Value) (h : PHeap) (Q : Value → PHeap → Prop) : Prop :=
 ∀ (b1 : Nat), h b1 = none → ∀ (h_1 : PHeap), h_1 = h.put b1 (.cells ⟨[vP p1 o1]⟩ 68) →
 ∀ (b2 : Nat), h_1 b2 = none → ∀ (h_2 : PHeap), h_2 = h_1.put b2 (.cells ⟨[vS l1]⟩ 9) →
 ∀ (b3 : Nat), h_2 b3 = none → ∀ (h_3 : PHeap), h_3 = h_2.put b3 (.cells ⟨[vI i1]⟩ 3) →
 ∀ (b4 : Nat), h_3 b4 = none → ∀ (h_4 : PHeap), h_4 = h_3.put b4 (.cells ⟨[vI i2]⟩ 3) →
 ∀ (b5 : Nat), h_4 b5 = none → ∀ (h_5 : PHeap), h_5 = h_4.put b5 (.cells ⟨[vF f1 x1 y1]⟩ 150) →
 ∃ (l2 : Bs), h_5.cell b2 0 = some (vS l2) ∧
 Tri Tryz.prog 141 [vS l2] h_5 fun v_1 h_6 =>
 ∃ (i3 : Int) (c1 : Bool), v_1 = vT [vI i3, vB c1] ∧
 br c1
 (∃ (i4 : Int), h_6.cell b3 0 = some (vI i4) ∧
 br (decide (i3 < i4))
 (Q (vT [vI 0, vI 2]) h_6)
 (∃ (i5 : Int), h_6.cell b4 0 = some (vI i5) ∧
 br (decide (i3 > i5))
 (Q (vT [vI 0, vI 2]) h_6)
 (Q (vT [vI i3, vI 0]) h_6)))
 (∃ (l3 : Bs), h_6.cell b2 0 = some (vS l3) ∧
 Tri Tryz.prog 27 [vS l3] h_6 fun v_2 h_7 =>
 ∃ (c2 : Bool), v_2 = vB c2 ∧
 br (!c2)
 (Q (vT [vI 0, vI 3]) h_7)
 (∃ (p2 o2 : Nat), h_7.cell b1 0 = some (vP p2 o2) ∧
 ∃ (p3 o3 : Nat), h_7.cell b1 0 = some (vP p3 o3) ∧
 ∃ (a1 : OA) (n1 k1 : Nat), h_7.cell p3 (o3 + 12) = some (vL a1 n1 k1) ∧
 ∃ (p4 o4 : Nat), h_7.cell b1 0 = some (vP p4 o4) ∧
 ∃ (i6 : Int), h_7.cell p4 (o4 + 11) = some (vI i6) ∧
 ∀ (b6 : Nat), h_7 b6 = none → ∀ (h_8 : PHeap), h_8 = h_7.put b6 (.cells ⟨[vI i6, vF 142 [] [vP b1 0, vP b2 0, vP b3 0, vP b4 0, vP b5 0]]⟩ 78) →
 (h_8.cell p4 (o4 + 11) = some (vI i6)) ∧
 (h_8.cell b1 0 = some (vP p4 o4)) ∧
 (h_8.cell p3 (o3 + 12) = some (vL a1 n1 k1)) ∧
 (h_8.cell b1 0 = some (vP p3 o3)) ∧
 (h_8.cell b1 0 = some (vP p2 o2)) ∧
 Raw Tryz.prog (execOp (rho [(36, vL a1 n1 k1), (43, vL (ad b6 0) 1 1)]) (mkO o110_5 72)) h_8 fun v_3 h_9 =>
 ∃ (a2 : OA) (n2 k2 : Nat), v_3 = vL a2 n2 k2 ∧
 (h_9.cell p4 (o4 + 11) = some (vI i6)) ∧
 (h_9.cell b1 0 = some (vP p4 o4)) ∧
 (h_9.cell b1 0 = some (vP p3 o3)) ∧
 (h_9.cell b1 0 = some (vP p2 o2)) ∧
 ∃ (l4 : List Value) (t1 : TypeId) (z1 : Nat × Nat), h_9 p2 = some (.cells ⟨l4⟩ t1 z1) ∧ ((o2 + 12) + 1 ≤ l4.length ∧ z1.2 ≤ (o2 + 12)) ∧
 ∀ (h_10 : PHeap), h_10 = h_9.put p2 (.cells ⟨splice l4 (o2 + 12) [vL a2 n2 k2]⟩ t1 z1) →
 Q (vT [vI 0, vI 0]) h_10))
theorem T110 {p1 : Nat} {o1 : Nat} {l1 : Bs} {i1 : Int} {i2 : Int} {f1 : Nat} {x1 : List Value} {y1 : List Value} {h : PHeap} {Q : Value → PHeap → Prop} (hR : R110 p1 o1 l1 i1 i2 f1 x1 y1 h Q) : Tri Tryz.prog 110 [vP p1 o1, vS l1, vI i1, vI i2, vF f1 x1 y1] h Q :=
 tri_of_dn mixed Tryz.func110 rfl (by kernel_rfl) low110 (rs := [.tmp 10, .tmp 11]) (by kernel_rfl) rfl (Eq.mpr (by kernel_rfl : dnF Tryz.prog Tryz.f110.ntmps d110 [.tmp 10, .tmp 11] [vP p1 o1, vS l1, vI i1, vI i2, vF f1 x1 y1] h Q = R110 p1 o1 l1 i1 i2 f1 x1 y1 h Q) hR)
noncomputable def d109 : DCode := up ⟨[(3, .l [.ptr])], [7], []⟩ (low Tryz.prog (fun _ => false) (Tryz.f109.body.getD .skip))
theorem low109 : low Tryz.prog (fun _ => false) (Tryz.f109.body.getD .skip) = some (eC d109) := by kernel_rfl
def R109 (i1 : Int) (p1 : Nat) (o1 : Nat) (h : PHeap) (Q : Value → PHeap → Prop) : Prop :=
 ∃ (p2 o2 : Nat), h.cell p1 o1 = some (vP p2 o2) ∧
 ∃ (l1 : List Value) (t1 : TypeId) (z1 : Nat × Nat), h p2 = some (.cells ⟨l1⟩ t1 z1) ∧ ((o2 + 4) + 1 ≤ l1.length ∧ z1.2 ≤ (o2 + 4)) ∧
 ∀ (h_1 : PHeap), h_1 = h.put p2 (.cells ⟨splice l1 (o2 + 4) [vI i1]⟩ t1 z1) →
 Q (vT []) h_1
theorem T109 {i1 : Int} {p1 : Nat} {o1 : Nat} {h : PHeap} {Q : Value → PHeap → Prop} (hR : R109 i1 p1 o1 h Q) : Tri Tryz.prog 109 [vI i1, vP p1 o1] h Q :=
 tri_of_dn mixed Tryz.func109 rfl (by kernel_rfl) low109 (rs := []) (by kernel_rfl) rfl (Eq.mpr (by kernel_rfl : dnF Tryz.prog Tryz.f109.ntmps d109 [] [vI i1, vP p1 o1] h Q = R109 i1 p1 o1 h Q) hR)
abbrev o112_3 : Op := .call { callee := (.builtin .copy), args := #[(.tmp 12), (.tmp 24)], argTypes := #[40, 40] }
noncomputable def d112 : DCode := up ⟨[(6, .c (.one false [.int .u32])), (7, .l [.ptr]), (10, .l [.slice]), (11, .l [qi]), (25, .c (.one false [qi]))], [], []⟩ (low Tryz.prog (fun _ => false) (Tryz.f112.body.getD .skip))
theorem low112 : low Tryz.prog (fun _ => false) (Tryz.f112.body.getD .skip) = some (eC d112) := by kernel_rfl
def R112 (i1 : Int) (p1 : Nat) (o1 : Nat) (p2 : Nat) (o2 : Nat) (h : PHeap) (Q : Value → PHeap → Prop) : Prop :=
 Tri Tryz.prog 113 [vI i1] h fun v_1 h_1 =>
 ∃ (i2 : Int), v_1 = .int .u32 i2 ∧
 ∃ (p3 o3 : Nat), h_1.cell p1 o1 = some (vP p3 o3) ∧
 ∃ (a1 : OA) (n1 k1 : Nat), h_1.cell p3 (o3 + 6) = some (vL a1 n1 k1) ∧
 ∃ (i3 : Int), h_1.cell p2 o2 = some (vI i3) ∧
 (okA a1 n1 k1 ∧ 0 ≤ i3 ∧ i3 ≤ ((n1 : Nat) : Int) ∧ ((n1 : Nat) : Int) ≤ k1) ∧ ∀ (a2 : OA), SlA a1 a2 (i3).toNat k1 1 →
 ∀ (b1 : Nat), h_1 b1 = none → ∀ (h_2 : PHeap), h_2 = h_1.put b1 (.cells ⟨[vU (IntKind.u8.wrap (i2)), vU (IntKind.u8.wrap ((Int.fdiv i2 256))), vU (IntKind.u8.wrap ((Int.fdiv i2 65536))), vU (IntKind.u8.wrap ((Int.fdiv i2 16777216)))]⟩ 5) →
 (h_2.cell p2 o2 = some (vI i3)) ∧
 (h_2.cell p3 (o3 + 6) = some (vL a1 n1 k1)) ∧
 (h_2.cell p1 o1 = some (vP p3 o3)) ∧
 Raw Tryz.prog (execOp (rho [(12, vL a2 (((n1 : Nat) : Int).toNat - (i3).toNat) (k1 - (i3).toNat)), (24, vL (ad b1 0) 4 4)]) (mkO o112_3 3)) h_2 fun v_2 h_3 =>
 ∃ (i4 : Int), v_2 = vI i4 ∧
 (h_3.cell p2 o2 = some (vI i3)) ∧
 (h_3.cell p3 (o3 + 6) = some (vL a1 n1 k1)) ∧
 (h_3.cell p1 o1 = some (vP p3 o3)) ∧
 Q (vT []) h_3
theorem T112 {i1 : Int} {p1 : Nat} {o1 : Nat} {p2 : Nat} {o2 : Nat} {h : PHeap} {Q : Value → PHeap → Prop} (hR : R112 i1 p1 o1 p2 o2 h Q) : Tri Tryz.prog 112 [vI i1, vP p1 o1, vP p2 o2] h Q :=
 tri_of_dn mixed Tryz.func112 rfl (by kernel_rfl) low112 (rs := []) (by kernel_rfl) rfl (Eq.mpr (by kernel_rfl : dnF Tryz.prog Tryz.f112.ntmps d112 [] [vI i1, vP p1 o1, vP p2 o2] h Q = R112 i1 p1 o1 p2 o2 h Q) hR)
noncomputable def d115 : DCode := up ⟨[(4, .l [.ptr]), (8, .l [.slice]), (9, .l [qi])], [12], []⟩ (low Tryz.prog (fun _ => false) (Tryz.f115.body.getD .skip))
theorem low115 : low Tryz.prog (fun _ => false) (Tryz.f115.body.getD .skip) = some (eC d115) := by kernel_rfl
def R115 (i1 : Int) (p1 : Nat) (o1 : Nat) (p2 : Nat) (o2 : Nat) (h : PHeap) (Q : Value → PHeap → Prop) : Prop :=
 ∃ (p3 o3 : Nat), h.cell p1 o1 = some (vP p3 o3) ∧
 ∃ (a1 : OA) (n1 k1 : Nat), h.cell p3 (o3 + 1) = some (vL a1 n1 k1) ∧
 ∃ (i2 : Int), h.cell p2 o2 = some (vI i2) ∧
 ∃ (b1 o4 : Nat), a1 = some ⟨b1, o4, none⟩ ∧ (0 ≤ i2 ∧ i2 < n1) ∧
 ∃ (l1 : List Value) (t1 : TypeId) (z1 : Nat × Nat), h b1 = some (.cells ⟨l1⟩ t1 z1) ∧ (((o4 + (i2).toNat * 4) + 3) + 1 ≤ l1.length ∧ z1.2 ≤ ((o4 + (i2).toNat * 4) + 3)) ∧
 ∀ (h_1 : PHeap), h_1 = h.put b1 (.cells ⟨splice l1 ((o4 + (i2).toNat * 4) + 3) [vI i1]⟩ t1 z1) →
 Q (vT []) h_1
theorem T115 {i1 : Int} {p1 : Nat} {o1 : Nat} {p2 : Nat} {o2 : Nat} {h : PHeap} {Q : Value → PHeap → Prop} (hR : R115 i1 p1 o1 p2 o2 h Q) : Tri Tryz.prog 115 [vI i1, vP p1 o1, vP p2 o2] h Q :=
 tri_of_dn mixed Tryz.func115 rfl (by kernel_rfl) low115 (rs := []) (by kernel_rfl) rfl (Eq.mpr (by kernel_rfl : dnF Tryz.prog Tryz.f115.ntmps d115 [] [vI i1, vP p1 o1, vP p2 o2] h Q = R115 i1 p1 o1 p2 o2 h Q) hR)
noncomputable def d113 : DCode := up ⟨[], [], []⟩ (low Tryz.prog (fun _ => false) (Tryz.f113.body.getD .skip))
theorem low113 : low Tryz.prog (fun _ => false) (Tryz.f113.body.getD .skip) = some (eC d113) := by kernel_rfl
def R113 (i1 : Int) (h : PHeap) (Q : Value → PHeap → Prop) : Prop :=
 Q (.int .u32 (IntKind.u32.wrap (i1))) h
theorem T113 {i1 : Int} {h : PHeap} {Q : Value → PHeap → Prop} (hR : R113 i1 h Q) : Tri Tryz.prog 113 [vI i1] h Q :=
 tri_of_dn mixed Tryz.func113 rfl (by kernel_rfl) low113 (rs := [.tmp 2]) (by kernel_rfl) rfl (Eq.mpr (by kernel_rfl : dnF Tryz.prog Tryz.f113.ntmps d113 [.tmp 2] [vI i1] h Q = R113 i1 h Q) hR)
noncomputable def d76 : DCode := up ⟨[], [7], []⟩ (low Tryz.prog (fun _ => false) (Tryz.f76.body.getD .skip))
theorem low76 : low Tryz.prog (fun _ => false) (Tryz.f76.body.getD .skip) = some (eC d76) := by kernel_rfl
def R76 (p1 : Nat) (o1 : Nat) (a1 : OA) (n1 : Nat) (k1 : Nat) (h : PHeap) (Q : Value → PHeap → Prop) : Prop :=
 ∃ (l1 : List Value) (t1 : TypeId) (z1 : Nat × Nat), h p1 = some (.cells ⟨l1⟩ t1 z1) ∧ ((o1 + 7) + 1 ≤ l1.length ∧ z1.2 ≤ (o1 + 7)) ∧
 ∀ (h_1 : PHeap), h_1 = h.put p1 (.cells ⟨splice l1 (o1 + 7) [vB false]⟩ t1 z1) →
 Q (vI 0) h_1
theorem T76 {p1 : Nat} {o1 : Nat} {a1 : OA} {n1 : Nat} {k1 : Nat} {h : PHeap} {Q : Value → PHeap → Prop} (hR : R76 p1 o1 a1 n1 k1 h Q) : Tri Tryz.prog 76 [vP p1 o1, vL a1 n1 k1] h Q :=
 tri_of_dn mixed Tryz.func76 rfl (by kernel_rfl) low76 (rs := [.tmp 4]) (by kernel_rfl) rfl (Eq.mpr (by kernel_rfl : dnF Tryz.prog Tryz.f76.ntmps d76 [.tmp 4] [vP p1 o1, vL a1 n1 k1] h Q = R76 p1 o1 a1 n1 k1 h Q) hR)
noncomputable def d77 : DCode := up ⟨[], [7], []⟩ (low Tryz.prog (fun _ => false) (Tryz.f77.body.getD .skip))
theorem low77 : low Tryz.prog (fun _ => false) (Tryz.f77.body.getD .skip) = some (eC d77) := by kernel_rfl
def R77 (p1 : Nat) (o1 : Nat) (a1 : OA) (n1 : Nat) (k1 : Nat) (h : PHeap) (Q : Value → PHeap → Prop) : Prop :=
 ∃ (l1 : List Value) (t1 : TypeId) (z1 : Nat × Nat), h p1 = some (.cells ⟨l1⟩ t1 z1) ∧ ((o1 + 7) + 1 ≤ l1.length ∧ z1.2 ≤ (o1 + 7)) ∧
 ∀ (h_1 : PHeap), h_1 = h.put p1 (.cells ⟨splice l1 (o1 + 7) [vB true]⟩ t1 z1) →
 Q (vI 0) h_1
theorem T77 {p1 : Nat} {o1 : Nat} {a1 : OA} {n1 : Nat} {k1 : Nat} {h : PHeap} {Q : Value → PHeap → Prop} (hR : R77 p1 o1 a1 n1 k1 h Q) : Tri Tryz.prog 77 [vP p1 o1, vL a1 n1 k1] h Q :=
 tri_of_dn mixed Tryz.func77 rfl (by kernel_rfl) low77 (rs := [.tmp 4]) (by kernel_rfl) rfl (Eq.mpr (by kernel_rfl : dnF Tryz.prog Tryz.f77.ntmps d77 [.tmp 4] [vP p1 o1, vL a1 n1 k1] h Q = R77 p1 o1 a1 n1 k1 h Q) hR)
noncomputable def d78 : DCode := up ⟨[(10, .l [.ptr]), (14, .l [.str]), (16, .c (.tup [(false, [qi]), (false, [qi])])), (22, .l [.ptr]), (27, .c (.tup []))], [24], []⟩ (low Tryz.prog (fun d => Nat.beq d 2) (Tryz.f78.body.getD .skip))
theorem low78 : low Tryz.prog (fun d => Nat.beq d 2) (Tryz.f78.body.getD .skip) = some (eC d78) := by kernel_rfl
def R78 (p1 : Nat) (o1 : Nat) (a1 : OA) (n1 : Nat) (k1 : Nat) (h : PHeap) (Q : Value → PHeap → Prop) : Prop :=
 ∀ (b1 : Nat), h b1 = none → ∀ (h_1 : PHeap), h_1 = h.put b1 (.cells ⟨[vP p1 o1]⟩ 68) →
 ∃ (p2 o2 : Nat), h_1.cell b1 0 = some (vP p2 o2) ∧
 ∃ (b2 o3 : Nat), a1 = some ⟨b2, o3, none⟩ ∧ (0 ≤ (0 : Int) ∧ (0 : Int) < n1) ∧
 ∃ (l1 : Bs), h_1.cell b2 (o3 + 1) = some (vS l1) ∧
 Tri Tryz.prog 110 [vP p2 o2, vS l1, vI (-4611686018427387904), vI 4611686018427387904, vF 109 [] [vP b1 0]] h_1 fun v_1 h_2 =>
 ∃ (i1 i2 : Int), v_1 = vT [vI i1, vI i2] ∧
 br (i2 != 0)
 (Q (vI i2) h_2)
 (∃ (p3 o4 : Nat), h_2.cell b1 0 = some (vP p3 o4) ∧
 ∃ (l2 : List Value) (t1 : TypeId) (z1 : Nat × Nat), h_2 p3 = some (.cells ⟨l2⟩ t1 z1) ∧ ((o4 + 8) + 1 ≤ l2.length ∧ z1.2 ≤ (o4 + 8)) ∧
 ∀ (h_3 : PHeap), h_3 = h_2.put p3 (.cells ⟨splice l2 (o4 + 8) [vB true]⟩ t1 z1) →
 Tri Tryz.prog 109 [vI i1, vP b1 0] h_3 fun v_2 h_4 =>
 v_2 = vT [] ∧
 Q (vI 0) h_4)
theorem T78 {p1 : Nat} {o1 : Nat} {a1 : OA} {n1 : Nat} {k1 : Nat} {h : PHeap} {Q : Value → PHeap → Prop} (hR : R78 p1 o1 a1 n1 k1 h Q) : Tri Tryz.prog 78 [vP p1 o1, vL a1 n1 k1] h Q :=
 tri_of_dn mixed Tryz.func78 rfl (by kernel_rfl) low78 (rs := [.tmp 4]) (by kernel_rfl) rfl (Eq.mpr (by kernel_rfl : dnF Tryz.prog Tryz.f78.ntmps d78 [.tmp 4] [vP p1 o1, vL a1 n1 k1] h Q = R78 p1 o1 a1 n1 k1 h Q) hR)
noncomputable def d79 : DCode := up ⟨[(11, .l [.str]), (12, .c (.tup [(false, [qi]), (false, [qi])]))], [20, 25], []⟩ (low Tryz.prog (fun _ => false) (Tryz.f79.body.getD .skip))
theorem low79 : low Tryz.prog (fun _ => false) (Tryz.f79.body.getD .skip) = some (eC d79) := by kernel_rfl
def R79 (p1 : Nat) (o1 : Nat) (a1 : OA) (n1 : Nat) (k1 : Nat) (h : PHeap) (Q : Value → PHeap → Prop) : Prop :=
 ∃ (b1 o2 : Nat), a1 = some ⟨b1, o2, none⟩ ∧ (0 ≤ (0 : Int) ∧ (0 : Int) < n1) ∧
 ∃ (l1 : Bs), h.cell b1 (o2 + 1) = some (vS l1) ∧
 Tri Tryz.prog 111 [vS l1, vI 0, vI 4096] h fun v_1 h_1 =>
 ∃ (i1 i2 : Int), v_1 = vT [vI i1, vI i2] ∧
 br (i2 != 0)
 (Q (vI i2) h_1)
 (∃ (l2 : List Value) (t1 : TypeId) (z1 : Nat × Nat), h_1 p1 = some (.cells ⟨l2⟩ t1 z1) ∧ ((o1 + 9) + 1 ≤ l2.length ∧ z1.2 ≤ (o1 + 9)) ∧
 ∀ (h_2 : PHeap), h_2 = h_1.put p1 (.cells ⟨splice l2 (o1 + 9) [vB true]⟩ t1 z1) →
 ∃ (l3 : List Value) (t2 : TypeId) (z2 : Nat × Nat), h_2 p1 = some (.cells ⟨l3⟩ t2 z2) ∧ ((o1 + 3) + 1 ≤ l3.length ∧ z2.2 ≤ (o1 + 3)) ∧
 ∀ (h_3 : PHeap), h_3 = h_2.put p1 (.cells ⟨splice l3 (o1 + 3) [vI i1]⟩ t2 z2) →
 Q (vI 0) h_3)
theorem T79 {p1 : Nat} {o1 : Nat} {a1 : OA} {n1 : Nat} {k1 : Nat} {h : PHeap} {Q : Value → PHeap → Prop} (hR : R79 p1 o1 a1 n1 k1 h Q) : Tri Tryz.prog 79 [vP p1 o1, vL a1 n1 k1] h Q :=
 tri_of_dn mixed Tryz.func79 rfl (by kernel_rfl) low79 (rs := [.tmp 4]) (by kernel_rfl) rfl (Eq.mpr (by kernel_rfl : dnF Tryz.prog Tryz.f79.ntmps d79 [.tmp 4] [vP p1 o1, vL a1 n1 k1] h Q = R79 p1 o1 a1 n1 k1 h Q) hR)
abbrev o80_1 : Op := .call { callee := (.builtin .append), args := #[(.tmp 26), (.tmp 27)], argTypes := #[40, 40] }
noncomputable def d80 : DCode := up ⟨[(16, .l [qi, .str]), (17, .l [.ptr]), (20, .l [.slice]), (22, .l [.ptr]), (23, .l [.ptr]), (26, .l [.slice]), (28, .c (.one false [.slice])), (33, .l [.ptr]), (35, .l [.str]), (37, .c (.tup [(false, [qi]), (false, [qi])])), (45, .c (.tup []))], [7, 30], [(14, 40, [(13, qi)], [])]⟩ (low Tryz.prog (fun d => Nat.beq d 2 || Nat.beq d 7) (Tryz.f80.body.getD .skip))
theorem low80 : low Tryz.prog (fun d => Nat.beq d 2 || Nat.beq d 7) (Tryz.f80.body.getD .skip) = some (eC d80) := by kernel_rfl
def R80 (p1 : Nat) (o1 : Nat) (a1 : OA) (n1 : Nat) (k1 : Nat) (h : PHeap) (Q : Value → PHeap → Prop) : Prop :=
 ∀ (b1 : Nat), h b1 = none → ∀ (h_1 : PHeap), h_1 = h.put b1 (.cells ⟨[vP p1 o1]⟩ 68) →
 ∃ (I_1 : Nat → Int → PHeap → Prop), (∃ (m2 : Nat), I_1 m2 (0 : Int) h_1) ∧
 ∀ (m1 : Nat) (i1 : Int) (h_2 : PHeap), I_1 m1 i1 h_2 →
 br (decide (i1 < ((n1 : Nat) : Int)))
 (∃ (b2 o2 : Nat), a1 = some ⟨b2, o2, none⟩ ∧ (0 ≤ i1 ∧ i1 < n1) ∧
 ∃ (i2 : Int) (l1 : Bs), h_2.row b2 (o2 + (i1).toNat * 2) [vI i2, vS l1] ∧
 ∃ (p2 o3 : Nat), h_2.cell b1 0 = some (vP p2 o3) ∧
 ∃ (a2 : OA) (n2 k2 : Nat), h_2.cell p2 (o3 + 6) = some (vL a2 n2 k2) ∧
 ∀ (b3 : Nat), h_2 b3 = none → ∀ (h_3 : PHeap), h_3 = h_2.put b3 (.cells ⟨[vI 0]⟩ 3) →
 ∃ (l2 : List Value) (t1 : TypeId) (z1 : Nat × Nat), h_3 b3 = some (.cells ⟨l2⟩ t1 z1) ∧ (0 + 1 ≤ l2.length ∧ z1.2 ≤ 0) ∧
 ∀ (h_4 : PHeap), h_4 = h_3.put b3 (.cells ⟨splice l2 0 [vI ((n2 : Nat) : Int)]⟩ t1 z1) →
 ∃ (p3 o4 : Nat), h_4.cell b1 0 = some (vP p3 o4) ∧
 ∃ (p4 o5 : Nat), h_4.cell b1 0 = some (vP p4 o5) ∧
 ∃ (a3 : OA) (n3 k3 : Nat), h_4.cell p4 (o5 + 6) = some (vL a3 n3 k3) ∧
 ∀ (b4 : Nat), h_4 b4 = none → ∀ (h_5 : PHeap), h_5 = h_4.put b4 (.cells ⟨[vU 0, vU 0, vU 0, vU 0]⟩ 5) →
 (h_5.cell p4 (o5 + 6) = some (vL a3 n3 k3)) ∧
 (h_5.cell b1 0 = some (vP p4 o5)) ∧
 (h_5.cell b1 0 = some (vP p3 o4)) ∧
 Raw Tryz.prog (execOp (rho [(26, vL a3 n3 k3), (27, vL (ad b4 0) 4 4)]) (mkO o80_1 40)) h_5 fun v_1 h_6 =>
 ∃ (a4 : OA) (n4 k4 : Nat), v_1 = vL a4 n4 k4 ∧
 (h_6.cell b1 0 = some (vP p4 o5)) ∧
 (h_6.cell b1 0 = some (vP p3 o4)) ∧
 ∃ (l3 : List Value) (t2 : TypeId) (z2 : Nat × Nat), h_6 p3 = some (.cells ⟨l3⟩ t2 z2) ∧ ((o4 + 6) + 1 ≤ l3.length ∧ z2.2 ≤ (o4 + 6)) ∧
 ∀ (h_7 : PHeap), h_7 = h_6.put p3 (.cells ⟨splice l3 (o4 + 6) [vL a4 n4 k4]⟩ t2 z2) →
 ∃ (p5 o6 : Nat), h_7.cell b1 0 = some (vP p5 o6) ∧
 Tri Tryz.prog 110 [vP p5 o6, vS l1, vI (-2147483648), vI 4294967295, vF 112 [] [vP b1 0, vP b3 0]] h_7 fun v_2 h_8 =>
 ∃ (i3 i4 : Int), v_2 = vT [vI i3, vI i4] ∧
 br (i4 != 0)
 (Q (vI i4) h_8)
 (Tri Tryz.prog 112 [vI i3, vP b1 0, vP b3 0] h_8 fun v_3 h_9 =>
 v_3 = vT [] ∧
 ∃ (m3 : Nat), m3 < m1 ∧ I_1 m3 (IntKind.i64.wrap (i1 + 1)) h_9 ∧
 True))
 (Q (vI 0) h_2)
theorem T80 {p1 : Nat} {o1 : Nat} {a1 : OA} {n1 : Nat} {k1 : Nat} {h : PHeap} {Q : Value → PHeap → Prop} (hR : R80 p1 o1 a1 n1 k1 h Q) : Tri Tryz.prog 80 [vP p1 o1, vL a1 n1 k1] h Q :=
 tri_of_dn mixed Tryz.func80 rfl (by kernel_rfl) low80 (rs := [.tmp 4]) (by kernel_rfl) rfl (Eq.mpr (by kernel_rfl : dnF Tryz.prog Tryz.f80.ntmps d80 [.tmp 4] [vP p1 o1, vL a1 n1 k1] h Q = R80 p1 o1 a1 n1 k1 h Q) hR)
abbrev o81_4 : Op := .call { callee := (.builtin .append), args := #[(.tmp 28), (.tmp 31)], argTypes := #[40, 40] }
noncomputable def d81 : DCode := up ⟨[(14, .l [qi, .str]), (17, .l [.str]), (18, .c (.tup [(false, [qi]), (false, [qi])])), (28, .l [.slice]), (32, .c (.one false [.slice]))], [34], [(12, 29, [(11, qi)], [])]⟩ (low Tryz.prog (fun _ => false) (Tryz.f81.body.getD .skip))
theorem low81 : low Tryz.prog (fun _ => false) (Tryz.f81.body.getD .skip) = some (eC d81) := by kernel_rfl
def R81 (p1 : Nat) (o1 : Nat) (a1 : OA) (n1 : Nat) (k1 : Nat) (h : PHeap) (Q : Value → PHeap → Prop) : Prop :=
 ∃ (I_1 : Nat → Int → PHeap → Prop), (∃ (m2 : Nat), I_1 m2 (0 : Int) h) ∧
 ∀ (m1 : Nat) (i1 : Int) (h_1 : PHeap), I_1 m1 i1 h_1 →
 br (decide (i1 < ((n1 : Nat) : Int)))
 (∃ (b1 o2 : Nat), a1 = some ⟨b1, o2, none⟩ ∧ (0 ≤ i1 ∧ i1 < n1) ∧
 ∃ (i2 : Int) (l1 : Bs), h_1.row b1 (o2 + (i1).toNat * 2) [vI i2, vS l1] ∧
 Tri Tryz.prog 111 [vS l1, vI (-128), vI 255] h_1 fun v_1 h_2 =>
 ∃ (i3 i4 : Int), v_1 = vT [vI i3, vI i4] ∧
 br (i4 != 0)
 (Q (vI i4) h_2)
 (∃ (a2 : OA) (n2 k2 : Nat), h_2.cell p1 (o1 + 6) = some (vL a2 n2 k2) ∧
 ∀ (b2 : Nat), h_2 b2 = none → ∀ (h_3 : PHeap), h_3 = h_2.put b2 (.cells ⟨[vU (IntKind.u8.wrap (i3))]⟩ 5) →
 Raw Tryz.prog (execOp (rho [(28, vL a2 n2 k2), (31, vL (ad b2 0) 1 1)]) (mkO o81_4 40)) h_3 fun v_2 h_4 =>
 ∃ (a3 : OA) (n3 k3 : Nat), v_2 = vL a3 n3 k3 ∧
 ∃ (l2 : List Value) (t1 : TypeId) (z1 : Nat × Nat), h_4 p1 = some (.cells ⟨l2⟩ t1 z1) ∧ ((o1 + 6) + 1 ≤ l2.length ∧ z1.2 ≤ (o1 + 6)) ∧
 ∀ (h_5 : PHeap), h_5 = h_4.put p1 (.cells ⟨splice l2 (o1 + 6) [vL a3 n3 k3]⟩ t1 z1) →
 ∃ (m3 : Nat), m3 < m1 ∧ I_1 m3 (IntKind.i64.wrap (i1 + 1)) h_5 ∧
 True))
 (Q (vI 0) h_1)
theorem T81 {p1 : Nat} {o1 : Nat} {a1 : OA} {n1 : Nat} {k1 : Nat} {h : PHeap} {Q : Value → PHeap → Prop} (hR : R81 p1 o1 a1 n1 k1 h Q) : Tri Tryz.prog 81 [vP p1 o1, vL a1 n1 k1] h Q :=
 tri_of_dn mixed Tryz.func81 rfl (by kernel_rfl) low81 (rs := [.tmp 4]) (by kernel_rfl) rfl (Eq.mpr (by kernel_rfl : dnF Tryz.prog Tryz.f81.ntmps d81 [.tmp 4] [vP p1 o1, vL a1 n1 k1] h Q = R81 p1 o1 a1 n1 k1 h Q) hR)
abbrev o82_0 : Op := .call { callee := (.builtin .append), args := #[(.tmp 9), (.tmp 13)], argTypes := #[40, 9] }
noncomputable def d82 : DCode := up ⟨[(9, .l [.slice]), (13, .l [.str]), (14, .c (.one false [.slice]))], [16], []⟩ (low Tryz.prog (fun _ => false) (Tryz.f82.body.getD .skip))
theorem low82 : low Tryz.prog (fun _ => false) (Tryz.f82.body.getD .skip) = some (eC d82) := by kernel_rfl
def R82 (p1 : Nat) (o1 : Nat) (a1 : OA) (n1 : Nat) (k1 : Nat) (h : PHeap) (Q : Value → PHeap → Prop) : Prop :=
 ∃ (a2 : OA) (n2 k2 : Nat), h.cell p1 (o1 + 6) = some (vL a2 n2 k2) ∧
 ∃ (b1 o2 : Nat), a1 = some ⟨b1, o2, none⟩ ∧ (0 ≤ (0 : Int) ∧ (0 : Int) < n1) ∧
 ∃ (l1 : Bs), h.cell b1 (o2 + 1) = some (vS l1) ∧
 Raw Tryz.prog (execOp (rho [(9, vL a2 n2 k2), (13, vS l1)]) (mkO o82_0 40)) h fun v_1 h_1 =>
 ∃ (a3 : OA) (n3 k3 : Nat), v_1 = vL a3 n3 k3 ∧
 ∃ (l2 : List Value) (t1 : TypeId) (z1 : Nat × Nat), h_1 p1 = some (.cells ⟨l2⟩ t1 z1) ∧ ((o1 + 6) + 1 ≤ l2.length ∧ z1.2 ≤ (o1 + 6)) ∧
 ∀ (h_2 : PHeap), h_2 = h_1.put p1 (.cells ⟨splice l2 (o1 + 6) [vL a3 n3 k3]⟩ t1 z1) →
 Q (vI 0) h_2
theorem T82 {p1 : Nat} {o1 : Nat} {a1 : OA} {n1 : Nat} {k1 : Nat} {h : PHeap} {Q : Value → PHeap → Prop} (hR : R82 p1 o1 a1 n1 k1 h Q) : Tri Tryz.prog 82 [vP p1 o1, vL a1 n1 k1] h Q :=
 tri_of_dn mixed Tryz.func82 rfl (by kernel_rfl) low82 (rs := [.tmp 4]) (by kernel_rfl) rfl (Eq.mpr (by kernel_rfl : dnF Tryz.prog Tryz.f82.ntmps d82 [.tmp 4] [vP p1 o1, vL a1 n1 k1] h Q = R82 p1 o1 a1 n1 k1 h Q) hR)
abbrev o83_3 : Op := .call { callee := (.builtin .append), args := #[(.tmp 22), (.tmp 23)], argTypes := #[40, 3] }
noncomputable def d83 : DCode := up ⟨[(11, .l [.str]), (12, .c (.tup [(false, [qi]), (false, [qi])])), (22, .l [.slice]), (24, .c (.one false [.slice]))], [26], []⟩ (low Tryz.prog (fun _ => false) (Tryz.f83.body.getD .skip))
theorem low83 : low Tryz.prog (fun _ => false) (Tryz.f83.body.getD .skip) = some (eC d83) := by kernel_rfl
def R83 (p1 : Nat) (o1 : Nat) (a1 : OA) (n1 : Nat) (k1 : Nat) (h : PHeap) (Q : Value → PHeap → Prop) : Prop :=
 ∃ (b1 o2 : Nat), a1 = some ⟨b1, o2, none⟩ ∧ (0 ≤ (0 : Int) ∧ (0 : Int) < n1) ∧
 ∃ (l1 : Bs), h.cell b1 (o2 + 1) = some (vS l1) ∧
 Tri Tryz.prog 111 [vS l1, vI 0, vI 4096] h fun v_1 h_1 =>
 ∃ (i1 i2 : Int), v_1 = vT [vI i1, vI i2] ∧
 br (i2 != 0)
 (Q (vI i2) h_1)
 (∃ (a2 : OA) (n2 k2 : Nat), h_1.cell p1 (o1 + 6) = some (vL a2 n2 k2) ∧
 Raw Tryz.prog (execOp (rho [(22, vL a2 n2 k2), (23, vI i1)]) (mkO o83_3 40)) h_1 fun v_2 h_2 =>
 ∃ (a3 : OA) (n3 k3 : Nat), v_2 = vL a3 n3 k3 ∧
 ∃ (l2 : List Value) (t1 : TypeId) (z1 : Nat × Nat), h_2 p1 = some (.cells ⟨l2⟩ t1 z1) ∧ ((o1 + 6) + 1 ≤ l2.length ∧ z1.2 ≤ (o1 + 6)) ∧
 ∀ (h_3 : PHeap), h_3 = h_2.put p1 (.cells ⟨splice l2 (o1 + 6) [vL a3 n3 k3]⟩ t1 z1) →
 Q (vI 0) h_3)
theorem T83 {p1 : Nat} {o1 : Nat} {a1 : OA} {n1 : Nat} {k1 : Nat} {h : PHeap} {Q : Value → PHeap → Prop} (hR : R83 p1 o1 a1 n1 k1 h Q) : Tri Tryz.prog 83 [vP p1 o1, vL a1 n1 k1] h Q :=
 tri_of_dn mixed Tryz.func83 rfl (by kernel_rfl) low83 (rs := [.tmp 4]) (by kernel_rfl) rfl (Eq.mpr (by kernel_rfl : dnF Tryz.prog Tryz.f83.ntmps d83 [.tmp 4] [vP p1 o1, vL a1 n1 k1] h Q = R83 p1 o1 a1 n1 k1 h Q) hR)
end Go.Proofs.D
namespace Go.Proofs.D
open Go Go.Den Go.As
set_option maxRecDepth 100000
theorem u32_wrap (n : Int) : IntKind.u32.wrap n = n % 4294967296 := by
 simp [IntKind.wrap, IntKind.bits, IntKind.signed]
theorem u8_wrap (n : Int) : IntKind.u8.wrap n = n % 256 := by
 simp [IntKind.wrap, IntKind.bits, IntKind.signed]
attribute [local irreducible] IntKind.wrap Tri
section
variable {e k : Nat} {h0 h : PHeap} {a : OA} {n c : Nat} {css : List (List Value)}
theorem LM.open (hM : LM e k h0 h a n c css) (hn : 0 < n) : ∃ b rest, a = ad b 0 ∧ h b = some (.cells ⟨css.flatten ++ rest⟩ e (0, 0)) ∧ rest.length = (c - n) * k ∧ n ≤ c ∧ css.flatten.length = n * k := by
 rcases hM.row.2 with ⟨_, h1⟩ | ⟨b, cap, rest, h1, h2, h3, h4⟩
 · omega
 · injection h1 with h1 _ h5
   subst h5
   exact ⟨b, rest, h1, h2, h3, h4, hM.row.1⟩
theorem LM.write {b : Nat} {rest : List Value} {css' : List (List Value)} (hM : LM e k h0 h (ad b 0) n c css) (hb : h b = some (.cells ⟨css.flatten ++ rest⟩ e (0, 0))) (hr : rest.length = (c - n) * k) (hc : n ≤ c) (hn : 0 < n) (hl : css'.length = n) (each : ∀ cs ∈ css', cs.length = k) :
 LM e k h0 (h.put b (.cells ⟨css'.flatten ++ rest⟩ e (0, 0))) (ad b 0) n c css' := by
 have hf : css'.flatten.length = n * k := by
  rw [← hl]
  clear hl
  induction css' with
  | nil => simp
  | cons x l ih => rw [List.flatten_cons, List.length_append, ih fun y hy => each y (List.mem_cons_of_mem _ hy), each x (List.mem_cons_self ..), List.length_cons, Nat.add_mul]; omega
 refine ⟨fun q hq => ?_, hl, fun j cs hj => each cs (List.mem_of_getElem? hj), ⟨hf, .inr ⟨b, c, rest, rfl, put_same _ _ _, hr, hc⟩⟩, fun h => by omega⟩
 injection hq with hq; injection hq with hq; subst hq
 exact ⟨(hM.own b rfl).1, by rw [put_same]; exact fun e => by cases e⟩
theorem raw_copy {t elem ty : TypeId} {b o dl dc s sc : Nat} {cur cs : List Value} {et : TypeId} {ρ : Operand → Value} {cl : Call} {x y : Operand} (hcl : cl.callee = .builtin .copy) (hca : cl.args = #[x, y]) (hts : cl.argTypes = #[t, t])
 (hu : Tryz.prog.underlying t = some (.slice elem)) (hsz : (Tryz.prog.info? elem).map (·.size) = some 1) (hx : ρ x = vL (ad b o) dl dc) (hy : ρ y = vL (ad s 0) cs.length sc) (hb : h b = some (.cells ⟨cur⟩ et (0, 0))) (hs : h.row s 0 cs) (hn : cs.length ≤ dl) (hfit : o + cs.length ≤ cur.length)
 (h1 : allOne cs = true) : Raw Tryz.prog (execOp ρ (mkO (.call cl) ty)) h fun v h' => v = vI (cs.length : Int) ∧ h' = h.put b (.cells ⟨splice cur o cs⟩ et (0, 0)) := by
 intro w hsub
 have hrun := run_copy_row (P := Tryz.prog) w t t ty elem b o dl dc ⟨s, 0, none⟩ cs.length sc ⟨cur⟩ et cs hu hsz (hsub _ _ hb) (Nat.min_eq_left hn).symm (fun j v hj => hsub.row hs j v hj) (by simpa using hfit) (allOne_mem h1)
 have hexec : (execOp ρ (mkO (.call cl) ty)).run Tryz.prog w = ((Builtin.copy_ #[t, t] ty #[vL (ad b o) dl dc, vL (ad s 0) cs.length sc]).run Tryz.prog w).andThen fun v w' => .ok (.value v) w' := by
  simp [execOp, mkO, resolve, hcl, hca, hts, hx, hy, invoke, builtin]
 rw [hexec, hrun]
 refine ⟨_, _, _, h.put b (.cells ⟨splice cur o cs⟩ et (0, 0)), rfl, .inl rfl, ⟨rfl, rfl⟩, ?_, ?_⟩
 · intro k o' hk
   simp only [PHeap.put] at hk
   split at hk
   · rename_i e1; subst e1; cases hk
     exact setRow_heap _ _ _ _ _ _ (hsub _ _ hb)
   · rename_i e1
     rw [setRow_other _ _ _ _ e1]; exact hsub _ _ hk
 · refine ⟨rfl, rfl, rfl, by rw [size_setRow]; exact Nat.le_refl _, fun k hk hn => ?_⟩
   have : k ≠ b := fun e => by subst e; rw [hb] at hn; cases hn
   exact ⟨by simp only [PHeap.put]; rw [if_neg this]; exact hn, setRow_other _ _ _ _ this⟩
end
theorem flatten_modify (k : Nat) : ∀ (css : List (List Value)) (j i : Nat) (v : Value) (rest : List Value), (∀ cs ∈ css, cs.length = k) → j < css.length → i < k → splice (css.flatten ++ rest) (j * k + i) [v] = (css.modify j fun cs => splice cs i [v]).flatten ++ rest
 | [], j, _, _, _, _, hj, _ => by simp at hj
 | c :: css, 0, i, v, rest, hl, _, hi => by
   have hc := hl c (List.mem_cons_self ..)
   rw [Nat.zero_mul, Nat.zero_add, List.modify_zero_cons, List.flatten_cons, List.flatten_cons]
   simp only [splice, List.length_cons, List.length_nil]
   rw [List.append_assoc c css.flatten rest, List.take_append_of_le_length (by omega), List.drop_append_of_le_length (by omega)]
   simp
 | c :: css, j + 1, i, v, rest, hl, hj, hi => by
   have hc := hl c (List.mem_cons_self ..)
   have ih := flatten_modify k css j i v rest (fun x hx => hl x (List.mem_cons_of_mem _ hx)) (by simpa using hj) hi
   rw [List.modify_succ_cons, List.flatten_cons, List.flatten_cons, List.append_assoc c css.flatten rest, List.append_assoc c, ← ih]
   simp only [splice, List.length_cons, List.length_nil]
   have e1 : (j + 1) * k + i = c.length + (j * k + i) := by rw [hc, Nat.add_mul]; omega
   rw [e1, List.take_append, List.take_of_length_le (by omega), Nat.add_sub_cancel_left, show c.length + (j * k + i) + (0 + 1) = c.length + (j * k + i + (0 + 1)) by omega, List.drop_append, List.drop_of_length_le (by omega), Nat.add_sub_cancel_left]
   simp
theorem inL_setC : ∀ (l : List Ins) (j : Nat) (n : Int), (inL l).modify j (fun cs => splice cs 3 [vI n]) = inL (setC l j n)
 | [], j, n => by cases j <;> rfl
 | x :: l, 0, n => rfl
 | x :: l, j + 1, n => by
   have := inL_setC l j n
   unfold inL setC at *
   rw [List.map_cons, List.modify_succ_cons, List.modify_succ_cons, List.map_cons, this]
theorem decB_range {d : Bytes} {m : Nat} (h : decB d = some m) : m < 10000000000 := by
 unfold decB at h
 split at h
 · cases h
 · rename_i hc
   injection h with h
   subst h
   have h2 : d.all digitB = true := by
    cases e : d.all digitB with
    | true => rfl
    | false => exact absurd (.inr (.inr e)) hc
   rw [← numV_dec h2]
   exact numV_lt10 h2 (by omega)
theorem number_range {t : Bytes} {n : Int} (h : numberS t = some n) : -10000000000 < n ∧ n < 10000000000 := by
 unfold numberS at h
 split at h
 · rename_i d
   split at h
   · cases h
   · rename_i hc
     injection h with h
     have h2 : d.all hexB = true := by
      cases e : d.all hexB with
      | true => rfl
      | false => exact absurd (.inr (.inr e)) hc
     have := numV_lt16 h2 (by omega)
     rw [numV_hex] at this
     omega
 · rename_i d
   cases hd : decB d with
   | none => rw [hd] at h; cases h
   | some m =>
     rw [hd] at h
     have := decB_range hd
     have h : -(m : Int) = n := by simpa using h
     omega
 · rename_i d _ _
   cases hd : decB t with
   | none => rw [hd] at h; cases h
   | some m =>
     rw [hd] at h
     have := decB_range hd
     have h : (m : Int) = n := by simpa using h
     omega
section
variable (h : PHeap)
def litV (r : As.R Int) : Value := match r with
 | .error e => vT [vI 0, vI (e : Int)]
 | .ok n => vT [vI n, vI 0]
theorem literal_t (t : Bytes) (low high : Int) (hl : t.length ≤ 1000000) : Tri Tryz.prog 111 [vS t, vI low, vI high] h fun v h' => v = litV (literalS t low high) ∧ Ext h h' := by
 refine T111 ?_
 unfold R111
 refine Tri.mono (number_t h t hl) ?_
 rintro _ h1 ⟨rfl, hx⟩
 unfold numVal literalS
 cases numberS t with
 | none => exact ⟨_, _, rfl, br_pos rfl ⟨rfl, hx⟩⟩
 | some n =>
   refine ⟨_, _, rfl, br_neg rfl (br_split (fun e => ⟨?_, hx⟩) fun e1 => br_split (fun e => ⟨?_, hx⟩) fun e2 => ⟨?_, hx⟩)⟩
   · have := of_decide_eq_true e
     simp only; rw [if_pos (.inl this)]; rfl
   · have := of_decide_eq_true e
     simp only; rw [if_pos (.inr this)]; rfl
   · have := of_decide_eq_false e1
     have := of_decide_eq_false e2
     simp only; rw [if_neg (by omega)]; rfl
theorem und72 : Tryz.prog.underlying 72 = some (.slice 78) := rfl
theorem elem78 : ElemT 78 2 := ⟨_, _, rfl, rfl, rfl, rfl, by decide⟩
theorem und22 : Tryz.prog.underlying 22 = some (.slice 58) := rfl
theorem elem58 : ElemT 58 4 := ⟨_, _, rfl, rfl, rfl, rfl, by decide⟩
def ValP (hb : PHeap) (p mS : Nat) (a : As.St) (r : As.R (Int × List Us)) (v : Value) (h' : PHeap) : Prop :=
 match r with
 | .error e => v = vT [vI 0, vI (e : Int)] ∧ e ≠ 0 ∧ ∃ hb', Ext hb hb' ∧ AS hb' h' p mS a
 | .ok (n, us) => v = vT [vI n, vI 0] ∧ ∃ hb', Ext hb hb' ∧ AS hb' h' p mS { a with uses := a.uses ++ us }
theorem value_t {hb : PHeap} {p mS : Nat} {a : As.St} {h : PHeap} {t : Bytes} {low high : Int} {kind idx f : Nat} {y : List Value} (hA : AS hb h p mS a) (hl : t.length ≤ 1000000) (hU : a.uses.length ≤ 8000000) (hP : PutAt hb p kind idx f y) (lowR highR : Int)
 (hlow : low = (if kind = 2 then -4611686018427387904 else lowR)) (hhigh : high = (if kind = 2 then 4611686018427387904 else highR)) (h2 : kind = 2 → lowR = -9999999999 ∧ highR = 9999999999) :
 Tri Tryz.prog 110 [vP p 0, vS t, vI low, vI high, vF f [] y] h fun v h' => ValP hb p mS a (valueS a.line t kind idx lowR highR) v h' := by
 refine T110 ?_
 unfold R110
 intro b1 hb1 h1 hh1 b2 hb2 h2' hh2 b3 hb3 h3 hh3 b4 hb4 h4 hh4 b5 hb5 h5 hh5
 have x1 := Put.ext hh1 hb1
 have x2 := Put.ext hh2 hb2
 have x3 := Put.ext hh3 hb3
 have x4 := Put.ext hh4 hb4
 have x5 := Put.ext hh5 hb5
 have x25 := ((x2.trans x3).trans x4).trans x5
 have hc1 : h5 b1 = some (.cells ⟨[vP p 0]⟩ 68 (0, 0)) := x25 _ _ (Put.at hh1)
 have hc2 : h5 b2 = some (.cells ⟨[vS t]⟩ 9 (0, 0)) := ((x3.trans x4).trans x5) _ _ (Put.at hh2)
 have hc3 : h5 b3 = some (.cells ⟨[vI low]⟩ 3 (0, 0)) := (x4.trans x5) _ _ (Put.at hh3)
 have hc4 : h5 b4 = some (.cells ⟨[vI high]⟩ 3 (0, 0)) := x5 _ _ (Put.at hh4)
 have hc5 : h5 b5 = some (.cells ⟨[vF f [] y]⟩ 150 (0, 0)) := Put.at hh5
 have hx5 := x1.trans x25
 have n1 : h b1 = none := hb1
 have n2 : h b2 = none := x1.dom _ hb2
 have n3 : h b3 = none := (x1.trans x2).dom _ hb3
 have n4 : h b4 = none := ((x1.trans x2).trans x3).dom _ hb4
 have n5 : h b5 = none := (((x1.trans x2).trans x3).trans x4).dom _ hb5
 clear hh1 hh2 hh3 hh4 hh5 x1 x2 x3 x4 x5 x25 hb1 hb2 hb3 hb4 hb5 h1 h2' h3 h4
 refine ⟨_, cell_of hc2 0, ?_⟩
 refine Tri.mono (number_t h5 t hl) ?_
 rintro _ h6 ⟨rfl, hx6⟩
 have c1 : h6.cell b1 0 = some (vP p 0) := cell_of (hx6 _ _ hc1) 0
 have c2 : h6.cell b2 0 = some (vS t) := cell_of (hx6 _ _ hc2) 0
 have c3 : h6.cell b3 0 = some (vI low) := cell_of (hx6 _ _ hc3) 0
 have c4 : h6.cell b4 0 = some (vI high) := cell_of (hx6 _ _ hc4) 0
 unfold numVal
 cases hnum : numberS t with
 | some n =>
   have hn := number_range hnum
   refine ⟨_, _, rfl, br_pos rfl ⟨_, c3, ?_⟩⟩
   have hA6 := hA.grow (hx5.trans hx6)
   have hval : valueS a.line t kind idx lowR highR = if n < lowR ∨ highR < n then .error 2 else .ok (n, []) := by unfold valueS; rw [hnum]
   have err : (n < lowR ∨ highR < n) → ValP hb p mS a (valueS a.line t kind idx lowR highR) (vT [vI 0, vI 2]) h6 := fun hc => by
    rw [hval, if_pos hc]
    exact ⟨rfl, by decide, hb, Ext.refl _, hA6⟩
   refine br_split (fun e => err (.inl ?_)) fun e1 => ⟨_, c4, br_split (fun e => err (.inr ?_)) fun e2 => ?_⟩
   · have := of_decide_eq_true e
     rw [hlow] at this
     split at this
     · omega
     · exact this
   · have := of_decide_eq_true e
     rw [hhigh] at this
     split at this
     · omega
     · exact this
   · have g1 := of_decide_eq_false e1
     have g2 := of_decide_eq_false e2
     have : ¬ (n < lowR ∨ highR < n) := by
      by_cases hk : kind = 2
      · have := h2 hk; omega
      · rw [hlow, if_neg hk] at g1
        rw [hhigh, if_neg hk] at g2
        omega
     rw [hval, if_neg this]
     refine ⟨rfl, hb, Ext.refl _, ?_⟩
     simp only [List.append_nil]
     exact hA6
 | none =>
   refine ⟨_, _, rfl, br_neg rfl ⟨_, c2, ?_⟩⟩
   refine Tri.mono (label_t h6 t) ?_
   rintro _ h6 ⟨rfl, rfl⟩
   refine ⟨_, rfl, br_split (fun e => ?_) fun e => ?_⟩
   · rw [show valueS a.line t kind idx lowR highR = .error 3 by unfold valueS; rw [hnum]; simp only; rw [if_neg (by rw [not_f e]; decide)]]
     exact ⟨rfl, by decide, hb, Ext.refl _, hA.grow (hx5.trans hx6)⟩
   · have hval : valueS a.line t kind idx lowR highR = .ok (0, [⟨a.line, kind, idx, lowR, highR, t⟩]) := by unfold valueS; rw [hnum]; simp only; rw [if_pos (not_t e)]
     obtain ⟨hb', hbx, hA', hin⟩ := hA.rebase (hx5.trans hx6)
     have d1 := hin b1 _ n1 (hx6 _ _ hc1)
     have d2 := hin b2 _ n2 (hx6 _ _ hc2)
     have d3 := hin b3 _ n3 (hx6 _ _ hc3)
     have d4 := hin b4 _ n4 (hx6 _ _ hc4)
     have d5 := hin b5 _ n5 (hx6 _ _ hc5)
     obtain ⟨K, hK⟩ := hA'
     have p12 : h6.cell p 12 = some (vL K.ua a.uses.length K.uc) := by rw [PA_cell hK.obj]; rfl
     have p11 : h6.cell p 11 = some (vI (a.line : Int)) := by rw [PA_cell hK.obj]; rfl
     refine ⟨_, _, c1, _, _, c1, _, _, _, (by rw [Nat.zero_add]; exact p12), _, _, c1, _, (by rw [Nat.zero_add]; exact p11), ?_⟩
     intro b6 hb6 h8 hh8
     have x8 := Put.ext hh8 hb6
     have hK8 := hK.grow x8
     refine ⟨by rw [Nat.zero_add]; exact cell_ext (fun ob => x8 p ob) p11, cell_ext (fun ob => x8 b1 ob) c1, by rw [Nat.zero_add]; exact cell_ext (fun ob => x8 p ob) p12, cell_ext (fun ob => x8 b1 ob) c1, cell_ext (fun ob => x8 b1 ob) c1, ?_⟩
     refine Raw.mono (LM.push und72 elem78 rfl rfl rfl rfl rfl hK.ext hK.uses hb6 hh8 rfl rfl (by omega)) ?_
     rintro _ h9 ⟨b7, cap, rfl, hx9, hM9, hg⟩
     have hp9 : h9 p = h8 p := hg.ne (hK8.uses) hK8.obj (notE_cells (by decide) _ _)
     have p11' : h9.cell p 11 = some (vI (a.line : Int)) := by rw [cell_eq hp9]; exact cell_ext (fun ob => x8 p ob) p11
     have c1' : h9.cell b1 0 = some (vP p 0) := cell_ext (fun ob hob => hx9 _ _ (by rw [d1]; rw [hx6 _ _ hc1] at hob; exact hob)) c1
     refine ⟨_, _, _, rfl, by rw [Nat.zero_add]; exact p11', c1', c1', c1', _, _, _, by rw [hp9]; exact hK8.obj, ⟨by simp, Nat.zero_le _⟩, ?_⟩
     rintro h10 rfl
     rw [hval]
     refine ⟨rfl, hb', hbx, ?_⟩
     have hU8 : UsesAt hb' p (a.uses ++ [⟨a.line, kind, idx, lowR, highR, t⟩]) (K.ul ++ [[vI (a.line : Int), vF 142 [] [vP b1 0, vP b2 0, vP b3 0, vP b4 0, vP b5 0]]]) := by
      refine hK.useAt.snoc ⟨b1, b2, b3, b4, b5, f, y, rfl, cell_of d1 0, cell_of d2 0, ?_, ?_, cell_of d5 0, hP.ext hbx⟩
      · rw [cell_of d3 0]; unfold lowM; rw [hlow]; rfl
      · rw [cell_of d4 0]; unfold highM; rw [hhigh]; rfl
     have hne78 : NotE 78 (PA mS K.ca a.p.code.length K.cc a.p.zero a.p.entry K.da a.p.data.length K.dc a.inData a.hasEntry a.hasZero K.mb a.line K.ua a.uses.length K.uc) := notE_cells (by decide) _ _
     have hmb : K.mb ≠ p := fun e => by
      have := hK.labs
      rw [e, hK.obj] at this; cases this
     have hobj9 : h9 p = some (PA mS K.ca a.p.code.length K.cc a.p.zero a.p.entry K.da a.p.data.length K.dc a.inData a.hasEntry a.hasZero K.mb a.line K.ua a.uses.length K.uc) := by rw [hp9]; exact hK8.obj
     refine ⟨⟨K.ca, K.cc, K.da, K.dc, ad b7 0, cap, K.mb, K.ul ++ [[vI (a.line : Int), vF 142 [] [vP b1 0, vP b2 0, vP b3 0, vP b4 0, vP b5 0]]]⟩, ?_⟩
     refine ⟨fun q o hq => ?_, hK.new, ?_, ?_, ?_, ?_, hU8, hK.mnew, ?_⟩
     · rw [put_ne fun e => by subst e; rw [hK.new] at hq; cases hq]; exact hx9 _ _ hq
     · rw [put_same]; simp [PA, splice]
     · exact (hK8.code.other hK8.uses (by decide) hg).put hobj9 (notE_cells (by decide) _ _)
     · exact (hK8.data.other hK8.uses (by decide) hg).put hobj9 (notE_cells (by decide) _ _)
     · have := hM9.put (o' := PA mS K.ca a.p.code.length K.cc a.p.zero a.p.entry K.da a.p.data.length K.dc a.inData a.hasEntry a.hasZero K.mb a.line (ad b7 0) (a.uses.length + 1) cap) hobj9 hne78
       simp only [List.length_append, List.length_cons, List.length_nil]
       exact this
     · rw [put_ne hmb, hg.ne hK8.uses hK8.labs (notE_map _ _)]; exact hK8.labs
end
end Go.Proofs.D
namespace Go.Proofs.D
open Go Go.Den Go.As
set_option maxRecDepth 100000
theorem word_bytes (n : Int) : [IntKind.u8.wrap (IntKind.u32.wrap n), IntKind.u8.wrap (Int.fdiv (IntKind.u32.wrap n) 256), IntKind.u8.wrap (Int.fdiv (IntKind.u32.wrap n) 65536), IntKind.u8.wrap (Int.fdiv (IntKind.u32.wrap n) 16777216)] = (wordOf n).map fun c => (c.toNat : Int) := by
 have h0 : 0 ≤ n % 4294967296 := Int.emod_nonneg _ (by decide)
 unfold wordOf
 simp only [u8_wrap, u32_wrap, List.map_cons, List.map_nil, UInt8.toNat_ofNat']
 have hd : ∀ k : Int, 0 ≤ k → Int.fdiv (n % 4294967296) k = (n % 4294967296) / k := fun k hk => Int.fdiv_eq_ediv_of_nonneg _ hk
 rw [hd 256 (by decide), hd 65536 (by decide), hd 16777216 (by decide)]
 refine congr (congrArg List.cons ?_) (congr (congrArg List.cons ?_) (congr (congrArg List.cons ?_) (congrArg (fun x => [x]) ?_))) <;> omega
attribute [local irreducible] IntKind.wrap Tri
section
variable {hb h : PHeap} {p mS : Nat} {a : As.St} {K : AK}
theorem notP (e : Nat) (he : 74 ≠ e) {ca : OA} {cn cc : Nat} {zero entry : Int} {da : OA} {dn dc : Nat} {ind he' hz : Bool} {mb : Nat} {line : Int} {ua : OA} {un uc : Nat} : NotE e (PA mS ca cn cc zero entry da dn dc ind he' hz mb line ua un uc) := notE_cells he _ _
theorem ASK.mbp (hA : ASK hb h p mS a K) : K.mb ≠ p := fun e => by
 have := hA.labs
 rw [e, hA.obj] at this; cases this
theorem ASK.appData {h9 : PHeap} {b m cap : Nat} {l : Bytes} {o : Obj} (hA : ASK hb h p mS a K) (hm : l.length = m) (hx9 : Ext hb h9) (hM9 : LM 5 1 hb h9 (ad b 0) (a.p.data.length + m) cap (bL a.p.data ++ bL l)) (hg : Grows K.da h h9 b)
 (ho : o = PA mS K.ca a.p.code.length K.cc a.p.zero a.p.entry (ad b 0) (a.p.data.length + m) cap a.inData a.hasEntry a.hasZero K.mb a.line K.ua a.uses.length K.uc) :
 h9 p = h p ∧ ASK hb (h9.put p o) p mS { a with p := { a.p with data := a.p.data ++ l } } { K with da := ad b 0, dc := cap } := by
 subst ho; subst hm
 have hp9 : h9 p = h p := hg.ne hA.data hA.obj (notP 5 (by decide))
 have hobj9 : h9 p = some (PA mS K.ca a.p.code.length K.cc a.p.zero a.p.entry K.da a.p.data.length K.dc a.inData a.hasEntry a.hasZero K.mb a.line K.ua a.uses.length K.uc) := by rw [hp9]; exact hA.obj
 refine ⟨hp9, fun q o hq => ?_, hA.new, ?_, ?_, ?_, ?_, hA.useAt, hA.mnew, ?_⟩
 · rw [put_ne fun e => by subst e; rw [hA.new] at hq; cases hq]; exact hx9 _ _ hq
 · rw [put_same]; simp
 · exact (hA.code.other hA.data (by decide) hg).put hobj9 (notP 58 (by decide))
 · simp only [List.length_append]
   rw [bL_app]
   exact hM9.put hobj9 (notP 5 (by decide))
 · exact (hA.uses.other hA.data (by decide) hg).put hobj9 (notP 78 (by decide))
 · rw [put_ne hA.mbp, hg.ne hA.data hA.labs (notE_map _ _)]; exact hA.labs
theorem ASK.appCode {h9 : PHeap} {b cap : Nat} {x : Ins} {o : Obj} (hA : ASK hb h p mS a K) (hx9 : Ext hb h9) (hM9 : LM 58 4 hb h9 (ad b 0) (a.p.code.length + 1) cap (inL a.p.code ++ [insC x])) (hg : Grows K.ca h h9 b)
 (ho : o = PA mS (ad b 0) (a.p.code.length + 1) cap a.p.zero a.p.entry K.da a.p.data.length K.dc a.inData a.hasEntry a.hasZero K.mb a.line K.ua a.uses.length K.uc) :
 h9 p = h p ∧ ASK hb (h9.put p o) p mS { a with p := { a.p with code := a.p.code ++ [x] } } { K with ca := ad b 0, cc := cap } := by
 subst ho
 have hp9 : h9 p = h p := hg.ne hA.code hA.obj (notP 58 (by decide))
 have hobj9 : h9 p = some (PA mS K.ca a.p.code.length K.cc a.p.zero a.p.entry K.da a.p.data.length K.dc a.inData a.hasEntry a.hasZero K.mb a.line K.ua a.uses.length K.uc) := by rw [hp9]; exact hA.obj
 refine ⟨hp9, fun q o hq => ?_, hA.new, ?_, ?_, ?_, ?_, hA.useAt, hA.mnew, ?_⟩
 · rw [put_ne fun e => by subst e; rw [hA.new] at hq; cases hq]; exact hx9 _ _ hq
 · rw [put_same]; simp
 · have e : inL (a.p.code ++ [x]) = inL a.p.code ++ [insC x] := by simp [inL]
   simp only [List.length_append, List.length_cons, List.length_nil]
   rw [e]
   exact hM9.put hobj9 (notP 58 (by decide))
 · exact (hA.data.other hA.code (by decide) hg).put hobj9 (notP 5 (by decide))
 · exact (hA.uses.other hA.code (by decide) hg).put hobj9 (notP 78 (by decide))
 · rw [put_ne hA.mbp, hg.ne hA.code hA.labs (notE_map _ _)]; exact hA.labs
theorem put109_k {c : Nat} {n : Int} (hA : ASK hb h p mS a K) (hc : hb.cell c 0 = some (vP p 0)) : Tri Tryz.prog 109 [vI n, vP c 0] h fun v h' => v = vT [] ∧ ASK hb h' p mS { a with p := { a.p with entry := n } } K := by
 refine T109 ?_
 unfold R109
 refine ⟨_, _, cell_ext (fun ob => hA.ext c ob) hc, _, _, _, hA.obj, ⟨by simp, Nat.zero_le _⟩, ?_⟩
 rintro _ rfl
 exact ⟨rfl, hA.set (a' := { a with p := { a.p with entry := n } }) rfl rfl rfl rfl rfl⟩
theorem put115_k {c d idx : Nat} {n : Int} (hA : ASK hb h p mS a K) (hc : hb.cell c 0 = some (vP p 0)) (hd : hb.cell d 0 = some (vI (idx : Int))) (hi : idx < a.p.code.length) :
 Tri Tryz.prog 115 [vI n, vP c 0, vP d 0] h fun v h' => v = vT [] ∧ ASK hb h' p mS { a with p := { a.p with code := setC a.p.code idx n } } K := by
 obtain ⟨b, rest, hca, hbk, hr, hcc, hfl⟩ := hA.code.open (by omega)
 refine T115 ?_
 unfold R115
 refine ⟨_, _, cell_ext (fun ob => hA.ext c ob) hc, _, _, _, (by rw [PA_cell hA.obj]; rfl), _, cell_ext (fun ob => hA.ext d ob) hd, b, 0, hca, ⟨by omega, by omega⟩, _, _, _, hbk, ⟨?_, Nat.zero_le _⟩, ?_⟩
 · rw [Int.toNat_natCast, List.length_append, hfl]
   have : (idx + 1) * 4 ≤ a.p.code.length * 4 := Nat.mul_le_mul_right _ hi
   omega
 rintro _ rfl
 have hM := hA.code
 have each : ∀ cs ∈ inL a.p.code, cs.length = 4 := fun cs hcs => by obtain ⟨x, _, rfl⟩ := List.mem_map.1 hcs; rfl
 have hsp := flatten_modify 4 (inL a.p.code) idx 3 (vI n) rest each (by simpa [inL] using hi) (by decide)
 rw [Int.toNat_natCast, Nat.zero_add, hsp, inL_setC]
 have hl2 : (setC a.p.code idx n).length = a.p.code.length := by simp [setC]
 have hM2 : LM 58 4 hb (h.put b (.cells ⟨(inL (setC a.p.code idx n)).flatten ++ rest⟩ 58 (0, 0))) K.ca a.p.code.length K.cc (inL (setC a.p.code idx n)) := by
  rw [hca] at hM ⊢
  exact hM.write hbk hr hcc (by omega) (by rw [inL, List.length_map, hl2]) (fun cs hcs => by obtain ⟨x, _, rfl⟩ := List.mem_map.1 hcs; rfl)
 have hbp : b ≠ p := hM.ne hA.obj (notP 58 (by decide)) b hca
 have hbm : b ≠ K.mb := hM.ne hA.labs (notE_map _ _) b hca
 refine ⟨rfl, fun q o hq => ?_, hA.new, ?_, ?_, ?_, ?_, hA.useAt, hA.mnew, ?_⟩
 · rw [put_ne fun e => by subst e; rw [(hM.own q hca).1] at hq; cases hq]; exact hA.ext _ _ hq
 · rw [put_ne (Ne.symm hbp)]; simp only [hl2]; exact hA.obj
 · simp only [hl2]; exact hM2
 · exact hA.data.put hbk (notE_cells (by decide) _ _)
 · exact hA.uses.put hbk (notE_cells (by decide) _ _)
 · rw [put_ne (Ne.symm hbm)]; exact hA.labs
theorem unsigned_t (n : Int) : Tri Tryz.prog 113 [vI n] h fun v h' => v = .int .u32 (IntKind.u32.wrap n) ∧ h' = h := by
 refine T113 ?_
 unfold R113
 exact ⟨rfl, rfl⟩
theorem vU_word (n : Int) : [vU (IntKind.u8.wrap (IntKind.u32.wrap n)), vU (IntKind.u8.wrap (Int.fdiv (IntKind.u32.wrap n) 256)), vU (IntKind.u8.wrap (Int.fdiv (IntKind.u32.wrap n) 65536)), vU (IntKind.u8.wrap (Int.fdiv (IntKind.u32.wrap n) 16777216))] = (wordOf n).map byteV := by
 have := congrArg (List.map vU) (word_bytes n)
 rw [List.map_map] at this
 exact this
theorem wordOf_len (n : Int) : (wordOf n).length = 4 := rfl
theorem put112_k {c d idx : Nat} {n : Int} (hA : ASK hb h p mS a K) (hc : hb.cell c 0 = some (vP p 0)) (hd : hb.cell d 0 = some (vI (idx : Int))) (hi : idx + 4 ≤ a.p.data.length) :
 Tri Tryz.prog 112 [vI n, vP c 0, vP d 0] h fun v h' => v = vT [] ∧ ASK hb h' p mS { a with p := { a.p with data := putW a.p.data idx n } } K := by
 obtain ⟨b, rest, hda, hbk, hr, hcc, hfl⟩ := hA.data.open (by omega)
 have hM := hA.data
 refine T112 ?_
 unfold R112
 refine Tri.mono (unsigned_t n) ?_
 rintro _ h ⟨rfl, rfl⟩
 refine ⟨_, rfl, _, _, cell_ext (fun ob => hA.ext c ob) hc, _, _, _, (by rw [PA_cell hA.obj]; rfl), _, cell_ext (fun ob => hA.ext d ob) hd, ⟨.inl ⟨b, 0, hda⟩, by omega, by omega, by omega⟩, ?_⟩
 intro a2 hs2 b1 hb1 h2 hh2
 have x2 := Put.ext hh2 hb1
 have hA2 := hA.grow x2
 obtain ⟨o', ha2, ho'⟩ := hs2.1 b 0 hda
 have ho' := ho' (.inl (by omega))
 rw [Int.toNat_natCast, Nat.zero_add, Nat.mul_one] at ho'
 have ho' := ho'.symm
 subst ho'
 rw [vU_word] at hh2
 refine ⟨cell_ext (fun ob => x2 d ob) (cell_ext (fun ob => hA.ext d ob) hd), (by rw [PA_cell hA2.obj]; rfl), cell_ext (fun ob => x2 c ob) (cell_ext (fun ob => hA.ext c ob) hc), ?_⟩
 have hbk2 := x2 _ _ hbk
 refine Raw.mono (raw_copy (dl := ((a.p.data.length : Int).toNat - ((idx : Nat) : Int).toNat)) (dc := K.dc - ((idx : Nat) : Int).toNat) (sc := 4) (b := b) (o := ((idx : Nat) : Int).toNat) (s := b1) (cs := (wordOf n).map byteV) rfl rfl rfl und40 rfl (by rw [ha2]; rfl) rfl hbk2 (row_lit (Put.at hh2) fun j v hj => by rw [Nat.zero_add]; exact hj) (by simp [wordOf_len]; omega) (by simp [wordOf_len, hfl]; omega) rfl) ?_
 rintro _ h3 ⟨rfl, rfl⟩
 have hM2 := hA2.data
 have hl2 : (putW a.p.data idx n).length = a.p.data.length := by simp [putW, wordOf_len]; omega
 have hcur : splice ((bL a.p.data).flatten ++ rest) ((idx : Nat) : Int).toNat ((wordOf n).map byteV) = (bL (putW a.p.data idx n)).flatten ++ rest := by
  rw [bL_flat, bL_flat, Int.toNat_natCast]
  unfold splice putW
  simp only [List.length_map, wordOf_len]
  rw [List.take_append_of_le_length (by simp; omega), List.drop_append_of_le_length (by simp; omega)]
  simp
 rw [hcur]
 have hM3 : LM 5 1 hb (h2.put b (.cells ⟨(bL (putW a.p.data idx n)).flatten ++ rest⟩ 5 (0, 0))) K.da a.p.data.length K.dc (bL (putW a.p.data idx n)) := by
  rw [hda] at hM2 ⊢
  exact hM2.write hbk2 hr hcc (by omega) (by rw [bL, List.length_map, hl2]) (fun cs hcs => by obtain ⟨x, _, rfl⟩ := List.mem_map.1 hcs; rfl)
 have hbp : b ≠ p := hM2.ne hA2.obj (notP 5 (by decide)) b hda
 have hbm : b ≠ K.mb := hM2.ne hA2.labs (notE_map _ _) b hda
 have hE : Ext hb (h2.put b (.cells ⟨(bL (putW a.p.data idx n)).flatten ++ rest⟩ 5 (0, 0))) := fun q o hq => by
  rw [put_ne fun e => by subst e; rw [(hM2.own q hda).1] at hq; cases hq]; exact hA2.ext _ _ hq
 have hobj3 : (h2.put b (.cells ⟨(bL (putW a.p.data idx n)).flatten ++ rest⟩ 5 (0, 0))) p = some (PA mS K.ca a.p.code.length K.cc a.p.zero a.p.entry K.da a.p.data.length K.dc a.inData a.hasEntry a.hasZero K.mb a.line K.ua a.uses.length K.uc) := by
  rw [put_ne (Ne.symm hbp)]; exact hA2.obj
 refine ⟨_, rfl, cell_ext (fun ob => hE d ob) hd, (by rw [PA_cell hobj3]; rfl), cell_ext (fun ob => hE c ob) hc, rfl, hE, hA.new, ?_, ?_, ?_, ?_, hA.useAt, hA.mnew, ?_⟩
 · simp only [hl2]; exact hobj3
 · exact hA2.code.put hbk2 (notE_cells (by decide) _ _)
 · simp only [hl2]; exact hM3
 · exact hA2.uses.put hbk2 (notE_cells (by decide) _ _)
 · rw [put_ne (Ne.symm hbm)]; exact hA2.labs
theorem put109_t {c : Nat} {n : Int} (hA : AS hb h p mS a) (hc : hb.cell c 0 = some (vP p 0)) : Tri Tryz.prog 109 [vI n, vP c 0] h fun v h' => v = vT [] ∧ AS hb h' p mS { a with p := { a.p with entry := n } } := by
 obtain ⟨K, hA⟩ := hA
 exact Tri.mono (put109_k hA hc) fun v h' hh => ⟨hh.1, K, hh.2⟩
theorem put115_t {c d idx : Nat} {n : Int} (hA : AS hb h p mS a) (hc : hb.cell c 0 = some (vP p 0)) (hd : hb.cell d 0 = some (vI (idx : Int))) (hi : idx < a.p.code.length) :
 Tri Tryz.prog 115 [vI n, vP c 0, vP d 0] h fun v h' => v = vT [] ∧ AS hb h' p mS { a with p := { a.p with code := setC a.p.code idx n } } := by
 obtain ⟨K, hA⟩ := hA
 exact Tri.mono (put115_k hA hc hd hi) fun v h' hh => ⟨hh.1, K, hh.2⟩
theorem put112_t {c d idx : Nat} {n : Int} (hA : AS hb h p mS a) (hc : hb.cell c 0 = some (vP p 0)) (hd : hb.cell d 0 = some (vI (idx : Int))) (hi : idx + 4 ≤ a.p.data.length) :
 Tri Tryz.prog 112 [vI n, vP c 0, vP d 0] h fun v h' => v = vT [] ∧ AS hb h' p mS { a with p := { a.p with data := putW a.p.data idx n } } := by
 obtain ⟨K, hA⟩ := hA
 exact Tri.mono (put112_k hA hc hd hi) fun v h' hh => ⟨hh.1, K, hh.2⟩
end
end Go.Proofs.D
namespace Go.Proofs.D
open Go Go.Den Go.As
set_option maxRecDepth 100000
attribute [local irreducible] IntKind.wrap Tri
section
variable {hb h : PHeap} {p mS : Nat} {a : As.St} {a3 : OA} {k3 : Nat} {os : List Tk}
theorem tk_cell {n : Nat} (hA : AS hb h p mS a) (hT : TkAt hb a3 os) {t : Tk} {j : Nat} (hj : os[j]? = some t) : ∃ b o, a3 = some ⟨b, o, none⟩ ∧ h.cell b (o + j * 2) = some (vI (t.kind : Int)) ∧ h.cell b (o + j * 2 + 1) = some (vS t.text) := by
 obtain ⟨b, o, h1, h2⟩ := (hT.ext hA.ext).get hj
 exact ⟨b, o, h1, (row_hd h2).1, (row_hd h2).2⟩
theorem res_err {e : Nat} {h' : PHeap} {r : As.R As.St} (hr : r = .error e) (he : e ≠ 0) {hb' : PHeap} (hx : Ext hb hb') (hA : AS hb' h' p mS a) : Res hb p mS a.line r (vI (e : Int)) h' := by
 subst hr
 exact ⟨rfl, he, hx.trans hA.ext, hA.line⟩
theorem begin76_t (hA : AS hb h p mS a) (n3 : Nat) : Tri Tryz.prog 76 [vP p 0, vL a3 n3 k3] h fun v h' => Res hb p mS a.line (.ok { a with inData := false }) v h' := by
 obtain ⟨K, hA⟩ := hA
 refine T76 ?_
 unfold R76
 refine ⟨_, _, _, hA.obj, ⟨by simp, Nat.zero_le _⟩, ?_⟩
 rintro _ rfl
 exact ⟨rfl, hb, Ext.refl _, K, hA.set (a' := { a with inData := false }) rfl rfl rfl rfl rfl⟩
theorem begin77_t (hA : AS hb h p mS a) (n3 : Nat) : Tri Tryz.prog 77 [vP p 0, vL a3 n3 k3] h fun v h' => Res hb p mS a.line (.ok { a with inData := true }) v h' := by
 obtain ⟨K, hA⟩ := hA
 refine T77 ?_
 unfold R77
 refine ⟨_, _, _, hA.obj, ⟨by simp, Nat.zero_le _⟩, ?_⟩
 rintro _ rfl
 exact ⟨rfl, hb, Ext.refl _, K, hA.set (a' := { a with inData := true }) rfl rfl rfl rfl rfl⟩
theorem lit_err {t : Bytes} {low high : Int} {e : Nat} (h : literalS t low high = .error e) : e ≠ 0 := by
 unfold literalS at h
 split at h
 · split at h
   · injection h with h; omega
   · cases h
 · injection h with h; omega
theorem lit_range {t : Bytes} {low high : Int} {n : Int} (h : literalS t low high = .ok n) : low ≤ n ∧ n ≤ high := by
 unfold literalS at h
 split at h
 · split at h
   · cases h
   · injection h with h; omega
 · cases h
def zeroX (a : As.St) (t : Bytes) : As.R As.St := (literalS t 0 4096) >>= fun n => .ok { a with p := { a.p with zero := n }, hasZero := true }
theorem zero79_t (hA : AS hb h p mS a) {t : Tk} (hT : TkAt hb a3 [t]) (hl : t.text.length ≤ 1000000) : Tri Tryz.prog 79 [vP p 0, vL a3 1 k3] h fun v h' => Res hb p mS a.line (zeroX a t.text) v h' := by
 refine T79 ?_
 unfold R79
 obtain ⟨b, o, ha, _, hc⟩ := tk_cell (n := 1) hA hT (t := t) (j := 0) rfl
 rw [Nat.zero_mul, Nat.add_zero] at hc
 refine ⟨b, o, ha, ⟨by omega, by omega⟩, _, hc, ?_⟩
 refine Tri.mono (literal_t h t.text 0 4096 hl) ?_
 rintro _ h1 ⟨rfl, hx⟩
 have hA1 := hA.grow hx
 unfold zeroX
 cases hlit : literalS t.text 0 4096 with
 | error e =>
   have he := lit_err hlit
   exact ⟨_, _, rfl, br_pos (by simp; omega) (res_err rfl he (Ext.refl _) hA1)⟩
 | ok n =>
   obtain ⟨K, hK⟩ := hA1
   refine ⟨_, _, rfl, br_neg rfl ⟨_, _, _, hK.obj, ⟨by simp, Nat.zero_le _⟩, ?_⟩⟩
   rintro _ rfl
   have hK2 : ASK hb _ p mS { a with hasZero := true } K := hK.set (a' := { a with hasZero := true }) rfl rfl rfl rfl rfl
   refine ⟨_, _, _, hK2.obj, ⟨by simp, Nat.zero_le _⟩, ?_⟩
   rintro _ rfl
   exact ⟨rfl, hb, Ext.refl _, K, hK2.set (a' := { a with p := { a.p with zero := n }, hasZero := true }) rfl rfl rfl rfl rfl⟩
def entryX (a : As.St) (t : Bytes) : As.R As.St := (valueS a.line t 2 0 (-9999999999) 9999999999) >>= fun x => .ok { a with p := { a.p with entry := x.1 }, hasEntry := true, uses := a.uses ++ x.2 }
theorem entry78_t (hA : AS hb h p mS a) {t : Tk} (hT : TkAt hb a3 [t]) (hl : t.text.length ≤ 1000000) (hU : a.uses.length ≤ 8000000) : Tri Tryz.prog 78 [vP p 0, vL a3 1 k3] h fun v h' => Res hb p mS a.line (entryX a t.text) v h' := by
 refine T78 ?_
 unfold R78
 intro b1 hb1 h1 hh1
 have x1 := Put.ext hh1 hb1
 obtain ⟨hb2, hbx, hA2, hin⟩ := hA.rebase x1
 have d1 : hb2.cell b1 0 = some (vP p 0) := cell_of (hin b1 _ hb1 (Put.at hh1)) 0
 obtain ⟨b, o, ha, _, hc⟩ := tk_cell (n := 1) hA2 (hT.ext hbx) (t := t) (j := 0) rfl
 rw [Nat.zero_mul, Nat.add_zero] at hc
 refine ⟨_, _, cell_of (Put.at hh1) 0, b, o, ha, ⟨by omega, by omega⟩, _, hc, ?_⟩
 refine Tri.mono (value_t (kind := 2) (idx := 0) hA2 hl hU (.inl ⟨rfl, rfl, b1, rfl, d1⟩) (-9999999999) 9999999999 rfl rfl (fun _ => ⟨rfl, rfl⟩)) ?_
 intro v h3 hV
 unfold entryX
 cases hv : valueS a.line t.text 2 0 (-9999999999) 9999999999 with
 | error e =>
   rw [hv] at hV
   obtain ⟨rfl, he, hb3, hbx3, hA3⟩ := hV
   exact ⟨_, _, rfl, br_pos (by simp; omega) (res_err rfl he (hbx.trans hbx3) hA3)⟩
 | ok x =>
   obtain ⟨n, us⟩ := x
   rw [hv] at hV
   obtain ⟨rfl, hb3, hbx3, K, hK⟩ := hV
   have d3 := cell_ext (fun ob => hbx3 b1 ob) d1
   refine ⟨_, _, rfl, br_neg rfl ⟨_, _, cell_ext (fun ob => hK.ext b1 ob) d3, _, _, _, hK.obj, ⟨by simp, Nat.zero_le _⟩, ?_⟩⟩
   rintro _ rfl
   have hK2 := hK.set (a' := { a with hasEntry := true, uses := a.uses ++ us }) rfl rfl rfl rfl rfl
   refine Tri.mono (put109_t ⟨K, hK2⟩ d3) ?_
   rintro _ h4 ⟨rfl, hA4⟩
   exact ⟨rfl, rfl, hb3, hbx.trans hbx3, hA4⟩
theorem u8_byte (n : Int) : IntKind.u8.wrap n = ((As.byteOf n).toNat : Int) := by
 rw [u8_wrap]
 unfold As.byteOf
 rw [UInt8.toNat_ofNat']
 have : 0 ≤ n % 256 := Int.emod_nonneg _ (by decide)
 omega
theorem bytes81_t (hA : AS hb h p mS a) (hT : TkAt hb a3 os) (hl : ∀ t ∈ os, t.text.length ≤ 1000000) (hn : os.length ≤ 1000000) (hD : a.p.data.length ≤ 1000000) : Tri Tryz.prog 81 [vP p 0, vL a3 os.length k3] h fun v h' => Res hb p mS a.line (bytesS a os) v h' := by
 refine T81 ?_
 unfold R81
 refine ⟨fun m i h' => ∃ (j : Nat) (a' : As.St), i = (j : Int) ∧ j + m = os.length ∧ AS hb h' p mS a' ∧ a'.line = a.line ∧ a'.p.data.length ≤ a.p.data.length + j ∧ bytesS a os = bytesS a' (os.drop j), ⟨os.length, 0, a, rfl, by omega, hA, rfl, by omega, rfl⟩, ?_⟩
 rintro m _ h1 ⟨j, a', rfl, hjm, hA1, hline, hd, hb81⟩
 refine br_split (fun e => ?_) fun e => ?_
 · have hlt : j < os.length := by have := of_decide_eq_true e; omega
   have hdr := List.drop_eq_getElem_cons hlt
   have hg : os[j]? = some os[j] := by simp [hlt]
   have hm := List.getElem_mem hlt
   have hlen := hl _ hm
   rw [hdr] at hb81
   generalize os[j] = t at *
   obtain ⟨b, o, ha, hr⟩ := (hT.ext hA1.ext).get hg
   refine ⟨b, o, ha, ⟨by omega, by omega⟩, _, _, (by rw [Int.toNat_natCast]; exact hr), ?_⟩
   refine Tri.mono (literal_t h1 t.text (-128) 255 hlen) ?_
   rintro _ h2 ⟨rfl, hx⟩
   have hA2 := hA1.grow hx
   rw [bytesS] at hb81
   cases hlit : literalS t.text (-128) 255 with
   | error e =>
     have he := lit_err hlit
     rw [hlit] at hb81
     refine ⟨_, _, rfl, br_pos (by simp; omega) ?_⟩
     rw [← hline]
     exact res_err hb81 he (Ext.refl _) hA2
   | ok n =>
     rw [hlit] at hb81
     obtain ⟨K, hK⟩ := hA2
     refine ⟨_, _, rfl, br_neg rfl ⟨_, _, _, (by rw [PA_cell hK.obj]; rfl), ?_⟩⟩
     intro b2 hb2 h3 hh3
     have x3 := Put.ext hh3 hb2
     have hK3 := hK.grow x3
     rw [u8_byte] at hh3
     refine Raw.mono (LM.push und40 elem5 rfl rfl rfl rfl rfl hK.ext hK.data hb2 hh3 rfl rfl (by omega)) ?_
     rintro _ h4 ⟨b5, cap, rfl, hx4, hM4, hg4⟩
     obtain ⟨hp4, hK4⟩ := hK3.appData (l := [As.byteOf n]) (m := 1) rfl hx4 hM4 hg4 rfl
     refine ⟨_, _, _, rfl, _, _, _, (by rw [hp4]; exact hK3.obj), ⟨by simp, Nat.zero_le _⟩, ?_⟩
     rintro _ rfl
     refine ⟨m - 1, by omega, ⟨j + 1, { a' with p := { a'.p with data := a'.p.data ++ [As.byteOf n] } }, ?_, by omega, ⟨_, hK4⟩, hline, by simp; omega, hb81⟩, trivial⟩
     rw [wrap64 (by omega) (by omega)]; omega
 · have hj : j = os.length := by have := of_decide_eq_false e; omega
   subst hj
   rw [List.drop_length] at hb81
   rw [hb81]
   exact ⟨rfl, hb, Ext.refl _, hA1⟩
theorem text82_t (hA : AS hb h p mS a) {t : Tk} (hT : TkAt hb a3 [t]) (hl : t.text.length ≤ 1000000) (hD : a.p.data.length ≤ 1000000) : Tri Tryz.prog 82 [vP p 0, vL a3 1 k3] h fun v h' => Res hb p mS a.line (.ok { a with p := { a.p with data := a.p.data ++ t.text } }) v h' := by
 refine T82 ?_
 unfold R82
 obtain ⟨b, o, ha, _, hc⟩ := tk_cell (n := 1) hA hT (t := t) (j := 0) rfl
 rw [Nat.zero_mul, Nat.add_zero] at hc
 obtain ⟨K, hK⟩ := hA
 refine ⟨_, _, _, (by rw [PA_cell hK.obj]; rfl), b, o, ha, ⟨by omega, by omega⟩, _, hc, ?_⟩
 by_cases h0 : t.text = []
 · refine Raw.mono (LM.extend0 und40 elem5 rfl rfl rfl rfl rfl hK.data (t2 := 9) (vy := vS t.text) ?_) ?_
   · rw [h0]; exact SrcH.string rfl ⟨⟨[]⟩⟩
   rintro _ _ ⟨rfl, rfl⟩
   refine ⟨_, _, _, rfl, _, _, _, hK.obj, ⟨by simp, Nat.zero_le _⟩, ?_⟩
   rintro _ rfl
   refine ⟨rfl, hb, Ext.refl _, K, ?_⟩
   rw [h0]
   exact hK.set (a' := { a with p := { a.p with data := a.p.data ++ [] } }) rfl (by simp) rfl rfl (by simp [PA, splice])
 · have hpos : 0 < t.text.length := List.length_pos_iff.2 h0
   refine Raw.mono (LM.extend und40 elem5 rfl rfl rfl rfl rfl hK.ext hK.data (t2 := 9) (vy := vS t.text) (css2 := bL t.text) (m := t.text.length) ?_ (by simp [bL]) (fun cs hcs => by obtain ⟨x, _, rfl⟩ := List.mem_map.1 hcs; rfl) hpos (by omega)) ?_
   · rw [bL_flat]; exact SrcH.string rfl ⟨⟨t.text⟩⟩
   rintro _ h4 ⟨b5, cap, rfl, hx4, hM4, hg4⟩
   obtain ⟨hp4, hK4⟩ := hK.appData (l := t.text) rfl hx4 hM4 hg4 rfl
   refine ⟨_, _, _, rfl, _, _, _, (by rw [hp4]; exact hK.obj), ⟨by simp, Nat.zero_le _⟩, ?_⟩
   rintro _ rfl
   exact ⟨rfl, hb, Ext.refl _, _, hK4⟩
def spaceX (a : As.St) (t : Bytes) : As.R As.St := (literalS t 0 4096) >>= fun n => .ok { a with p := { a.p with data := a.p.data ++ List.replicate n.toNat 0 } }
theorem space83_t (hA : AS hb h p mS a) {t : Tk} (hT : TkAt hb a3 [t]) (hl : t.text.length ≤ 1000000) (hD : a.p.data.length ≤ 1000000) : Tri Tryz.prog 83 [vP p 0, vL a3 1 k3] h fun v h' => Res hb p mS a.line (spaceX a t.text) v h' := by
 refine T83 ?_
 unfold R83
 obtain ⟨b, o, ha, _, hc⟩ := tk_cell (n := 1) hA hT (t := t) (j := 0) rfl
 rw [Nat.zero_mul, Nat.add_zero] at hc
 refine ⟨b, o, ha, ⟨by omega, by omega⟩, _, hc, ?_⟩
 refine Tri.mono (literal_t h t.text 0 4096 hl) ?_
 rintro _ h1 ⟨rfl, hx⟩
 have hA1 := hA.grow hx
 unfold spaceX
 cases hlit : literalS t.text 0 4096 with
 | error e =>
   have he := lit_err hlit
   exact ⟨_, _, rfl, br_pos (by simp; omega) (res_err rfl he (Ext.refl _) hA1)⟩
 | ok n =>
   obtain ⟨l1, l2⟩ := lit_range hlit
   obtain ⟨m, rfl⟩ : ∃ m : Nat, n = m := ⟨n.toNat, by omega⟩
   obtain ⟨K, hK⟩ := hA1
   refine ⟨_, _, rfl, br_neg rfl ⟨_, _, _, (by rw [PA_cell hK.obj]; rfl), ?_⟩⟩
   show Raw Tryz.prog _ h1 _
   by_cases h0 : m = 0
   · subst h0
     have raw0 : Raw Tryz.prog (execOp (rho [(22, vL K.da a.p.data.length K.dc), (23, vI ((0 : Nat) : Int))]) (mkO o83_3 40)) h1 fun w h2 => w = vL K.da a.p.data.length K.dc ∧ h2 = h1 := by
      intro w hs
      have hle := hK.data.okN.1
      have hexec : (execOp (rho [(22, vL K.da a.p.data.length K.dc), (23, vI ((0 : Nat) : Int))]) (mkO o83_3 40)).run Tryz.prog w = ((Builtin.append_ #[40, 3] 40 #[vL K.da a.p.data.length K.dc, vI 0]).run Tryz.prog w).andThen fun v w' => .ok (.value v) w' := by
       simp [execOp, mkO, resolve, o83_3, invoke, builtin, rho, lookN]
       rfl
      have hai : ∀ w, (asInt (vI (0 : Int))).run Tryz.prog w = .ok (0 : Int) w := fun _ => rfl
      have hu : Tryz.prog.underlying 40 = some (.slice 5) := rfl
      have hu2 : Tryz.prog.underlying 3 = some (.int .i64) := rfl
      have hwz : IntKind.i64.wrap 0 = 0 := wrap64 (by omega) (by omega)
      have hinf : ∃ i, Tryz.prog.info? 5 = some i ∧ i.bytes = 1 ∧ i.size = 1 := ⟨_, rfl, rfl, rfl⟩
      obtain ⟨i, hi, hby, hsz⟩ := hinf
      have hrun : (Builtin.append_ #[40, 3] 40 #[vL K.da a.p.data.length K.dc, vI 0]).run Tryz.prog w = .ok (vL K.da a.p.data.length K.dc) w := by
       cases K.da <;> simp [Builtin.append_, run_underlying hu, run_underlying hu2, sizeOf, typeInfo, hi, hby, hsz, hai, hwz, hle, storeCells]
      rw [hexec, hrun]
      exact ⟨_, _, w, h1, rfl, .inl rfl, ⟨rfl, rfl⟩, hs, Keep.refl w h1⟩
     refine Raw.mono raw0 ?_
     rintro _ _ ⟨rfl, rfl⟩
     refine ⟨_, _, _, rfl, _, _, _, hK.obj, ⟨by simp, Nat.zero_le _⟩, ?_⟩
     rintro _ rfl
     exact ⟨rfl, hb, Ext.refl _, K, hK.set (a' := { a with p := { a.p with data := a.p.data ++ [] } }) rfl (by simp) rfl rfl (by simp [PA, splice])⟩
   · refine Raw.mono (LM.zeros (m := m) (kd := .i64) (zv := .int .u8 0) und40 rfl rfl rfl rfl rfl rfl rfl rfl rfl rfl rfl rfl hK.ext hK.data (by omega) (by omega)) ?_
     rintro _ h4 ⟨b5, cap, rfl, hx4, hM4, hg4⟩
     have hbl : bL (List.replicate m (0 : UInt8)) = List.replicate m [(.int .u8 0 : Value)] := by unfold bL; rw [List.map_replicate]; rfl
     rw [← hbl] at hM4
     obtain ⟨hp4, hK4⟩ := hK.appData (l := List.replicate m 0) (by simp) hx4 hM4 hg4 rfl
     refine ⟨_, _, _, rfl, _, _, _, (by rw [hp4]; exact hK.obj), ⟨by simp, Nat.zero_le _⟩, ?_⟩
     rintro _ rfl
     exact ⟨rfl, hb, Ext.refl _, _, hK4⟩
theorem val_fst {line kind idx : Nat} {t : Bytes} {low high : Int} {x : Int × List Us} (h : valueS line t kind idx low high = .ok x) : x.2.length ≤ 1 := by
 unfold valueS at h
 split at h
 · split at h
   · cases h
   · injection h with h; subst h; simp
 · split at h
   · injection h with h; subst h; simp
   · cases h
theorem words80_t (hA : AS hb h p mS a) (hT : TkAt hb a3 os) (hl : ∀ t ∈ os, t.text.length ≤ 1000000) (hn : os.length ≤ 1000000) (hD : a.p.data.length ≤ 1000000) (hU : a.uses.length ≤ 1000000) : Tri Tryz.prog 80 [vP p 0, vL a3 os.length k3] h fun v h' => Res hb p mS a.line (wordsS a os) v h' := by
 refine T80 ?_
 unfold R80
 intro b1 hb1 h1 hh1
 have x1 := Put.ext hh1 hb1
 obtain ⟨hb2, hbx, hA2, hin⟩ := hA.rebase x1
 have d1 : hb2.cell b1 0 = some (vP p 0) := cell_of (hin b1 _ hb1 (Put.at hh1)) 0
 refine ⟨fun m i h' => ∃ (j : Nat) (a' : As.St) (hb' : PHeap), i = (j : Int) ∧ j + m = os.length ∧ Ext hb2 hb' ∧ AS hb' h' p mS a' ∧ a'.line = a.line ∧ a'.p.data.length ≤ a.p.data.length + 4 * j ∧ a'.uses.length ≤ a.uses.length + j ∧ wordsS a os = wordsS a' (os.drop j), ⟨os.length, 0, a, hb2, rfl, by omega, Ext.refl _, hA2, rfl, by omega, by omega, rfl⟩, ?_⟩
 rintro m _ h2 ⟨j, a', hb', rfl, hjm, hbx', hA', hline, hd, hu, hws⟩
 refine br_split (fun e => ?_) fun e => ?_
 · have hlt : j < os.length := by have := of_decide_eq_true e; omega
   have hdr := List.drop_eq_getElem_cons hlt
   have hg : os[j]? = some os[j] := by simp [hlt]
   have hm := List.getElem_mem hlt
   have hlen := hl _ hm
   rw [hdr] at hws
   generalize os[j] = t at *
   have d1' := cell_ext (fun ob => hbx' b1 ob) d1
   obtain ⟨b, o, ha, hr⟩ := (hT.ext ((hbx.trans hbx').trans hA'.ext)).get hg
   have hA'0 := hA'
   obtain ⟨K, hK⟩ := hA'
   refine ⟨b, o, ha, ⟨by omega, by omega⟩, _, _, (by rw [Int.toNat_natCast]; exact hr), _, _, cell_ext (fun ob => hK.ext b1 ob) d1', _, _, _, (by rw [PA_cell hK.obj]; rfl), ?_⟩
   intro b3 hb3 h3 hh3
   refine ⟨_, _, _, Put.at hh3, ⟨by simp, Nat.zero_le _⟩, ?_⟩
   intro h4 hh4
   have hh4' : h4 = h2.put b3 (.cells ⟨[vI (a'.p.data.length : Int)]⟩ 3 (0, 0)) := by
    rw [hh4, hh3, put_put]; rfl
   clear hh4 hh3 h3
   have x4 := Put.ext hh4' hb3
   obtain ⟨hb3', hbx3, hA3, hin3⟩ := hA'0.rebase x4
   have d3 : hb3'.cell b3 0 = some (vI (a'.p.data.length : Int)) := cell_of (hin3 b3 _ hb3 (Put.at hh4')) 0
   have d13 := cell_ext (fun ob => hbx3 b1 ob) d1'
   obtain ⟨K, hK⟩ := hA3
   refine ⟨_, _, cell_ext (fun ob => hK.ext b1 ob) d13, _, _, cell_ext (fun ob => hK.ext b1 ob) d13, _, _, _, (by rw [PA_cell hK.obj]; rfl), ?_⟩
   intro b4 hb4 h5 hh5
   have x5 := Put.ext hh5 hb4
   have hK5 := hK.grow x5
   refine ⟨(by rw [PA_cell hK5.obj]; rfl), cell_ext (fun ob => hK5.ext b1 ob) d13, cell_ext (fun ob => hK5.ext b1 ob) d13, ?_⟩
   have hsrc : SrcH Tryz.prog h5 1 40 (vL (ad b4 0) 4 4) 4 (bL [0, 0, 0, 0]).flatten := SrcH.row und40 rfl (row_lit (Put.at hh5) fun j v hj => by rw [Nat.zero_add]; exact hj) rfl
   refine Raw.mono (LM.extend und40 elem5 rfl rfl rfl rfl rfl hK5.ext hK5.data (t2 := 40) (vy := vL (ad b4 0) 4 4) (css2 := bL [0, 0, 0, 0]) (m := 4) hsrc rfl (fun cs hcs => by obtain ⟨x, _, rfl⟩ := List.mem_map.1 hcs; rfl) (by omega) (by omega)) ?_
   rintro _ h6 ⟨b6, cap, rfl, hx6, hM6, hg6⟩
   obtain ⟨hp6, hK6⟩ := hK5.appData (l := [0, 0, 0, 0]) rfl hx6 hM6 hg6 rfl
   refine ⟨_, _, _, rfl, cell_ext (fun ob => hx6 b1 ob) d13, cell_ext (fun ob => hx6 b1 ob) d13, _, _, _, (by rw [hp6]; exact hK5.obj), ⟨by simp, Nat.zero_le _⟩, ?_⟩
   rintro _ rfl
   refine ⟨_, _, cell_ext (fun ob => hK6.ext b1 ob) d13, ?_⟩
   refine Tri.mono (value_t (kind := 1) (idx := a'.p.data.length) ⟨_, hK6⟩ hlen (by simp only; omega) (.inr (.inl ⟨rfl, rfl, b1, b3, rfl, d13, d3⟩)) (-2147483648) 4294967295 rfl rfl (fun h => by omega)) ?_
   intro v h8 hV
   rw [wordsS] at hws
   simp only at hV
   cases hv : valueS a'.line t.text 1 a'.p.data.length (-2147483648) 4294967295 with
   | error e =>
     rw [hv] at hV hws
     obtain ⟨rfl, he, hb4', hbx4, hA4⟩ := hV
     refine ⟨_, _, rfl, br_pos (by simp; omega) ?_⟩
     have := res_err hws he (((hbx.trans hbx').trans hbx3).trans hbx4) hA4
     rw [← hline]; exact this
   | ok x =>
     obtain ⟨n, us⟩ := x
     have hus := val_fst hv
     simp only at hus
     rw [hv] at hV hws
     obtain ⟨rfl, hb4', hbx4, hA4⟩ := hV
     refine ⟨_, _, rfl, br_neg rfl ?_⟩
     refine Tri.mono (put112_t hA4 (cell_ext (fun ob => hbx4 b1 ob) d13) (cell_ext (fun ob => hbx4 b3 ob) d3) (by simp)) ?_
     rintro _ h9 ⟨rfl, hA9⟩
     have hput : putW (a'.p.data ++ [0, 0, 0, 0]) a'.p.data.length n = a'.p.data ++ wordOf n := by
      unfold putW
      rw [List.take_left' rfl, List.drop_of_length_le (by simp), List.append_nil]
     simp only [hput] at hA9
     refine ⟨rfl, m - 1, by omega, ⟨j + 1, _, hb4', ?_, by omega, (hbx'.trans hbx3).trans hbx4, hA9, hline, by simp [wordOf_len]; omega, by simp; omega, hws⟩, trivial⟩
     rw [wrap64 (by omega) (by omega)]; omega
 · have hj : j = os.length := by have := of_decide_eq_false e; omega
   subst hj
   rw [List.drop_length] at hws
   rw [hws]
   exact ⟨rfl, hb', hbx.trans hbx', hA'⟩
end
end Go.Proofs.D
namespace Go.Proofs.D
open Go Go.Den
set_option maxRecDepth 100000
set_option maxHeartbeats 4000000
abbrev o86_11 : Op := .call { callee := (.builtin .append), args := #[(.tmp 75), (.tmp 84)], argTypes := #[22, 22] }
noncomputable def d86 : DCode := up ⟨[(25, .c (.tup [(false, [qi]), (false, [qi])])), (51, .l [qi, .str]), (54, .l [.str]), (55, .c (.tup [(false, [qi]), (false, [.bool])])), (64, .l [.ptr]), (68, .l [.slice]), (70, .l [.ptr]), (71, .l [.ptr]), (75, .l [.slice]), (78, .l [qi]), (80, .l [qi]), (82, .l [qi]), (85, .c (.one false [.slice])), (93, .c (.tup [(false, [qi]), (false, [qi]), (false, [qi])])), (99, .l [.ptr]), (106, .l [.str]), (110, .c (.tup [(false, [qi]), (false, [qi])])), (115, .c (.tup []))], [62, 16, 88], [(48, 22, [(47, qi)], [])]⟩ (low Tryz.prog (fun d => Nat.beq d 3 || Nat.beq d 11 || Nat.beq d 16) (Tryz.f86.body.getD .skip))
theorem low86 : low Tryz.prog (fun d => Nat.beq d 3 || Nat.beq d 11 || Nat.beq d 16) (Tryz.f86.body.getD .skip) = some (eC d86) := by kernel_rfl
def R86 (p1 : Nat) (o1 : Nat) (i1 : Int) (a1 : OA) (n1 : Nat) (k1 : Nat) (h : PHeap) (Q : Value → PHeap → Prop) : Prop :=
 ∀ (b1 : Nat), h b1 = none → ∀ (h_1 : PHeap), h_1 = h.put b1 (.cells ⟨[vP p1 o1]⟩ 68) →
 Tri Tryz.prog 59 [vI i1] h_1 fun v_1 h_2 =>
 ∃ (i2 i3 : Int), v_1 = vT [vI i2, vI i3] ∧
 br (i2 == 6)
 ((okA a1 n1 k1 ∧ 0 ≤ (0 : Int) ∧ (0 : Int) ≤ (IntKind.i64.wrap (((n1 : Nat) : Int) - 1)) ∧ (IntKind.i64.wrap (((n1 : Nat) : Int) - 1)) ≤ k1) ∧ ∀ (a2 : OA), SlA a1 a2 0 k1 2 →
 ∀ (b2 : Nat), h_2 b2 = none → ∀ (h_3 : PHeap), h_3 = h_2.put b2 (.cells ⟨[vI 0, vI 0, vI 0]⟩ 163) →
 ∃ (I_1 : Nat → Int → PHeap → Prop), (∃ (m2 : Nat), I_1 m2 (0 : Int) h_3) ∧
 ∀ (m1 : Nat) (i4 : Int) (h_4 : PHeap), I_1 m1 i4 h_4 →
 br (decide (i4 < ((((IntKind.i64.wrap (((n1 : Nat) : Int) - 1)).toNat - 0) : Nat) : Int)))
 (∃ (b3 o2 : Nat), a2 = some ⟨b3, o2, none⟩ ∧ (0 ≤ i4 ∧ i4 < ((((IntKind.i64.wrap (((n1 : Nat) : Int) - 1)).toNat - 0) : Nat) : Int)) ∧
 ∃ (i5 : Int) (l1 : Bs), h_4.row b3 (o2 + (i4).toNat * 2) [vI i5, vS l1] ∧
 Tri Tryz.prog 50 [vS l1] h_4 fun v_2 h_5 =>
 ∃ (i6 : Int) (c1 : Bool), v_2 = vT [vI i6, vB c1] ∧
 br (!c1)
 (Q (vI 30) h_5)
 ((0 ≤ i4 ∧ i4 < 3) ∧
 ∃ (l2 : List Value) (t1 : TypeId) (z1 : Nat × Nat), h_5 b2 = some (.cells ⟨l2⟩ t1 z1) ∧ ((0 + (i4).toNat * 1) + 1 ≤ l2.length ∧ z1.2 ≤ (0 + (i4).toNat * 1)) ∧
 ∀ (h_6 : PHeap), h_6 = h_5.put b2 (.cells ⟨splice l2 (0 + (i4).toNat * 1) [vI i6]⟩ t1 z1) →
 ∃ (m3 : Nat), m3 < m1 ∧ I_1 m3 (IntKind.i64.wrap (i4 + 1)) h_6 ∧
 True))
 (∃ (p2 o3 : Nat), h_4.cell b1 0 = some (vP p2 o3) ∧
 ∃ (a3 : OA) (n2 k2 : Nat), h_4.cell p2 (o3 + 1) = some (vL a3 n2 k2) ∧
 ∀ (b4 : Nat), h_4 b4 = none → ∀ (h_7 : PHeap), h_7 = h_4.put b4 (.cells ⟨[vI 0]⟩ 3) →
 ∃ (l3 : List Value) (t2 : TypeId) (z2 : Nat × Nat), h_7 b4 = some (.cells ⟨l3⟩ t2 z2) ∧ (0 + 1 ≤ l3.length ∧ z2.2 ≤ 0) ∧
 ∀ (h_8 : PHeap), h_8 = h_7.put b4 (.cells ⟨splice l3 0 [vI ((n2 : Nat) : Int)]⟩ t2 z2) →
 ∃ (p3 o4 : Nat), h_8.cell b1 0 = some (vP p3 o4) ∧
 ∃ (p4 o5 : Nat), h_8.cell b1 0 = some (vP p4 o5) ∧
 ∃ (a4 : OA) (n3 k3 : Nat), h_8.cell p4 (o5 + 1) = some (vL a4 n3 k3) ∧
 (0 ≤ (0 : Int) ∧ (0 : Int) < 3) ∧
 ∃ (i7 : Int), h_8.cell b2 0 = some (vI i7) ∧
 (0 ≤ (1 : Int) ∧ (1 : Int) < 3) ∧
 ∃ (i8 : Int), h_8.cell b2 1 = some (vI i8) ∧
 (0 ≤ (2 : Int) ∧ (2 : Int) < 3) ∧
 ∃ (i9 : Int), h_8.cell b2 2 = some (vI i9) ∧
 ∀ (b5 : Nat), h_8 b5 = none → ∀ (h_9 : PHeap), h_9 = h_8.put b5 (.cells ⟨[vI i1, vI i7, vI i8, vI i9]⟩ 58) →
 (h_9.cell b2 2 = some (vI i9)) ∧
 (h_9.cell b2 1 = some (vI i8)) ∧
 (h_9.cell b2 0 = some (vI i7)) ∧
 (h_9.cell p4 (o5 + 1) = some (vL a4 n3 k3)) ∧
 (h_9.cell b1 0 = some (vP p4 o5)) ∧
 (h_9.cell b1 0 = some (vP p3 o4)) ∧
 Raw Tryz.prog (execOp (rho [(75, vL a4 n3 k3), (84, vL (ad b5 0) 1 1)]) (mkO o86_11 22)) h_9 fun v_3 h_10 =>
 ∃ (a5 : OA) (n4 k4 : Nat), v_3 = vL a5 n4 k4 ∧
 (h_10.cell b2 2 = some (vI i9)) ∧
 (h_10.cell b2 1 = some (vI i8)) ∧
 (h_10.cell b2 0 = some (vI i7)) ∧
 (h_10.cell b1 0 = some (vP p4 o5)) ∧
 (h_10.cell b1 0 = some (vP p3 o4)) ∧
 ∃ (l4 : List Value) (t3 : TypeId) (z3 : Nat × Nat), h_10 p3 = some (.cells ⟨l4⟩ t3 z3) ∧ ((o4 + 1) + 1 ≤ l4.length ∧ z3.2 ≤ (o4 + 1)) ∧
 ∀ (h_11 : PHeap), h_11 = h_10.put p3 (.cells ⟨splice l4 (o4 + 1) [vL a5 n4 k4]⟩ t3 z3) →
 Tri Tryz.prog 114 [vI i1] h_11 fun v_4 h_12 =>
 ∃ (i10 i11 i12 : Int), v_4 = vT [vI i10, vI i11, vI i12] ∧
 ∃ (p5 o6 : Nat), h_12.cell b1 0 = some (vP p5 o6) ∧
 ∃ (b6 o7 : Nat), a1 = some ⟨b6, o7, none⟩ ∧ (0 ≤ (IntKind.i64.wrap (((n1 : Nat) : Int) - 1)) ∧ (IntKind.i64.wrap (((n1 : Nat) : Int) - 1)) < n1) ∧
 ∃ (l5 : Bs), h_12.cell b6 ((o7 + (IntKind.i64.wrap (((n1 : Nat) : Int) - 1)).toNat * 2) + 1) = some (vS l5) ∧
 Tri Tryz.prog 110 [vP p5 o6, vS l5, vI i10, vI i11, vF 115 [] [vP b1 0, vP b4 0]] h_12 fun v_5 h_13 =>
 ∃ (i13 i14 : Int), v_5 = vT [vI i13, vI i14] ∧
 Tri Tryz.prog 115 [vI i13, vP b1 0, vP b4 0] h_13 fun v_6 h_14 =>
 v_6 = vT [] ∧
 Q (vI i14) h_14))
 (br (i2 == 4)
 ((okA a1 n1 k1 ∧ 0 ≤ (0 : Int) ∧ (0 : Int) ≤ (IntKind.i64.wrap (((n1 : Nat) : Int) - 1)) ∧ (IntKind.i64.wrap (((n1 : Nat) : Int) - 1)) ≤ k1) ∧ ∀ (a6 : OA), SlA a1 a6 0 k1 2 →
 ∀ (b7 : Nat), h_2 b7 = none → ∀ (h_15 : PHeap), h_15 = h_2.put b7 (.cells ⟨[vI 0, vI 0, vI 0]⟩ 163) →
 ∃ (I_2 : Nat → Int → PHeap → Prop), (∃ (m5 : Nat), I_2 m5 (0 : Int) h_15) ∧
 ∀ (m4 : Nat) (i15 : Int) (h_16 : PHeap), I_2 m4 i15 h_16 →
 br (decide (i15 < ((((IntKind.i64.wrap (((n1 : Nat) : Int) - 1)).toNat - 0) : Nat) : Int)))
 (∃ (b8 o8 : Nat), a6 = some ⟨b8, o8, none⟩ ∧ (0 ≤ i15 ∧ i15 < ((((IntKind.i64.wrap (((n1 : Nat) : Int) - 1)).toNat - 0) : Nat) : Int)) ∧
 ∃ (i16 : Int) (l6 : Bs), h_16.row b8 (o8 + (i15).toNat * 2) [vI i16, vS l6] ∧
 Tri Tryz.prog 50 [vS l6] h_16 fun v_7 h_17 =>
 ∃ (i17 : Int) (c2 : Bool), v_7 = vT [vI i17, vB c2] ∧
 br (!c2)
 (Q (vI 30) h_17)
 ((0 ≤ i15 ∧ i15 < 3) ∧
 ∃ (l7 : List Value) (t4 : TypeId) (z4 : Nat × Nat), h_17 b7 = some (.cells ⟨l7⟩ t4 z4) ∧ ((0 + (i15).toNat * 1) + 1 ≤ l7.length ∧ z4.2 ≤ (0 + (i15).toNat * 1)) ∧
 ∀ (h_18 : PHeap), h_18 = h_17.put b7 (.cells ⟨splice l7 (0 + (i15).toNat * 1) [vI i17]⟩ t4 z4) →
 ∃ (m6 : Nat), m6 < m4 ∧ I_2 m6 (IntKind.i64.wrap (i15 + 1)) h_18 ∧
 True))
 (∃ (p6 o9 : Nat), h_16.cell b1 0 = some (vP p6 o9) ∧
 ∃ (a7 : OA) (n5 k5 : Nat), h_16.cell p6 (o9 + 1) = some (vL a7 n5 k5) ∧
 ∀ (b9 : Nat), h_16 b9 = none → ∀ (h_19 : PHeap), h_19 = h_16.put b9 (.cells ⟨[vI 0]⟩ 3) →
 ∃ (l8 : List Value) (t5 : TypeId) (z5 : Nat × Nat), h_19 b9 = some (.cells ⟨l8⟩ t5 z5) ∧ (0 + 1 ≤ l8.length ∧ z5.2 ≤ 0) ∧
 ∀ (h_20 : PHeap), h_20 = h_19.put b9 (.cells ⟨splice l8 0 [vI ((n5 : Nat) : Int)]⟩ t5 z5) →
 ∃ (p7 o10 : Nat), h_20.cell b1 0 = some (vP p7 o10) ∧
 ∃ (p8 o11 : Nat), h_20.cell b1 0 = some (vP p8 o11) ∧
 ∃ (a8 : OA) (n6 k6 : Nat), h_20.cell p8 (o11 + 1) = some (vL a8 n6 k6) ∧
 (0 ≤ (0 : Int) ∧ (0 : Int) < 3) ∧
 ∃ (i18 : Int), h_20.cell b7 0 = some (vI i18) ∧
 (0 ≤ (1 : Int) ∧ (1 : Int) < 3) ∧
 ∃ (i19 : Int), h_20.cell b7 1 = some (vI i19) ∧
 (0 ≤ (2 : Int) ∧ (2 : Int) < 3) ∧
 ∃ (i20 : Int), h_20.cell b7 2 = some (vI i20) ∧
 ∀ (b10 : Nat), h_20 b10 = none → ∀ (h_21 : PHeap), h_21 = h_20.put b10 (.cells ⟨[vI i1, vI i18, vI i19, vI i20]⟩ 58) →
 (h_21.cell b7 2 = some (vI i20)) ∧
 (h_21.cell b7 1 = some (vI i19)) ∧
 (h_21.cell b7 0 = some (vI i18)) ∧
 (h_21.cell p8 (o11 + 1) = some (vL a8 n6 k6)) ∧
 (h_21.cell b1 0 = some (vP p8 o11)) ∧
 (h_21.cell b1 0 = some (vP p7 o10)) ∧
 Raw Tryz.prog (execOp (rho [(75, vL a8 n6 k6), (84, vL (ad b10 0) 1 1)]) (mkO o86_11 22)) h_21 fun v_8 h_22 =>
 ∃ (a9 : OA) (n7 k7 : Nat), v_8 = vL a9 n7 k7 ∧
 (h_22.cell b7 2 = some (vI i20)) ∧
 (h_22.cell b7 1 = some (vI i19)) ∧
 (h_22.cell b7 0 = some (vI i18)) ∧
 (h_22.cell b1 0 = some (vP p8 o11)) ∧
 (h_22.cell b1 0 = some (vP p7 o10)) ∧
 ∃ (l9 : List Value) (t6 : TypeId) (z6 : Nat × Nat), h_22 p7 = some (.cells ⟨l9⟩ t6 z6) ∧ ((o10 + 1) + 1 ≤ l9.length ∧ z6.2 ≤ (o10 + 1)) ∧
 ∀ (h_23 : PHeap), h_23 = h_22.put p7 (.cells ⟨splice l9 (o10 + 1) [vL a9 n7 k7]⟩ t6 z6) →
 Tri Tryz.prog 114 [vI i1] h_23 fun v_9 h_24 =>
 ∃ (i21 i22 i23 : Int), v_9 = vT [vI i21, vI i22, vI i23] ∧
 ∃ (p9 o12 : Nat), h_24.cell b1 0 = some (vP p9 o12) ∧
 ∃ (b11 o13 : Nat), a1 = some ⟨b11, o13, none⟩ ∧ (0 ≤ (IntKind.i64.wrap (((n1 : Nat) : Int) - 1)) ∧ (IntKind.i64.wrap (((n1 : Nat) : Int) - 1)) < n1) ∧
 ∃ (l10 : Bs), h_24.cell b11 ((o13 + (IntKind.i64.wrap (((n1 : Nat) : Int) - 1)).toNat * 2) + 1) = some (vS l10) ∧
 Tri Tryz.prog 110 [vP p9 o12, vS l10, vI i21, vI i22, vF 115 [] [vP b1 0, vP b9 0]] h_24 fun v_10 h_25 =>
 ∃ (i24 i25 : Int), v_10 = vT [vI i24, vI i25] ∧
 Tri Tryz.prog 115 [vI i24, vP b1 0, vP b9 0] h_25 fun v_11 h_26 =>
 v_11 = vT [] ∧
 Q (vI i25) h_26))
 (br (i2 == 5)
 ((okA a1 n1 k1 ∧ 0 ≤ (0 : Int) ∧ (0 : Int) ≤ (IntKind.i64.wrap (((n1 : Nat) : Int) - 1)) ∧ (IntKind.i64.wrap (((n1 : Nat) : Int) - 1)) ≤ k1) ∧ ∀ (a10 : OA), SlA a1 a10 0 k1 2 →
 ∀ (b12 : Nat), h_2 b12 = none → ∀ (h_27 : PHeap), h_27 = h_2.put b12 (.cells ⟨[vI 0, vI 0, vI 0]⟩ 163) →
 ∃ (I_3 : Nat → Int → PHeap → Prop), (∃ (m8 : Nat), I_3 m8 (0 : Int) h_27) ∧
 ∀ (m7 : Nat) (i26 : Int) (h_28 : PHeap), I_3 m7 i26 h_28 →
 br (decide (i26 < ((((IntKind.i64.wrap (((n1 : Nat) : Int) - 1)).toNat - 0) : Nat) : Int)))
 (∃ (b13 o14 : Nat), a10 = some ⟨b13, o14, none⟩ ∧ (0 ≤ i26 ∧ i26 < ((((IntKind.i64.wrap (((n1 : Nat) : Int) - 1)).toNat - 0) : Nat) : Int)) ∧
 ∃ (i27 : Int) (l11 : Bs), h_28.row b13 (o14 + (i26).toNat * 2) [vI i27, vS l11] ∧
 Tri Tryz.prog 50 [vS l11] h_28 fun v_12 h_29 =>
 ∃ (i28 : Int) (c3 : Bool), v_12 = vT [vI i28, vB c3] ∧
 br (!c3)
 (Q (vI 30) h_29)
 ((0 ≤ i26 ∧ i26 < 3) ∧
 ∃ (l12 : List Value) (t7 : TypeId) (z7 : Nat × Nat), h_29 b12 = some (.cells ⟨l12⟩ t7 z7) ∧ ((0 + (i26).toNat * 1) + 1 ≤ l12.length ∧ z7.2 ≤ (0 + (i26).toNat * 1)) ∧
 ∀ (h_30 : PHeap), h_30 = h_29.put b12 (.cells ⟨splice l12 (0 + (i26).toNat * 1) [vI i28]⟩ t7 z7) →
 ∃ (m9 : Nat), m9 < m7 ∧ I_3 m9 (IntKind.i64.wrap (i26 + 1)) h_30 ∧
 True))
 (∃ (p10 o15 : Nat), h_28.cell b1 0 = some (vP p10 o15) ∧
 ∃ (a11 : OA) (n8 k8 : Nat), h_28.cell p10 (o15 + 1) = some (vL a11 n8 k8) ∧
 ∀ (b14 : Nat), h_28 b14 = none → ∀ (h_31 : PHeap), h_31 = h_28.put b14 (.cells ⟨[vI 0]⟩ 3) →
 ∃ (l13 : List Value) (t8 : TypeId) (z8 : Nat × Nat), h_31 b14 = some (.cells ⟨l13⟩ t8 z8) ∧ (0 + 1 ≤ l13.length ∧ z8.2 ≤ 0) ∧
 ∀ (h_32 : PHeap), h_32 = h_31.put b14 (.cells ⟨splice l13 0 [vI ((n8 : Nat) : Int)]⟩ t8 z8) →
 ∃ (p11 o16 : Nat), h_32.cell b1 0 = some (vP p11 o16) ∧
 ∃ (p12 o17 : Nat), h_32.cell b1 0 = some (vP p12 o17) ∧
 ∃ (a12 : OA) (n9 k9 : Nat), h_32.cell p12 (o17 + 1) = some (vL a12 n9 k9) ∧
 (0 ≤ (0 : Int) ∧ (0 : Int) < 3) ∧
 ∃ (i29 : Int), h_32.cell b12 0 = some (vI i29) ∧
 (0 ≤ (1 : Int) ∧ (1 : Int) < 3) ∧
 ∃ (i30 : Int), h_32.cell b12 1 = some (vI i30) ∧
 (0 ≤ (2 : Int) ∧ (2 : Int) < 3) ∧
 ∃ (i31 : Int), h_32.cell b12 2 = some (vI i31) ∧
 ∀ (b15 : Nat), h_32 b15 = none → ∀ (h_33 : PHeap), h_33 = h_32.put b15 (.cells ⟨[vI i1, vI i29, vI i30, vI i31]⟩ 58) →
 (h_33.cell b12 2 = some (vI i31)) ∧
 (h_33.cell b12 1 = some (vI i30)) ∧
 (h_33.cell b12 0 = some (vI i29)) ∧
 (h_33.cell p12 (o17 + 1) = some (vL a12 n9 k9)) ∧
 (h_33.cell b1 0 = some (vP p12 o17)) ∧
 (h_33.cell b1 0 = some (vP p11 o16)) ∧
 Raw Tryz.prog (execOp (rho [(75, vL a12 n9 k9), (84, vL (ad b15 0) 1 1)]) (mkO o86_11 22)) h_33 fun v_13 h_34 =>
 ∃ (a13 : OA) (n10 k10 : Nat), v_13 = vL a13 n10 k10 ∧
 (h_34.cell b12 2 = some (vI i31)) ∧
 (h_34.cell b12 1 = some (vI i30)) ∧
 (h_34.cell b12 0 = some (vI i29)) ∧
 (h_34.cell b1 0 = some (vP p12 o17)) ∧
 (h_34.cell b1 0 = some (vP p11 o16)) ∧
 ∃ (l14 : List Value) (t9 : TypeId) (z9 : Nat × Nat), h_34 p11 = some (.cells ⟨l14⟩ t9 z9) ∧ ((o16 + 1) + 1 ≤ l14.length ∧ z9.2 ≤ (o16 + 1)) ∧
 ∀ (h_35 : PHeap), h_35 = h_34.put p11 (.cells ⟨splice l14 (o16 + 1) [vL a13 n10 k10]⟩ t9 z9) →
 br (!(i2 == 5))
 (Q (vI 0) h_35)
 (Tri Tryz.prog 114 [vI i1] h_35 fun v_14 h_36 =>
 ∃ (i32 i33 i34 : Int), v_14 = vT [vI i32, vI i33, vI i34] ∧
 ∃ (p13 o18 : Nat), h_36.cell b1 0 = some (vP p13 o18) ∧
 ∃ (b16 o19 : Nat), a1 = some ⟨b16, o19, none⟩ ∧ (0 ≤ (IntKind.i64.wrap (((n1 : Nat) : Int) - 1)) ∧ (IntKind.i64.wrap (((n1 : Nat) : Int) - 1)) < n1) ∧
 ∃ (l15 : Bs), h_36.cell b16 ((o19 + (IntKind.i64.wrap (((n1 : Nat) : Int) - 1)).toNat * 2) + 1) = some (vS l15) ∧
 Tri Tryz.prog 110 [vP p13 o18, vS l15, vI i32, vI i33, vF 115 [] [vP b1 0, vP b14 0]] h_36 fun v_15 h_37 =>
 ∃ (i35 i36 : Int), v_15 = vT [vI i35, vI i36] ∧
 Tri Tryz.prog 115 [vI i35, vP b1 0, vP b14 0] h_37 fun v_16 h_38 =>
 v_16 = vT [] ∧
 Q (vI i36) h_38)))
 (∀ (b17 : Nat), h_2 b17 = none → ∀ (h_39 : PHeap), h_39 = h_2.put b17 (.cells ⟨[vI 0, vI 0, vI 0]⟩ 163) →
 ∃ (I_4 : Nat → Int → PHeap → Prop), (∃ (m11 : Nat), I_4 m11 (0 : Int) h_39) ∧
 ∀ (m10 : Nat) (i37 : Int) (h_40 : PHeap), I_4 m10 i37 h_40 →
 br (decide (i37 < ((n1 : Nat) : Int)))
 (∃ (b18 o20 : Nat), a1 = some ⟨b18, o20, none⟩ ∧ (0 ≤ i37 ∧ i37 < n1) ∧
 ∃ (i38 : Int) (l16 : Bs), h_40.row b18 (o20 + (i37).toNat * 2) [vI i38, vS l16] ∧
 Tri Tryz.prog 50 [vS l16] h_40 fun v_17 h_41 =>
 ∃ (i39 : Int) (c4 : Bool), v_17 = vT [vI i39, vB c4] ∧
 br (!c4)
 (Q (vI 30) h_41)
 ((0 ≤ i37 ∧ i37 < 3) ∧
 ∃ (l17 : List Value) (t10 : TypeId) (z10 : Nat × Nat), h_41 b17 = some (.cells ⟨l17⟩ t10 z10) ∧ ((0 + (i37).toNat * 1) + 1 ≤ l17.length ∧ z10.2 ≤ (0 + (i37).toNat * 1)) ∧
 ∀ (h_42 : PHeap), h_42 = h_41.put b17 (.cells ⟨splice l17 (0 + (i37).toNat * 1) [vI i39]⟩ t10 z10) →
 ∃ (m12 : Nat), m12 < m10 ∧ I_4 m12 (IntKind.i64.wrap (i37 + 1)) h_42 ∧
 True))
 (∃ (p14 o21 : Nat), h_40.cell b1 0 = some (vP p14 o21) ∧
 ∃ (a14 : OA) (n11 k11 : Nat), h_40.cell p14 (o21 + 1) = some (vL a14 n11 k11) ∧
 ∀ (b19 : Nat), h_40 b19 = none → ∀ (h_43 : PHeap), h_43 = h_40.put b19 (.cells ⟨[vI 0]⟩ 3) →
 ∃ (l18 : List Value) (t11 : TypeId) (z11 : Nat × Nat), h_43 b19 = some (.cells ⟨l18⟩ t11 z11) ∧ (0 + 1 ≤ l18.length ∧ z11.2 ≤ 0) ∧
 ∀ (h_44 : PHeap), h_44 = h_43.put b19 (.cells ⟨splice l18 0 [vI ((n11 : Nat) : Int)]⟩ t11 z11) →
 ∃ (p15 o22 : Nat), h_44.cell b1 0 = some (vP p15 o22) ∧
 ∃ (p16 o23 : Nat), h_44.cell b1 0 = some (vP p16 o23) ∧
 ∃ (a15 : OA) (n12 k12 : Nat), h_44.cell p16 (o23 + 1) = some (vL a15 n12 k12) ∧
 (0 ≤ (0 : Int) ∧ (0 : Int) < 3) ∧
 ∃ (i40 : Int), h_44.cell b17 0 = some (vI i40) ∧
 (0 ≤ (1 : Int) ∧ (1 : Int) < 3) ∧
 ∃ (i41 : Int), h_44.cell b17 1 = some (vI i41) ∧
 (0 ≤ (2 : Int) ∧ (2 : Int) < 3) ∧
 ∃ (i42 : Int), h_44.cell b17 2 = some (vI i42) ∧
 ∀ (b20 : Nat), h_44 b20 = none → ∀ (h_45 : PHeap), h_45 = h_44.put b20 (.cells ⟨[vI i1, vI i40, vI i41, vI i42]⟩ 58) →
 (h_45.cell b17 2 = some (vI i42)) ∧
 (h_45.cell b17 1 = some (vI i41)) ∧
 (h_45.cell b17 0 = some (vI i40)) ∧
 (h_45.cell p16 (o23 + 1) = some (vL a15 n12 k12)) ∧
 (h_45.cell b1 0 = some (vP p16 o23)) ∧
 (h_45.cell b1 0 = some (vP p15 o22)) ∧
 Raw Tryz.prog (execOp (rho [(75, vL a15 n12 k12), (84, vL (ad b20 0) 1 1)]) (mkO o86_11 22)) h_45 fun v_18 h_46 =>
 ∃ (a16 : OA) (n13 k13 : Nat), v_18 = vL a16 n13 k13 ∧
 (h_46.cell b17 2 = some (vI i42)) ∧
 (h_46.cell b17 1 = some (vI i41)) ∧
 (h_46.cell b17 0 = some (vI i40)) ∧
 (h_46.cell b1 0 = some (vP p16 o23)) ∧
 (h_46.cell b1 0 = some (vP p15 o22)) ∧
 ∃ (l19 : List Value) (t12 : TypeId) (z12 : Nat × Nat), h_46 p15 = some (.cells ⟨l19⟩ t12 z12) ∧ ((o22 + 1) + 1 ≤ l19.length ∧ z12.2 ≤ (o22 + 1)) ∧
 ∀ (h_47 : PHeap), h_47 = h_46.put p15 (.cells ⟨splice l19 (o22 + 1) [vL a16 n13 k13]⟩ t12 z12) →
 br (!(i2 == 5))
 (Q (vI 0) h_47)
 (Tri Tryz.prog 114 [vI i1] h_47 fun v_19 h_48 =>
 ∃ (i43 i44 i45 : Int), v_19 = vT [vI i43, vI i44, vI i45] ∧
 ∃ (p17 o24 : Nat), h_48.cell b1 0 = some (vP p17 o24) ∧
 ∃ (b21 o25 : Nat), a1 = some ⟨b21, o25, none⟩ ∧ (0 ≤ (IntKind.i64.wrap (((n1 : Nat) : Int) - 1)) ∧ (IntKind.i64.wrap (((n1 : Nat) : Int) - 1)) < n1) ∧
 ∃ (l20 : Bs), h_48.cell b21 ((o25 + (IntKind.i64.wrap (((n1 : Nat) : Int) - 1)).toNat * 2) + 1) = some (vS l20) ∧
 Tri Tryz.prog 110 [vP p17 o24, vS l20, vI i43, vI i44, vF 115 [] [vP b1 0, vP b19 0]] h_48 fun v_20 h_49 =>
 ∃ (i46 i47 : Int), v_20 = vT [vI i46, vI i47] ∧
 Tri Tryz.prog 115 [vI i46, vP b1 0, vP b19 0] h_49 fun v_21 h_50 =>
 v_21 = vT [] ∧
 Q (vI i47) h_50)))))
theorem T86 {p1 : Nat} {o1 : Nat} {i1 : Int} {a1 : OA} {n1 : Nat} {k1 : Nat} {h : PHeap} {Q : Value → PHeap → Prop} (hR : R86 p1 o1 i1 a1 n1 k1 h Q) : Tri Tryz.prog 86 [vP p1 o1, vI i1, vL a1 n1 k1] h Q :=
 tri_of_dn mixed Tryz.func86 rfl (by kernel_rfl) low86 (rs := [.tmp 6]) (by kernel_rfl) rfl (Eq.mpr (by kernel_rfl : dnF Tryz.prog Tryz.f86.ntmps d86 [.tmp 6] [vP p1 o1, vI i1, vL a1 n1 k1] h Q = R86 p1 o1 i1 a1 n1 k1 h Q) hR)
noncomputable def d85 : DCode := up ⟨[(7, .l [qi]), (9, .c (.one false [qi]))], [], []⟩ (low Tryz.prog (fun _ => false) (Tryz.f85.body.getD .skip))
theorem low85 : low Tryz.prog (fun _ => false) (Tryz.f85.body.getD .skip) = some (eC d85) := by kernel_rfl
def R85 (p1 : Nat) (o1 : Nat) (a1 : OA) (n1 : Nat) (k1 : Nat) (p2 : Nat) (o2 : Nat) (h : PHeap) (Q : Value → PHeap → Prop) : Prop :=
 ∃ (i1 : Int), h.cell p2 o2 = some (vI i1) ∧
 Tri Tryz.prog 86 [vP p1 o1, vI i1, vL a1 n1 k1] h fun v_1 h_1 =>
 ∃ (i2 : Int), v_1 = vI i2 ∧
 Q (vI i2) h_1
theorem T85 {p1 : Nat} {o1 : Nat} {a1 : OA} {n1 : Nat} {k1 : Nat} {p2 : Nat} {o2 : Nat} {h : PHeap} {Q : Value → PHeap → Prop} (hR : R85 p1 o1 a1 n1 k1 p2 o2 h Q) : Tri Tryz.prog 85 [vP p1 o1, vL a1 n1 k1, vP p2 o2] h Q :=
 tri_of_dn mixed Tryz.func85 rfl (by kernel_rfl) low85 (rs := [.tmp 5]) (by kernel_rfl) rfl (Eq.mpr (by kernel_rfl : dnF Tryz.prog Tryz.f85.ntmps d85 [.tmp 5] [vP p1 o1, vL a1 n1 k1, vP p2 o2] h Q = R85 p1 o1 a1 n1 k1 p2 o2 h Q) hR)
end Go.Proofs.D
namespace Go.As
def instrX (a : St) (op : Nat) (l : List Tk) : R St :=
 if form op ≤ 3 then (regsS l) >>= fun r => .ok { a with p := { a.p with code := a.p.code ++ [fieldsI op r 0] } }
 else (regsS l.dropLast) >>= fun r => (valueS a.line (l.getLast?.getD ⟨1, []⟩).text 0 a.p.code.length (limits op).1 (limits op).2) >>= fun x =>
  .ok { a with p := { a.p with code := a.p.code ++ [fieldsI op r x.1] }, uses := a.uses ++ x.2 }
theorem instr_X (a : St) (op : Nat) (l : List Tk) : instrS a op l = (instrX a op l) >>= fun a' => if 1024 ≤ a.p.code.length then .error 9 else .ok a' := by
 unfold instrS instrX
 split
 · cases regsS l <;> rfl
 · cases regsS l.dropLast with
   | error e => rfl
   | ok r =>
     show ((valueS a.line (l.getLast?.getD ⟨1, []⟩).text 0 a.p.code.length (limits op).1 (limits op).2) >>= _) = (((valueS a.line (l.getLast?.getD ⟨1, []⟩).text 0 a.p.code.length (limits op).1 (limits op).2) >>= _) >>= _)
     cases valueS a.line (l.getLast?.getD ⟨1, []⟩).text 0 a.p.code.length (limits op).1 (limits op).2 <;> rfl
end Go.As
namespace Go.Proofs.D
open Go Go.Den Go.As
set_option maxRecDepth 100000
attribute [local irreducible] IntKind.wrap Tri
section
variable {hb h : PHeap} {p mS : Nat} {a : As.St} {K : AK} {a3 : OA} {k3 : Nat} {os : List Tk}
theorem ASK.putOther {q t : Nat} {l : Array Value} {z : Nat × Nat} (hA : ASK hb h p mS a K) (hq : h q = some (.cells l t z)) (hbq : hb q = none) (n1 : t ≠ 58) (n2 : t ≠ 5) (n3 : t ≠ 78) (n4 : t ≠ 74) (o' : Obj) : ASK hb (h.put q o') p mS a K := by
 have hqp : p ≠ q := fun e => by
  subst e; rw [hA.obj] at hq; injection hq with hq; injection hq with _ hq _; exact n4 hq.symm
 have hqm : K.mb ≠ q := fun e => by rw [← e, hA.labs] at hq; cases hq
 refine ⟨fun r o hr => ?_, hA.new, by rw [put_ne hqp]; exact hA.obj, hA.code.put hq (notE_cells n1 _ _), hA.data.put hq (notE_cells n2 _ _), hA.uses.put hq (notE_cells n3 _ _), hA.useAt, hA.mnew, by rw [put_ne hqm]; exact hA.labs⟩
 rw [put_ne fun e => by subst e; rw [hbq] at hr; cases hr]; exact hA.ext _ _ hr
def loop86 (a2 : OA) (NI : Int) (b2 : Nat) (h_3 : PHeap) (Q : Value → PHeap → Prop) (C : PHeap → Prop) : Prop :=
 ∃ (I_1 : Nat → Int → PHeap → Prop), (∃ (m2 : Nat), I_1 m2 (0 : Int) h_3) ∧
 ∀ (m1 : Nat) (i4 : Int) (h_4 : PHeap), I_1 m1 i4 h_4 →
 br (decide (i4 < NI))
 (∃ (b3 o2 : Nat), a2 = some ⟨b3, o2, none⟩ ∧ (0 ≤ i4 ∧ i4 < NI) ∧
 ∃ (i5 : Int) (l1 : Bs), h_4.row b3 (o2 + (i4).toNat * 2) [vI i5, vS l1] ∧
 Tri Tryz.prog 50 [vS l1] h_4 fun v_2 h_5 =>
 ∃ (i6 : Int) (c1 : Bool), v_2 = vT [vI i6, vB c1] ∧
 br (!c1)
 (Q (vI 30) h_5)
 ((0 ≤ i4 ∧ i4 < 3) ∧
 ∃ (l2 : List Value) (t1 : TypeId) (z1 : Nat × Nat), h_5 b2 = some (.cells ⟨l2⟩ t1 z1) ∧ ((0 + (i4).toNat * 1) + 1 ≤ l2.length ∧ z1.2 ≤ (0 + (i4).toNat * 1)) ∧
 ∀ (h_6 : PHeap), h_6 = h_5.put b2 (.cells ⟨splice l2 (0 + (i4).toNat * 1) [vI i6]⟩ t1 z1) →
 ∃ (m3 : Nat), m3 < m1 ∧ I_1 m3 (IntKind.i64.wrap (i4 + 1)) h_6 ∧
 True))
 (C h_4)
def regC (r : List Int) : List Value := [vI (r.getD 0 0), vI (r.getD 1 0), vI (r.getD 2 0)]
theorem regC_set {r : List Int} {x : Int} (h : r.length < 3) : splice (regC r) (0 + r.length * 1) [vI x] = regC (r ++ [x]) := by
 match r, h with
 | [], _ => rfl
 | [_], _ => rfl
 | [_, _], _ => rfl
 | _ :: _ :: _ :: _, h => simp at h; omega
theorem loop_86 {a2 : OA} {N b2 : Nat} {NI : Int} {h3 : PHeap} {Q : Value → PHeap → Prop} {C : PHeap → Prop} (hNI : NI = (N : Int)) (hN : N ≤ os.length) (hN3 : N ≤ 3) (hT : TkAt hb a2 os) (hA : AS hb h3 p mS a) (hb2 : h3 b2 = some (.cells ⟨[vI 0, vI 0, vI 0]⟩ 163 (0, 0))) (hn2 : hb b2 = none)
 (herr : ∀ h', regsS (os.take N) = .error 30 → AS hb h' p mS a → Q (vI 30) h') (hok : ∀ h' r, regsS (os.take N) = .ok r → AS hb h' p mS a → h' b2 = some (.cells ⟨regC r⟩ 163 (0, 0)) → C h') : loop86 a2 NI b2 h3 Q C := by
 subst hNI
 unfold loop86
 refine ⟨fun m i h' => ∃ (j : Nat) (r : List Int), i = (j : Int) ∧ j + m = N ∧ AS hb h' p mS a ∧ h' b2 = some (.cells ⟨regC r⟩ 163 (0, 0)) ∧ r.length = j ∧ regsS (os.take N) = (regsS ((os.take N).drop j)).map fun x => r ++ x,
  ⟨N, 0, [], rfl, by omega, hA, hb2, rfl, by cases h : regsS (os.take N) <;> simp [h, Except.map]⟩, ?_⟩
 rintro m _ h4 ⟨j, r, rfl, hjm, hA4, hb4, hrl, hrg⟩
 have hlen : (os.take N).length = N := by rw [List.length_take]; omega
 refine br_split (fun e => ?_) fun e => ?_
 · have hlt : j < N := by have := of_decide_eq_true e; omega
   have hlt2 : j < (os.take N).length := by omega
   have hdr := List.drop_eq_getElem_cons hlt2
   have hg : os[j]? = some (os.take N)[j] := by
    rw [List.getElem_take]; simp
   rw [hdr] at hrg
   generalize (os.take N)[j] = t at *
   obtain ⟨b, o, ha, hr⟩ := (hT.ext hA4.ext).get hg
   refine ⟨b, o, ha, ⟨by omega, by omega⟩, _, _, (by rw [Int.toNat_natCast]; exact hr), ?_⟩
   refine Tri.mono (register_t h4 t.text) ?_
   rintro _ h4 ⟨rfl, rfl⟩
   rw [regsS] at hrg
   unfold regV
   cases hreg : regB t.text with
   | none =>
     rw [hreg] at hrg
     exact ⟨_, _, rfl, br_pos rfl (herr h4 hrg hA4)⟩
   | some x =>
     rw [hreg] at hrg
     refine ⟨_, _, rfl, br_neg rfl ⟨⟨by omega, by omega⟩, _, _, _, hb4, ⟨by simp [regC]; omega, Nat.zero_le _⟩, ?_⟩⟩
     rintro _ rfl
     rw [Int.toNat_natCast, ← hrl, regC_set (by omega)]
     obtain ⟨K, hK⟩ := hA4
     refine ⟨m - 1, by omega, ⟨r.length + 1, r ++ [(x : Int)], ?_, by omega, ⟨K, hK.putOther hb4 hn2 (by decide) (by decide) (by decide) (by decide) _⟩, put_same _ _ _, by simp, ?_⟩, trivial⟩
     · rw [wrap64 (by omega) (by omega)]; omega
     · rw [hrg, hrl]
       cases regsS ((os.take N).drop (j + 1)) <;> simp [Except.map]
 · have hj : j = N := by have := of_decide_eq_false e; omega
   subst hj
   rw [List.drop_of_length_le (by omega)] at hrg
   simp only [regsS, Except.map, List.append_nil] at hrg
   exact hok h4 r hrg hA4 hb4
def app86 (b1 b2 : Nat) (i1 : Int) (h_4 : PHeap) (C : Nat → PHeap → Prop) : Prop :=
 ∃ (p2 o3 : Nat), h_4.cell b1 0 = some (vP p2 o3) ∧
 ∃ (a3 : OA) (n2 k2 : Nat), h_4.cell p2 (o3 + 1) = some (vL a3 n2 k2) ∧
 ∀ (b4 : Nat), h_4 b4 = none → ∀ (h_7 : PHeap), h_7 = h_4.put b4 (.cells ⟨[vI 0]⟩ 3) →
 ∃ (l3 : List Value) (t2 : TypeId) (z2 : Nat × Nat), h_7 b4 = some (.cells ⟨l3⟩ t2 z2) ∧ (0 + 1 ≤ l3.length ∧ z2.2 ≤ 0) ∧
 ∀ (h_8 : PHeap), h_8 = h_7.put b4 (.cells ⟨splice l3 0 [vI ((n2 : Nat) : Int)]⟩ t2 z2) →
 ∃ (p3 o4 : Nat), h_8.cell b1 0 = some (vP p3 o4) ∧
 ∃ (p4 o5 : Nat), h_8.cell b1 0 = some (vP p4 o5) ∧
 ∃ (a4 : OA) (n3 k3 : Nat), h_8.cell p4 (o5 + 1) = some (vL a4 n3 k3) ∧
 (0 ≤ (0 : Int) ∧ (0 : Int) < 3) ∧
 ∃ (i7 : Int), h_8.cell b2 0 = some (vI i7) ∧
 (0 ≤ (1 : Int) ∧ (1 : Int) < 3) ∧
 ∃ (i8 : Int), h_8.cell b2 1 = some (vI i8) ∧
 (0 ≤ (2 : Int) ∧ (2 : Int) < 3) ∧
 ∃ (i9 : Int), h_8.cell b2 2 = some (vI i9) ∧
 ∀ (b5 : Nat), h_8 b5 = none → ∀ (h_9 : PHeap), h_9 = h_8.put b5 (.cells ⟨[vI i1, vI i7, vI i8, vI i9]⟩ 58) →
 (h_9.cell b2 2 = some (vI i9)) ∧
 (h_9.cell b2 1 = some (vI i8)) ∧
 (h_9.cell b2 0 = some (vI i7)) ∧
 (h_9.cell p4 (o5 + 1) = some (vL a4 n3 k3)) ∧
 (h_9.cell b1 0 = some (vP p4 o5)) ∧
 (h_9.cell b1 0 = some (vP p3 o4)) ∧
 Raw Tryz.prog (execOp (rho [(75, vL a4 n3 k3), (84, vL (ad b5 0) 1 1)]) (mkO o86_11 22)) h_9 fun v_3 h_10 =>
 ∃ (a5 : OA) (n4 k4 : Nat), v_3 = vL a5 n4 k4 ∧
 (h_10.cell b2 2 = some (vI i9)) ∧
 (h_10.cell b2 1 = some (vI i8)) ∧
 (h_10.cell b2 0 = some (vI i7)) ∧
 (h_10.cell b1 0 = some (vP p4 o5)) ∧
 (h_10.cell b1 0 = some (vP p3 o4)) ∧
 ∃ (l4 : List Value) (t3 : TypeId) (z3 : Nat × Nat), h_10 p3 = some (.cells ⟨l4⟩ t3 z3) ∧ ((o4 + 1) + 1 ≤ l4.length ∧ z3.2 ≤ (o4 + 1)) ∧
 ∀ (h_11 : PHeap), h_11 = h_10.put p3 (.cells ⟨splice l4 (o4 + 1) [vL a5 n4 k4]⟩ t3 z3) →
 C b4 h_11
theorem app_86 {b1 b2 : Nat} {i1 : Int} {r : List Int} {h4 : PHeap} {C : Nat → PHeap → Prop} (hA : AS hb h4 p mS a) (hC : a.p.code.length ≤ 1000000) (hd1 : hb.cell b1 0 = some (vP p 0)) (hb2 : h4 b2 = some (.cells ⟨regC r⟩ 163 (0, 0)))
 (hk : ∀ b4 hb' h', Ext hb hb' → AS hb' h' p mS { a with p := { a.p with code := a.p.code ++ [⟨i1, r.getD 0 0, r.getD 1 0, r.getD 2 0⟩] } } → hb'.cell b4 0 = some (vI (a.p.code.length : Int)) → C b4 h') : app86 b1 b2 i1 h4 C := by
 have hA0 := hA
 obtain ⟨K, hK⟩ := hA
 unfold app86
 refine ⟨_, _, cell_ext (fun ob => hK.ext b1 ob) hd1, _, _, _, (by rw [PA_cell hK.obj]; rfl), ?_⟩
 intro b4 hb4 h7 hh7
 refine ⟨_, _, _, Put.at hh7, ⟨by simp, Nat.zero_le _⟩, ?_⟩
 intro h8 hh8
 have hh8' : h8 = h4.put b4 (.cells ⟨[vI (a.p.code.length : Int)]⟩ 3 (0, 0)) := by rw [hh8, hh7, put_put]; rfl
 clear hh8 hh7 h7 hK K
 have x8 := Put.ext hh8' hb4
 obtain ⟨hb', hbx, hA8, hin⟩ := hA0.rebase x8
 have d4 : hb'.cell b4 0 = some (vI (a.p.code.length : Int)) := cell_of (hin b4 _ hb4 (Put.at hh8')) 0
 have d1 := cell_ext (fun ob => hbx b1 ob) hd1
 obtain ⟨K, hK⟩ := hA8
 have hb28 := x8 _ _ hb2
 refine ⟨_, _, cell_ext (fun ob => hK.ext b1 ob) d1, _, _, cell_ext (fun ob => hK.ext b1 ob) d1, _, _, _, (by rw [PA_cell hK.obj]; rfl), ⟨by decide, by decide⟩, _, cell_of hb28 0, ⟨by decide, by decide⟩, _, cell_of hb28 1, ⟨by decide, by decide⟩, _, cell_of hb28 2, ?_⟩
 intro b5 hb5 h9 hh9
 have x9 := Put.ext hh9 hb5
 have hK9 := hK.grow x9
 have hb29 := x9 _ _ hb28
 refine ⟨cell_of hb29 2, cell_of hb29 1, cell_of hb29 0, (by rw [PA_cell hK9.obj]; rfl), cell_ext (fun ob => hK9.ext b1 ob) d1, cell_ext (fun ob => hK9.ext b1 ob) d1, ?_⟩
 refine Raw.mono (LM.push und22 elem58 rfl rfl rfl rfl rfl hK.ext hK.code hb5 hh9 rfl rfl (by omega)) ?_
 rintro _ h10 ⟨b6, cap, rfl, hx10, hM10, hg⟩
 have hb210 : h10 b2 = some (.cells ⟨regC r⟩ 163 (0, 0)) := by rw [hg.ne hK9.code hb29 (notE_cells (by decide) _ _)]; exact hb29
 obtain ⟨hp10, hK10⟩ := hK9.appCode (x := ⟨i1, r.getD 0 0, r.getD 1 0, r.getD 2 0⟩) hx10 hM10 hg rfl
 refine ⟨_, _, _, rfl, cell_of hb210 2, cell_of hb210 1, cell_of hb210 0, cell_ext (fun ob => hx10 b1 ob) d1, cell_ext (fun ob => hx10 b1 ob) d1, _, _, _, (by rw [hp10]; exact hK9.obj), ⟨by simp, Nat.zero_le _⟩, ?_⟩
 rintro _ rfl
 exact hk b4 hb' _ hbx ⟨_, hK10⟩ d4
def num86 (b1 b4 : Nat) (i1 : Int) (a1 : OA) (n1 : Nat) (h_11 : PHeap) (Q : Value → PHeap → Prop) : Prop :=
 Tri Tryz.prog 114 [vI i1] h_11 fun v_4 h_12 =>
 ∃ (i10 i11 i12 : Int), v_4 = vT [vI i10, vI i11, vI i12] ∧
 ∃ (p5 o6 : Nat), h_12.cell b1 0 = some (vP p5 o6) ∧
 ∃ (b6 o7 : Nat), a1 = some ⟨b6, o7, none⟩ ∧ (0 ≤ (IntKind.i64.wrap (((n1 : Nat) : Int) - 1)) ∧ (IntKind.i64.wrap (((n1 : Nat) : Int) - 1)) < n1) ∧
 ∃ (l5 : Bs), h_12.cell b6 ((o7 + (IntKind.i64.wrap (((n1 : Nat) : Int) - 1)).toNat * 2) + 1) = some (vS l5) ∧
 Tri Tryz.prog 110 [vP p5 o6, vS l5, vI i10, vI i11, vF 115 [] [vP b1 0, vP b4 0]] h_12 fun v_5 h_13 =>
 ∃ (i13 i14 : Int), v_5 = vT [vI i13, vI i14] ∧
 Tri Tryz.prog 115 [vI i13, vP b1 0, vP b4 0] h_13 fun v_6 h_14 =>
 v_6 = vT [] ∧
 Q (vI i14) h_14
theorem setC_snoc (l : List Ins) (x : Ins) (n : Int) : setC (l ++ [x]) l.length n = l ++ [{ x with c := n }] := by
 unfold setC
 induction l with
 | nil => rfl
 | cons y l ih => rw [List.cons_append, List.length_cons, List.modify_succ_cons, ih]; rfl
theorem num_86 {b1 b4 op : Nat} {x : Ins} {code : List Ins} {t : Tk} {h11 : PHeap} (hA : AS hb h11 p mS { a with p := { a.p with code := code ++ [x] } }) (hO : OpTab hb) (hop : op < 27) (hf : 4 ≤ form op) (hd1 : hb.cell b1 0 = some (vP p 0)) (hd4 : hb.cell b4 0 = some (vI (code.length : Int)))
 (hT : TkAt hb a3 os) (ht : os.getLast? = some t) (hl : t.text.length ≤ 1000000) (hlen : os.length ≤ 1000000) (hU : a.uses.length ≤ 1000000) :
 num86 b1 b4 (op : Int) a3 os.length h11 fun v h' => Res hb p mS a.line ((valueS a.line t.text 0 code.length (limits op).1 (limits op).2) >>= fun y => .ok { a with p := { a.p with code := code ++ [{ x with c := y.1 }] }, uses := a.uses ++ y.2 }) v h' := by
 unfold num86
 have hne : os ≠ [] := fun e => by rw [e] at ht; cases ht
 have hpos : 0 < os.length := List.length_pos_iff.2 hne
 refine Tri.mono (limits_t h11 (hO.ext hA.ext) hop hf) ?_
 rintro _ h12 ⟨rfl, rfl⟩
 have hg : os[os.length - 1]? = some t := by rw [← List.getLast?_eq_getElem?]; exact ht
 obtain ⟨b, o, ha, _, hc⟩ := tk_cell (n := 1) hA hT hg
 have hw : IntKind.i64.wrap ((os.length : Int) - 1) = ((os.length - 1 : Nat) : Int) := by rw [wrap64 (by omega) (by omega)]; omega
 rw [hw]
 refine ⟨_, _, _, rfl, _, _, cell_ext (fun ob => hA.ext b1 ob) hd1, b, o, ha, ⟨by omega, by omega⟩, _, (by rw [Int.toNat_natCast]; exact hc), ?_⟩
 refine Tri.mono (value_t (kind := 0) (idx := code.length) hA hl (by simp only; omega) (.inr (.inr ⟨rfl, rfl, b1, b4, rfl, hd1, hd4⟩)) (limits op).1 (limits op).2 rfl rfl (fun h => by omega)) ?_
 intro v h13 hV
 simp only at hV
 cases hv : valueS a.line t.text 0 code.length (limits op).1 (limits op).2 with
 | error e =>
   rw [hv] at hV
   obtain ⟨rfl, he, hb2, hbx, hA2⟩ := hV
   refine ⟨_, _, rfl, ?_⟩
   refine Tri.mono (put115_t hA2 (cell_ext (fun ob => hbx b1 ob) hd1) (cell_ext (fun ob => hbx b4 ob) hd4) (by simp)) ?_
   rintro _ h14 ⟨rfl, hA14⟩
   refine ⟨rfl, rfl, he, hbx.trans hA14.ext, hA14.line⟩
 | ok y =>
   obtain ⟨n, us⟩ := y
   rw [hv] at hV
   obtain ⟨rfl, hb2, hbx, hA2⟩ := hV
   refine ⟨_, _, rfl, ?_⟩
   refine Tri.mono (put115_t hA2 (cell_ext (fun ob => hbx b1 ob) hd1) (cell_ext (fun ob => hbx b4 ob) hd4) (by simp)) ?_
   rintro _ h14 ⟨rfl, hA14⟩
   simp only [setC_snoc] at hA14
   exact ⟨rfl, rfl, hb2, hbx, hA14⟩
theorem form4 (k : Nat) (hk : k < 27) (op : 4 ≤ form k) : ∀ (n : Nat), operandsN k = n → 1 ≤ n ∧ n ≤ 3 := by
 intro n hn
 have := form_le k
 unfold operandsN at hn
 have hf7 : form k = 4 ∨ form k = 5 ∨ form k = 6 := by omega
 rcases hf7 with e | e | e <;> rw [e] at hn <;> simp at hn <;> omega
theorem isf {f n : Nat} {b : Bool} (e : (((f : Nat) : Int) == (n : Int)) = b) : decide (f = n) = b := by
 subst e; rw [Bool.eq_iff_iff]; simp; omega
theorem instr86_t (hA : AS hb h p mS a) (hO : OpTab hb) {op : Nat} (hop : op < 27) (hT : TkAt hb a3 os) (hk3 : os.length ≤ k3) (hok3 : okA a3 os.length k3) (hn : os.length = operandsN op) (hl : ∀ t ∈ os, t.text.length ≤ 1000000) (hC : a.p.code.length ≤ 1000000) (hU : a.uses.length ≤ 1000000) :
 Tri Tryz.prog 86 [vP p 0, vI (op : Int), vL a3 os.length k3] h fun v h' => Res hb p mS a.line (instrX a op os) v h' := by
 have h3 : os.length ≤ 3 := by rw [hn]; unfold operandsN; split <;> omega
 refine T86 ?_
 unfold R86
 intro b1 hb1 h1 hh1
 have x1 := Put.ext hh1 hb1
 obtain ⟨hB, hbx, hA2, hin⟩ := hA.rebase x1
 have d1 : hB.cell b1 0 = some (vP p 0) := cell_of (hin b1 _ hb1 (Put.at hh1)) 0
 have hO2 := hO.ext hbx
 have hT2 := hT.ext hbx
 refine Tri.mono (form_t h1 (hO2.ext hA2.ext) hop) ?_
 rintro _ h2 ⟨rfl, rfl⟩
 refine ⟨_, _, rfl, ?_⟩
 have h6 := form_le op
 have err : ∀ {h' l}, regsS l = .error 30 → (4 ≤ form op ∧ l = os.dropLast ∨ form op ≤ 3 ∧ l = os) → AS hB h' p mS a → Res hb p mS a.line (instrX a op os) (vI 30) h' := fun {h' l} hr hc hA' => by
  have : instrX a op os = .error 30 := by
   unfold instrX
   rcases hc with ⟨hf, rfl⟩ | ⟨hf, rfl⟩
   · rw [if_neg (by omega), hr]; rfl
   · rw [if_pos hf, hr]; rfl
  exact res_err this (by decide) hbx hA'
 have num : 4 ≤ form op → ∀ C : Nat → PHeap → Prop, (∀ b4 h11, num86 b1 b4 (op : Int) a3 os.length h11 (fun v h' => Res hb p mS a.line (instrX a op os) v h') → C b4 h11) → ((okA a3 os.length k3 ∧ 0 ≤ (0 : Int) ∧ (0 : Int) ≤ (IntKind.i64.wrap (((os.length : Nat) : Int) - 1)) ∧ (IntKind.i64.wrap (((os.length : Nat) : Int) - 1)) ≤ k3) ∧ ∀ (a2 : OA), SlA a3 a2 0 k3 2 →
  ∀ (b2 : Nat), h2 b2 = none → ∀ (h_3 : PHeap), h_3 = h2.put b2 (.cells ⟨[vI 0, vI 0, vI 0]⟩ 163) →
  loop86 a2 ((((IntKind.i64.wrap (((os.length : Nat) : Int) - 1)).toNat - 0) : Nat) : Int) b2 h_3 (fun v h' => Res hb p mS a.line (instrX a op os) v h') fun h_4 => app86 b1 b2 (op : Int) h_4 C) := by
  intro hf C hC2
  obtain ⟨l1, l2⟩ := form4 op hop hf _ hn.symm
  have hw : IntKind.i64.wrap ((os.length : Int) - 1) = ((os.length - 1 : Nat) : Int) := by rw [wrap64 (by omega) (by omega)]; omega
  rw [hw]
  refine ⟨⟨hok3, by omega, by omega, by omega⟩, ?_⟩
  intro a2 hs2 b2 hb2 h3' hh3
  have x3 := Put.ext hh3 hb2
  have hTa : TkAt hB a2 os := by have := hT2.drop hk3 hs2; rwa [List.drop_zero] at this
  have hn2 : hB b2 = none := hA2.ext.dom _ hb2
  have htk : os.take (os.length - 1) = os.dropLast := List.dropLast_eq_take.symm
  obtain ⟨t, ht⟩ : ∃ t, os.getLast? = some t := by
   cases hg : os.getLast? with
   | some t => exact ⟨t, rfl⟩
   | none => rw [List.getLast?_eq_none_iff] at hg; rw [hg] at l1; simp at l1
  have htl := hl t (List.mem_of_getLast? ht)
  refine loop_86 (N := os.length - 1) (by rw [Int.toNat_natCast, Nat.sub_zero]) (by omega) (by omega) hTa (hA2.grow x3) (Put.at hh3) hn2 (fun h' hr hA' => ?_) fun h' r hr hA' hb' => ?_
  · rw [htk] at hr
    exact err hr (.inl ⟨hf, rfl⟩) hA'
  · rw [htk] at hr
    refine app_86 hA' hC d1 hb' fun b4 hB' h'' hbx' hA'' d4 => ?_
    have := num_86 (code := a.p.code) hA'' ((hO2.ext hbx')) hop hf (cell_ext (fun ob => hbx' b1 ob) d1) d4 (hT2.ext hbx') ht htl (by omega) hU
    refine hC2 _ _ (Tri.mono this ?_)
    rintro v1 h12 ⟨i10, i11, i12, rfl, p5, o6, hc5, b6, o7, ha6, hn6, l5, hl5, hT5⟩
    refine ⟨i10, i11, i12, rfl, p5, o6, hc5, b6, o7, ha6, hn6, l5, hl5, Tri.mono hT5 ?_⟩
    rintro v2 h13 ⟨i13, i14, rfl, hT6⟩
    refine ⟨i13, i14, rfl, Tri.mono hT6 ?_⟩
    rintro v3 h14 ⟨rfl, hR⟩
    refine ⟨rfl, ?_⟩
    have hX : instrX a op os = (valueS a.line t.text 0 a.p.code.length (limits op).1 (limits op).2) >>= fun y => .ok { a with p := { a.p with code := a.p.code ++ [fieldsI op r y.1] }, uses := a.uses ++ y.2 } := by
     unfold instrX
     rw [if_neg (by omega), hr, ht]; rfl
    rw [hX]
    have hfd : ∀ c, fieldsI op r c = ⟨op, r.getD 0 0, r.getD 1 0, c⟩ := fun c => by unfold fieldsI; rw [if_neg (by omega)]
    simp only [hfd]
    cases hv : valueS a.line t.text 0 a.p.code.length (limits op).1 (limits op).2 with
    | error e =>
      rw [hv] at hR
      obtain ⟨g1, g2, g3, g4⟩ := hR
      exact ⟨g1, g2, (hbx.trans hbx').trans g3, g4⟩
    | ok y =>
      rw [hv] at hR
      obtain ⟨g1, hB2, g2, g3⟩ := hR
      exact ⟨g1, hB2, (hbx.trans hbx').trans g2, g3⟩
 refine br_split (fun e => num (by have := of_decide_eq_true (isf (n := 6) e); omega) _ fun b4 h11 hh => hh) fun e6 => br_split (fun e => num (by have := of_decide_eq_true (isf (n := 4) e); omega) _ fun b4 h11 hh => hh) fun e4 =>
  br_split (fun e => num (by have := of_decide_eq_true (isf (n := 5) e); omega) _ fun b4 h11 hh => br_neg (by rw [e]; rfl) hh) fun e5 => ?_
 have hf : form op ≤ 3 := by
  have := of_decide_eq_false (isf (n := 6) e6); have := of_decide_eq_false (isf (n := 4) e4); have := of_decide_eq_false (isf (n := 5) e5)
  omega
 intro b2 hb2 h3' hh3
 have x3 := Put.ext hh3 hb2
 have hn2 : hB b2 = none := hA2.ext.dom _ hb2
 refine loop_86 (N := os.length) rfl (Nat.le_refl _) h3 hT2 (hA2.grow x3) (Put.at hh3) hn2 (fun h' hr hA' => ?_) fun h' r hr hA' hb' => ?_
 · rw [List.take_length] at hr
   exact err hr (.inr ⟨hf, rfl⟩) hA'
 · rw [List.take_length] at hr
   refine app_86 hA' hC d1 hb' fun b4 hB' h'' hbx' hA'' d4 => ?_
   refine br_pos (by rw [e5]; rfl) ?_
   have hX : instrX a op os = .ok { a with p := { a.p with code := a.p.code ++ [fieldsI op r 0] } } := by
    unfold instrX
    rw [if_pos hf, hr]; rfl
   rw [hX]
   have hfd : fieldsI op r 0 = ⟨op, r.getD 0 0, r.getD 1 0, r.getD 2 0⟩ := by unfold fieldsI; rw [if_pos hf]
   rw [hfd]
   exact ⟨rfl, hB', hbx.trans hbx', hA''⟩
theorem stmt85_t (hA : AS hb h p mS a) (hO : OpTab hb) {op c : Nat} (hc : hb.cell c 0 = some (vI (op : Int))) (hop : op < 27) (hT : TkAt hb a3 os) (hk3 : os.length ≤ k3) (hok3 : okA a3 os.length k3) (hn : os.length = operandsN op) (hl : ∀ t ∈ os, t.text.length ≤ 1000000) (hC : a.p.code.length ≤ 1000000) (hU : a.uses.length ≤ 1000000) :
 Tri Tryz.prog 85 [vP p 0, vL a3 os.length k3, vP c 0] h fun v h' => Res hb p mS a.line (instrX a op os) v h' := by
 refine T85 ?_
 unfold R85
 refine ⟨_, cell_ext (fun ob => hA.ext c ob) hc, ?_⟩
 refine Tri.mono (instr86_t hA hO hop hT hk3 hok3 hn hl hC hU) ?_
 intro v h1 hR
 cases hX : instrX a op os with
 | error e => rw [hX] at hR; obtain ⟨rfl, g⟩ := hR; exact ⟨_, rfl, rfl, g⟩
 | ok a' => rw [hX] at hR; obtain ⟨rfl, g⟩ := hR; exact ⟨_, rfl, rfl, g⟩
end
end Go.Proofs.D
namespace Go.As
theorem tok_facts : ∀ (f : Nat) (s : Bytes) (ts : List Tk), tokensS f s = some ts → ∀ t ∈ ts, t.text.length ≤ s.length + 1 ∧ (t.kind = 1 → t.text ≠ [])
 | 0, _, _, h, _, _ => by simp [tokensS] at h
 | f + 1, [], ts, h, t, ht => by simp [tokensS] at h; subst h; cases ht
 | f + 1, c :: r, ts, h, t, ht => by
   rw [tokensS] at h
   have rec1 : ∀ l, tokensS f r = some l → t ∈ l → t.text.length ≤ (c :: r).length + 1 ∧ (t.kind = 1 → t.text ≠ []) := fun l h1 h2 => by
    have := tok_facts f r l h1 t h2
    exact ⟨by simp; omega, this.2⟩
   split at h
   · simp at h; subst h; cases ht
   split at h
   · exact rec1 ts h ht
   split at h
   · simp only [Option.map_eq_some_iff] at h
     obtain ⟨l, h1, rfl⟩ := h
     rcases List.mem_cons.1 ht with rfl | ht
     · exact ⟨by simp, fun h => by cases h⟩
     · exact rec1 l h1 ht
   split at h
   · simp only [Option.map_eq_some_iff] at h
     obtain ⟨l, h1, rfl⟩ := h
     rcases List.mem_cons.1 ht with rfl | ht
     · exact ⟨by simp, fun h => by cases h⟩
     · exact rec1 l h1 ht
   split at h
   · split at h
     · cases h
     · rename_i x r' hu
       have hl := unq_len hu
       have hx : ∀ (f : Nat) (r x r' : Bytes), unq f r = some (x, r') → x.length ≤ r.length := by
        intro f
        induction f with
        | zero => intro r x r' h; simp [unq] at h
        | succ f ih =>
          intro r x r' h
          match r, h with
          | [], h => simp [unq] at h
          | c :: r, h =>
            rw [unq] at h
            split at h
            · simp only [Option.some.injEq, Prod.mk.injEq] at h; obtain ⟨rfl, _⟩ := h; simp
            split at h
            · split at h
              · cases h
              · rename_i b r2 he
                have h1 := escB_len he
                simp only [Option.map_eq_some_iff] at h
                obtain ⟨⟨y, r3⟩, h2, h3⟩ := h
                have := ih _ _ _ h2
                simp only [Prod.mk.injEq] at h3
                obtain ⟨rfl, _⟩ := h3
                simp; omega
            split at h
            · cases h
            · simp only [Option.map_eq_some_iff] at h
              obtain ⟨⟨y, r3⟩, h2, h3⟩ := h
              have := ih _ _ _ h2
              simp only [Prod.mk.injEq] at h3
              obtain ⟨rfl, _⟩ := h3
              simp; omega
       have hxl := hx _ _ _ _ hu
       simp only [Option.map_eq_some_iff] at h
       obtain ⟨l, h1, rfl⟩ := h
       rcases List.mem_cons.1 ht with rfl | ht
       · exact ⟨by simp; omega, fun h => by cases h⟩
       · have := tok_facts f r' l h1 t ht
         exact ⟨by simp; omega, this.2⟩
   split at h
   · rename_i hw
     simp only [Option.map_eq_some_iff] at h
     obtain ⟨l, h1, rfl⟩ := h
     have htd := take_drop_len (c :: r)
     rcases List.mem_cons.1 ht with rfl | ht
     · refine ⟨by simp only [List.length_cons] at *; omega, fun _ => ?_⟩
       simp only
       rw [List.takeWhile_cons, if_pos hw]; simp
     · have := tok_facts f _ l h1 t ht
       exact ⟨by simp only [List.length_cons] at *; omega, this.2⟩
   · cases h
theorem operands_sub : ∀ (l os : List Tk), operandsS l = some os → os.length ≤ l.length ∧ ∀ t ∈ os, t ∈ l
 | [], os, h => by simp [operandsS] at h; subst h; exact ⟨by simp, fun t ht => by cases ht⟩
 | [t], os, h => by
   simp only [operandsS] at h
   split at h
   · injection h with h; subst h; exact ⟨by simp, fun t ht => ht⟩
   · cases h
 | [_, _], os, h => by simp [operandsS] at h
 | t :: u :: v :: l, os, h => by
   simp only [operandsS] at h
   split at h
   · simp only [Option.map_eq_some_iff] at h
     obtain ⟨x, h1, rfl⟩ := h
     obtain ⟨h2, h3⟩ := operands_sub (v :: l) x h1
     refine ⟨by simp at h2 ⊢; omega, fun w hw => ?_⟩
     rcases List.mem_cons.1 hw with rfl | hw
     · exact List.mem_cons_self ..
     · exact List.mem_cons_of_mem _ (List.mem_cons_of_mem _ (h3 w hw))
   · cases h
theorem split_sub : ∀ (ts : List Tk) (ls : List Bytes) (o : Option (Bytes × List Tk)), splitL ts = some (ls, o) → ls.length ≤ ts.length ∧ ∀ n os, o = some (n, os) → os.length ≤ ts.length ∧ (∀ t ∈ os, t ∈ ts) ∧ ∃ t ∈ ts, t.kind = 1 ∧ t.text = n
 | [], ls, o, h => by simp [splitL] at h; obtain ⟨rfl, rfl⟩ := h; exact ⟨by simp, fun _ _ h => by cases h⟩
 | t :: l, ls, o, h => by
   by_cases hk : t.kind = 1
   · by_cases h4 : ∃ u r, l = u :: r ∧ u.kind = 4
     · obtain ⟨u, r, rfl, h4⟩ := h4
       rw [splitL, if_neg (by simp [hk]), if_pos h4] at h
       simp only [Option.map_eq_some_iff] at h
       obtain ⟨⟨ls', o'⟩, h1, h2⟩ := h
       simp only [Prod.mk.injEq] at h2
       obtain ⟨rfl, rfl⟩ := h2
       obtain ⟨g1, g2⟩ := split_sub r ls' o' h1
       refine ⟨by simp; omega, fun n os ho => ?_⟩
       obtain ⟨g3, g4, t', g5, g6⟩ := g2 n os ho
       exact ⟨by simp; omega, fun t ht => List.mem_cons_of_mem _ (List.mem_cons_of_mem _ (g4 t ht)), t', List.mem_cons_of_mem _ (List.mem_cons_of_mem _ g5), g6⟩
     · have hs : splitL (t :: l) = (operandsS l).map fun x => ([], some (t.text, x)) := by
        cases l with
        | nil => rw [splitL, if_neg (by simp [hk])]; rfl
        | cons u r => rw [splitL, if_neg (by simp [hk]), if_neg (fun h => h4 ⟨u, r, rfl, h⟩)]
       rw [hs] at h
       simp only [Option.map_eq_some_iff] at h
       obtain ⟨x, h1, h2⟩ := h
       simp only [Prod.mk.injEq] at h2
       obtain ⟨rfl, rfl⟩ := h2
       obtain ⟨g1, g2⟩ := operands_sub l x h1
       refine ⟨by simp, fun n os ho => ?_⟩
       injection ho with ho; injection ho with ho1 ho2
       subst ho1; subst ho2
       exact ⟨by simp; omega, fun t ht => List.mem_cons_of_mem _ (g2 t ht), t, List.mem_cons_self .., hk, rfl⟩
   · cases l <;> rw [splitL, if_pos hk] at h <;> cases h
def doS (a : St) (n : Bytes) (l : List Tk) (c d : Bool) (lo hi : Nat) (t : Bool) (X : R St) : R St :=
 if ((a.inData && !d) || (!a.inData && !c) || (n == dEntry && a.hasEntry) || (n == dZero && a.hasZero)) = true then .error 10
 else if l.length < lo ∨ hi < l.length then .error 30
 else if (l.all fun k => decide (k.kind = 2) == t) = false then .error 30
 else X >>= fun a' => if 1024 < a'.p.code.length ∨ 4096 < a'.p.data.length then .error 9 else .ok a'
structure Lim (a : St) : Prop where
 code : a.p.code.length ≤ 1024
 data : a.p.data.length ≤ 4096
 labels : a.p.labels.length ≤ 1024
 uses : a.uses.length ≤ a.p.code.length + a.p.data.length + a.hasEntry.toNat
theorem all_no (l : List Tk) : (l.all fun k => decide (k.kind = 2) == false) = noStr l := by
 unfold noStr
 congr 1
 funext t
 by_cases h : t.kind = 2 <;> simp [h]
theorem bind_lim {a : St} {X : R St} (h : ∀ a', X = .ok a' → a'.p.code.length ≤ 1024 ∧ a'.p.data.length ≤ 4096) : (X >>= fun a' => if 1024 < a'.p.code.length ∨ 4096 < a'.p.data.length then (.error 9 : R St) else .ok a') = X := by
 cases X with
 | error e => rfl
 | ok a' =>
   have := h a' rfl
   show (if _ then _ else _) = _
   rw [if_neg (by omega)]
theorem full_eq {a : St} {X : R St} (hc : ∀ a', X = .ok a' → a'.p.code.length ≤ 1024) : (X >>= fun a' => full a') = X >>= fun a' => if 1024 < a'.p.code.length ∨ 4096 < a'.p.data.length then (.error 9 : R St) else .ok a' := by
 cases X with
 | error e => rfl
 | ok a' =>
   have := hc a' rfl
   show full a' = (if _ then _ else _)
   unfold full
   by_cases h : 4096 < a'.p.data.length
   · rw [if_pos h, if_pos (.inr h)]
   · rw [if_neg h, if_neg (by omega)]
theorem words_code : ∀ (l : List Tk) (a a' : St), wordsS a l = .ok a' → a'.p.code = a.p.code ∧ a'.p.labels = a.p.labels ∧ a'.hasEntry = a.hasEntry ∧ a'.line = a.line ∧ a'.uses.length + a.p.data.length ≤ a.uses.length + a'.p.data.length
 | [], a, a', h => by simp [wordsS] at h; subst h; exact ⟨rfl, rfl, rfl, rfl, Nat.le_refl _⟩
 | t :: l, a, a', h => by
   rw [wordsS] at h
   obtain ⟨⟨n, u⟩, hv, h⟩ := bind_ok h
   obtain ⟨h1, h2, h3, h4, h5⟩ := words_code l _ a' h
   have hu : u.length ≤ 1 := Go.Proofs.D.val_fst hv
   refine ⟨h1, h2, h3, h4, ?_⟩
   simp [Go.Proofs.D.wordOf_len] at h5
   omega
theorem bytes_code : ∀ (l : List Tk) (a a' : St), bytesS a l = .ok a' → a'.p.code = a.p.code ∧ a'.p.labels = a.p.labels ∧ a'.hasEntry = a.hasEntry ∧ a'.line = a.line ∧ a'.uses = a.uses ∧ a.p.data.length ≤ a'.p.data.length
 | [], a, a', h => by simp [bytesS] at h; subst h; exact ⟨rfl, rfl, rfl, rfl, rfl, Nat.le_refl _⟩
 | t :: l, a, a', h => by
   rw [bytesS] at h
   obtain ⟨n, hv, h⟩ := bind_ok h
   obtain ⟨h1, h2, h3, h4, h5, h6⟩ := bytes_code l _ a' h
   refine ⟨h1, h2, h3, h4, h5, ?_⟩
   simp at h6; omega
theorem instrX_ok {a a' : St} {op : Nat} {l : List Tk} (h : instrX a op l = .ok a') : a'.p.code.length = a.p.code.length + 1 ∧ a'.p.data = a.p.data ∧ a'.p.labels = a.p.labels ∧ a'.hasEntry = a.hasEntry ∧ a'.line = a.line ∧ a'.uses.length ≤ a.uses.length + 1 := by
 unfold instrX at h
 split at h
 · obtain ⟨r, _, h⟩ := bind_ok h
   injection h with h; subst h; exact ⟨by simp, rfl, rfl, rfl, rfl, Nat.le_succ _⟩
 · obtain ⟨r, _, h⟩ := bind_ok h
   obtain ⟨⟨n, u⟩, hv, h⟩ := bind_ok h
   have hu : u.length ≤ 1 := Go.Proofs.D.val_fst hv
   injection h with h; subst h
   refine ⟨by simp, rfl, rfl, rfl, rfl, ?_⟩
   simp; omega
theorem stmt_op {a : St} {n : Bytes} {l : List Tk} {op : Nat} (ha : Lim a) (hf : wordsB.findIdx? (· == n) = some op) : stmtS a n l = doS a n l true false (operandsN op) (operandsN op) false (instrX a op l) := by
 have hn : (n == dEntry) = false ∧ (n == dZero) = false := by
  constructor
  · cases e : n == dEntry with
    | false => rfl
    | true => have e : n = dEntry := by simpa using e
              subst e; rw [show wordsB.findIdx? (· == dEntry) = none by decide] at hf; cases hf
  · cases e : n == dZero with
    | false => rfl
    | true => have e : n = dZero := by simpa using e
              subst e; rw [show wordsB.findIdx? (· == dZero) = none by decide] at hf; cases hf
 unfold stmtS doS
 rw [hf, hn.1, hn.2, all_no]
 simp only [Bool.not_false, Bool.and_true, Bool.not_true, Bool.and_false, Bool.false_and, Bool.or_false]
 by_cases h1 : a.inData = true
 · rw [if_pos h1, if_pos h1]
 rw [if_neg h1, if_neg h1]
 by_cases h2 : l.length ≠ operandsN op ∨ noStr l = false
 · rw [if_pos h2]
   by_cases h3 : l.length < operandsN op ∨ operandsN op < l.length
   · rw [if_pos h3]
   · rw [if_neg h3, if_pos]
     rcases h2 with h2 | h2
     · omega
     · exact h2
 · rw [if_neg h2, if_neg (by omega), if_neg (fun h => h2 (.inr h)), instr_X]
   cases hX : instrX a op l with
   | error e => rfl
   | ok a' =>
     obtain ⟨g1, g2, _⟩ := instrX_ok hX
     show (if _ then _ else _) = (if _ then _ else _)
     have := ha.data
     rw [g2]
     by_cases h4 : 1024 ≤ a.p.code.length
     · rw [if_pos h4, if_pos (by omega)]
     · rw [if_neg h4, if_neg (by omega)]
theorem do_len0 {a : St} {n : Bytes} {l : List Tk} {X : R St} (h : l ≠ []) (h1 : (n == dEntry) = false) (h2 : (n == dZero) = false) : doS a n l true true 0 0 false X = .error 30 := by
 have hl := List.length_pos_iff.2 h
 unfold doS
 rw [h1, h2, if_neg (by simp), if_pos (.inr hl)]
theorem stmt_code {a : St} {l : List Tk} (ha : Lim a) : stmtS a dCode l = doS a dCode l true true 0 0 false (.ok { a with inData := false }) := by
 have hf : wordsB.findIdx? (· == dCode) = none := by decide
 unfold stmtS
 rw [hf]
 simp only
 rw [if_pos (.inl trivial)]
 by_cases hl : l = []
 · subst hl
   unfold doS
   rw [if_neg (fun h => h rfl), if_neg (by simp [dCode, dEntry, dZero]), if_neg (by simp), if_neg (by simp), bind_lim (a := a) (fun a' h => by injection h with h; subst h; exact ⟨ha.code, ha.data⟩)]
   rfl
 · rw [if_pos hl, do_len0 hl rfl rfl]
theorem stmt_data {a : St} {l : List Tk} (ha : Lim a) : stmtS a dData l = doS a dData l true true 0 0 false (.ok { a with inData := true }) := by
 have hf : wordsB.findIdx? (· == dData) = none := by decide
 unfold stmtS
 rw [hf]
 simp only
 rw [if_pos (.inr trivial)]
 by_cases hl : l = []
 · subst hl
   unfold doS
   rw [if_neg (fun h => h rfl), if_neg (by simp [dData, dEntry, dZero]), if_neg (by simp), if_neg (by simp), bind_lim (a := a) (fun a' h => by injection h with h; subst h; exact ⟨ha.code, ha.data⟩)]
   rfl
 · rw [if_pos hl, do_len0 hl rfl rfl]
theorem do_one {a : St} {n : Bytes} {l : List Tk} {X Y : R St} {b : Bool} (h1 : ((n == dEntry && a.hasEntry) || (n == dZero && a.hasZero)) = b) (hX : ∀ a', X = .ok a' → a'.p.code.length ≤ 1024 ∧ a'.p.data.length ≤ 4096) (hY : l.length = 1 → Y = X) :
 (if b = true then (.error 10 : R St) else if l.length ≠ 1 ∨ noStr l = false then .error 30 else Y) = doS a n l true true 1 1 false X := by
 unfold doS
 have h2 : (((a.inData && !true) || (!a.inData && !true) || (n == dEntry && a.hasEntry)) || (n == dZero && a.hasZero)) = b := by rw [← h1]; simp
 rw [h2, all_no, bind_lim (a := a) hX]
 by_cases hb : b = true
 · rw [if_pos hb, if_pos hb]
 · rw [if_neg hb, if_neg hb]
   by_cases h3 : l.length = 1
   · rw [if_neg (by omega : ¬ (l.length < 1 ∨ 1 < l.length)), hY h3]
     by_cases h4 : noStr l = false
     · rw [if_pos (.inr h4), if_pos h4]
     · rw [if_neg (by rintro (h | h); exact h h3; exact h4 h), if_neg h4]
   · rw [if_pos (.inl h3), if_pos (by omega)]
theorem stmt_entry {a : St} {l : List Tk} (ha : Lim a) : stmtS a dEntry l = doS a dEntry l true true 1 1 false (Go.Proofs.D.entryX a (l.getD 0 ⟨1, []⟩).text) := by
 have hf : wordsB.findIdx? (· == dEntry) = none := by decide
 unfold stmtS
 rw [hf]
 simp only
 rw [if_neg (by decide), if_pos trivial]
 have := do_one (a := a) (n := dEntry) (l := l) (X := Go.Proofs.D.entryX a (l.getD 0 ⟨1, []⟩).text) (Y := Go.Proofs.D.entryX a (l.getD 0 ⟨1, []⟩).text) (b := a.hasEntry) (by simp [dEntry, dZero]) (fun a' h => by
  unfold Go.Proofs.D.entryX at h
  obtain ⟨x, _, h⟩ := bind_ok h
  injection h with h; subst h; exact ⟨ha.code, ha.data⟩) (fun _ => rfl)
 rw [← this]
 rfl
theorem stmt_zero {a : St} {l : List Tk} (ha : Lim a) : stmtS a dZero l = doS a dZero l true true 1 1 false (Go.Proofs.D.zeroX a (l.getD 0 ⟨1, []⟩).text) := by
 have hf : wordsB.findIdx? (· == dZero) = none := by decide
 unfold stmtS
 rw [hf]
 simp only
 rw [if_neg (by decide), if_neg (by decide), if_pos trivial]
 have := do_one (a := a) (n := dZero) (l := l) (X := Go.Proofs.D.zeroX a (l.getD 0 ⟨1, []⟩).text) (Y := Go.Proofs.D.zeroX a (l.getD 0 ⟨1, []⟩).text) (b := a.hasZero) (by simp [dEntry, dZero]) (fun a' h => by
  unfold Go.Proofs.D.zeroX at h
  obtain ⟨x, _, h⟩ := bind_ok h
  injection h with h; subst h; exact ⟨ha.code, ha.data⟩) (fun _ => rfl)
 rw [← this]
 rfl
theorem do_data {a : St} {n : Bytes} {l : List Tk} {X Y : R St} {hi : Nat} {t : Bool} (h1 : (n == dEntry) = false) (h2 : (n == dZero) = false) (hX : (X >>= fun a' => if 1024 < a'.p.code.length ∨ 4096 < a'.p.data.length then (.error 9 : R St) else .ok a') = Y) (c : Prop) [Decidable c] (hc : c ↔ (l.length < 1 ∨ hi < l.length)) :
 (if a.inData = false then (.error 10 : R St) else if c then .error 30 else if (l.all fun k => decide (k.kind = 2) == t) = false then .error 30 else Y) = doS a n l false true 1 hi t X := by
 unfold doS
 rw [h1, h2, hX]
 simp only [Bool.not_true, Bool.and_false, Bool.not_false, Bool.and_true, Bool.false_and, Bool.or_false, Bool.false_or]
 by_cases hd : a.inData = false
 · have hb : (!a.inData) = true := by simp [hd]
   rw [if_pos hd, if_pos hb]
 · have hb : ¬ ((!a.inData) = true) := by simpa using hd
   rw [if_neg hd, if_neg hb]
   by_cases h3 : c
   · rw [if_pos h3, if_pos (hc.1 h3)]
   · rw [if_neg h3, if_neg (fun h => h3 (hc.2 h))]
theorem stmt_bytes {a : St} {l : List Tk} (ha : Lim a) (hl : l.length ≤ 65536) : stmtS a dByte l = doS a dByte l false true 1 65536 false (bytesS a l) := by
 have hf : wordsB.findIdx? (· == dByte) = none := by decide
 have hfull := full_eq (a := a) (X := bytesS a l) (fun a' h => by rw [(bytes_code l a a' h).1]; exact ha.code)
 have := do_data (a := a) (n := dByte) (l := l) (hi := 65536) (t := false) (X := bytesS a l) rfl rfl hfull.symm (l = [] ∨ ((dByte = dText ∨ dByte = dSpace) ∧ l.length ≠ 1)) (by
  cases l with
  | nil => simp
  | cons x l => simp [dByte, dText, dSpace] at hl ⊢; omega)
 rw [← this]
 unfold stmtS
 rw [hf]
 simp only
 rw [if_neg (by decide), if_neg (by decide), if_neg (by decide), if_pos (.inr (.inl trivial))]
 have e : decide (dByte = dText) = false := by decide
 simp only [e]
 rfl
theorem stmt_words {a : St} {l : List Tk} (ha : Lim a) (hl : l.length ≤ 65536) : stmtS a dWord l = doS a dWord l false true 1 65536 false (wordsS a l) := by
 have hf : wordsB.findIdx? (· == dWord) = none := by decide
 have hfull := full_eq (a := a) (X := wordsS a l) (fun a' h => by rw [(words_code l a a' h).1]; exact ha.code)
 have := do_data (a := a) (n := dWord) (l := l) (hi := 65536) (t := false) (X := wordsS a l) rfl rfl hfull.symm (l = [] ∨ ((dWord = dText ∨ dWord = dSpace) ∧ l.length ≠ 1)) (by
  cases l with
  | nil => simp
  | cons x l => simp [dWord, dText, dSpace] at hl ⊢; omega)
 rw [← this]
 unfold stmtS
 rw [hf]
 simp only
 rw [if_neg (by decide), if_neg (by decide), if_neg (by decide), if_pos (.inl trivial)]
 have e : decide (dWord = dText) = false := by decide
 simp only [e]
 rfl
theorem stmt_text {a : St} {l : List Tk} (ha : Lim a) : stmtS a dText l = doS a dText l false true 1 1 true (.ok { a with p := { a.p with data := a.p.data ++ (l.getD 0 ⟨1, []⟩).text } }) := by
 have hf : wordsB.findIdx? (· == dText) = none := by decide
 have hfull := full_eq (a := a) (X := .ok { a with p := { a.p with data := a.p.data ++ (l.getD 0 ⟨1, []⟩).text } }) (fun a' h => by injection h with h; subst h; exact ha.code)
 have := do_data (a := a) (n := dText) (l := l) (hi := 1) (t := true) (X := .ok { a with p := { a.p with data := a.p.data ++ (l.getD 0 ⟨1, []⟩).text } }) rfl rfl hfull.symm (l = [] ∨ ((dText = dText ∨ dText = dSpace) ∧ l.length ≠ 1)) (by
  cases l with
  | nil => simp
  | cons x l => simp [List.length_pos_iff])
 rw [← this]
 unfold stmtS
 rw [hf]
 simp only
 rw [if_neg (by decide), if_neg (by decide), if_neg (by decide), if_pos (.inr (.inr (.inl trivial)))]
 rfl
theorem stmt_space {a : St} {l : List Tk} (ha : Lim a) : stmtS a dSpace l = doS a dSpace l false true 1 1 false (Go.Proofs.D.spaceX a (l.getD 0 ⟨1, []⟩).text) := by
 have hf : wordsB.findIdx? (· == dSpace) = none := by decide
 have hfull := full_eq (a := a) (X := Go.Proofs.D.spaceX a (l.getD 0 ⟨1, []⟩).text) (fun a' h => by
  unfold Go.Proofs.D.spaceX at h
  obtain ⟨x, _, h⟩ := bind_ok h
  injection h with h; subst h; exact ha.code)
 have := do_data (a := a) (n := dSpace) (l := l) (hi := 1) (t := false) (X := Go.Proofs.D.spaceX a (l.getD 0 ⟨1, []⟩).text) rfl rfl hfull.symm (l = [] ∨ ((dSpace = dText ∨ dSpace = dSpace) ∧ l.length ≠ 1)) (by
  cases l with
  | nil => simp
  | cons x l => simp [List.length_pos_iff])
 rw [← this]
 unfold stmtS
 rw [hf]
 simp only
 rw [if_neg (by decide), if_neg (by decide), if_neg (by decide), if_pos (.inr (.inr (.inr trivial)))]
 have e : decide (dSpace = dText) = false := by decide
 simp only [e]
 have hs : (Go.Proofs.D.spaceX a (l.getD 0 ⟨1, []⟩).text >>= fun a' => full a') = (literalS (l.getD 0 ⟨1, []⟩).text 0 4096 >>= fun n => full { a with p := { a.p with data := a.p.data ++ List.replicate n.toNat 0 } }) := by
  unfold Go.Proofs.D.spaceX
  cases literalS (l.getD 0 ⟨1, []⟩).text 0 4096 <;> rfl
 rw [hs]
 rfl
end Go.As
namespace Go.Proofs.D
open Go Go.Den
set_option maxRecDepth 100000
set_option maxHeartbeats 4000000
abbrev ehk1 : List CK := [.bool, .bool, qi, qi, .bool, .func]
abbrev o90_2 : Op := .lookup 71 (.tmp 23) (.tmp 24) true
abbrev o90_5 : Op := .call { callee := (.builtin .len), args := #[(.tmp 32)], argTypes := #[71] }
abbrev o90_8 : Op := .mapUpdate 71 (.tmp 61) (.tmp 62) (.tmp 63)
noncomputable def d90 : DCode := up ⟨[(15, .l [.str]), (17, .c (.one false [.bool])), (23, .l [.map]), (25, .c (.tup [(true, [.str, .bool, qi]), (false, [.bool])])), (32, .l [.map]), (33, .c (.one false [qi])), (39, .l [.bool]), (44, .l [.slice]), (51, .l [.bool]), (55, .l [.slice]), (61, .l [.map]), (63, .l [.str, .bool, qi])], [], [(13, 58, [(12, qi)], [])]⟩ (low Tryz.prog (fun _ => false) (Tryz.f90.body.getD .skip))
theorem low90 : low Tryz.prog (fun _ => false) (Tryz.f90.body.getD .skip) = some (eC d90) := by kernel_rfl
def R90 (p1 : Nat) (o1 : Nat) (a1 : OA) (n1 : Nat) (ehk1 : Nat) (h : PHeap) (Q : Value → PHeap → Prop) : Prop :=
 ∃ (I_1 : Nat → Int → PHeap → Prop), (∃ (m2 : Nat), I_1 m2 (0 : Int) h) ∧
 ∀ (m1 : Nat) (i1 : Int) (h_1 : PHeap), I_1 m1 i1 h_1 →
 br (decide (i1 < ((n1 : Nat) : Int)))
 (∃ (b1 o2 : Nat), a1 = some ⟨b1, o2, none⟩ ∧ (0 ≤ i1 ∧ i1 < n1) ∧
 ∃ (l1 : Bs), h_1.cell b1 (o2 + (i1).toNat * 1) = some (vS l1) ∧
 Tri Tryz.prog 27 [vS l1] h_1 fun v_1 h_2 =>
 ∃ (c1 : Bool), v_1 = vB c1 ∧
 br (!c1)
 (Q (vI 12) h_2)
 (∃ (m3 : Nat), h_2.cell p1 (o1 + 10) = some (vM m3) ∧
 Raw Tryz.prog (execOp (rho [(23, vM m3), (24, vS l1)]) (mkO o90_2 168)) h_2 fun v_2 h_3 =>
 ∃ (l2 : Bs) (c2 : Bool) (i2 : Int) (c3 : Bool), v_2 = vT [vA [vS l2, vB c2, vI i2], vB c3] ∧
 br c3
 (Q (vI 7) h_3)
 (∃ (m4 : Nat), h_3.cell p1 (o1 + 10) = some (vM m4) ∧
 Raw Tryz.prog (execOp (rho [(32, vM m4)]) (mkO o90_5 3)) h_3 fun v_3 h_4 =>
 ∃ (i3 : Int), v_3 = vI i3 ∧
 br (decide (i3 ≥ 1024))
 (Q (vI 9) h_4)
 (∃ (c4 : Bool), h_4.cell p1 (o1 + 7) = some (vB c4) ∧
 ∃ (a2 : OA) (n2 k2 : Nat), h_4.cell p1 (o1 + 1) = some (vL a2 n2 k2) ∧
 (h_4.cell p1 (o1 + 1) = some (vL a2 n2 k2)) ∧
 (h_4.cell p1 (o1 + 7) = some (vB c4)) ∧
 ∃ (c5 : Bool), h_4.cell p1 (o1 + 7) = some (vB c5) ∧
 br c5
 (∃ (a3 : OA) (n3 k3 : Nat), h_4.cell p1 (o1 + 6) = some (vL a3 n3 k3) ∧
 ∃ (m5 : Nat), h_4.cell p1 (o1 + 10) = some (vM m5) ∧
 Raw Tryz.prog (execOp (rho [(61, vM m5), (62, vS l1), (63, vA [vS l1, vB c4, vI ((n3 : Nat) : Int)])]) (mkO o90_8 0)) h_4 fun v_4 h_5 =>
 v_4 = vT [] ∧
 ∃ (m6 : Nat), m6 < m1 ∧ I_1 m6 (IntKind.i64.wrap (i1 + 1)) h_5 ∧
 True)
 (∃ (m7 : Nat), h_4.cell p1 (o1 + 10) = some (vM m7) ∧
 Raw Tryz.prog (execOp (rho [(61, vM m7), (62, vS l1), (63, vA [vS l1, vB c4, vI (IntKind.i64.wrap (((n2 : Nat) : Int) * 4))])]) (mkO o90_8 0)) h_4 fun v_5 h_6 =>
 v_5 = vT [] ∧
 ∃ (m8 : Nat), m8 < m1 ∧ I_1 m8 (IntKind.i64.wrap (i1 + 1)) h_6 ∧
 True)))))
 (Q (vI 0) h_1)
theorem T90 {p1 : Nat} {o1 : Nat} {a1 : OA} {n1 : Nat} {ehk1 : Nat} {h : PHeap} {Q : Value → PHeap → Prop} (hR : R90 p1 o1 a1 n1 ehk1 h Q) : Tri Tryz.prog 90 [vP p1 o1, vL a1 n1 ehk1] h Q :=
 tri_of_dn mixed Tryz.func90 rfl (by kernel_rfl) low90 (rs := [.tmp 4]) (by kernel_rfl) rfl (Eq.mpr (by kernel_rfl : dnF Tryz.prog Tryz.f90.ntmps d90 [.tmp 4] [vP p1 o1, vL a1 n1 ehk1] h Q = R90 p1 o1 a1 n1 ehk1 h Q) hR)
abbrev o37_0 : Op := .makeMap 69 none
abbrev o37_1 : Op := .insert 69 (.tmp 4) (.const (vS [46, 99, 111, 100, 101])) (.tmp 5)
abbrev o37_2 : Op := .insert 69 (.tmp 4) (.const (vS [46, 100, 97, 116, 97])) (.tmp 6)
abbrev o37_3 : Op := .insert 69 (.tmp 4) (.const (vS [46, 101, 110, 116, 114, 121])) (.tmp 7)
abbrev o37_4 : Op := .insert 69 (.tmp 4) (.const (vS [46, 122, 101, 114, 111])) (.tmp 8)
abbrev o37_5 : Op := .insert 69 (.tmp 4) (.const (vS [46, 119, 111, 114, 100])) (.tmp 9)
abbrev o37_6 : Op := .insert 69 (.tmp 4) (.const (vS [46, 98, 121, 116, 101])) (.tmp 10)
abbrev o37_7 : Op := .insert 69 (.tmp 4) (.const (vS [46, 116, 101, 120, 116])) (.tmp 11)
abbrev o37_8 : Op := .insert 69 (.tmp 4) (.const (vS [46, 115, 112, 97, 99, 101])) (.tmp 12)
abbrev o37_10 : Op := .mapUpdate 69 (.tmp 19) (.tmp 21) (.tmp 25)
noncomputable def d37 : DCode := up ⟨[(4, .c (.one false [.map])), (17, .l [qi]), (18, .c (.one false [qi])), (20, .l [qi]), (21, .c (.one false [.str]))], [2], [(15, 15, [(14, qi)], [])]⟩ (low Tryz.prog (fun d => Nat.beq d 2) (Tryz.f37.body.getD .skip))
theorem low37 : low Tryz.prog (fun d => Nat.beq d 2) (Tryz.f37.body.getD .skip) = some (eC d37) := by kernel_rfl
def R37 (h : PHeap) (Q : Value → PHeap → Prop) : Prop :=
 Raw Tryz.prog (execOp (rho []) (mkO o37_0 69)) h fun v_1 h_1 =>
 ∃ (m1 : Nat), v_1 = vM m1 ∧
 Raw Tryz.prog (execOp (rho [(4, vM m1), (5, vA [vB true, vB true, vI 0, vI 0, vB false, vF 76 [] []])]) (mkO o37_1 0)) h_1 fun v_2 h_2 =>
 v_2 = vT [] ∧
 Raw Tryz.prog (execOp (rho [(4, vM m1), (6, vA [vB true, vB true, vI 0, vI 0, vB false, vF 77 [] []])]) (mkO o37_2 0)) h_2 fun v_3 h_3 =>
 v_3 = vT [] ∧
 Raw Tryz.prog (execOp (rho [(4, vM m1), (7, vA [vB true, vB true, vI 1, vI 1, vB false, vF 78 [] []])]) (mkO o37_3 0)) h_3 fun v_4 h_4 =>
 v_4 = vT [] ∧
 Raw Tryz.prog (execOp (rho [(4, vM m1), (8, vA [vB true, vB true, vI 1, vI 1, vB false, vF 79 [] []])]) (mkO o37_4 0)) h_4 fun v_5 h_5 =>
 v_5 = vT [] ∧
 Raw Tryz.prog (execOp (rho [(4, vM m1), (9, vA [vB false, vB true, vI 1, vI 65536, vB false, vF 80 [] []])]) (mkO o37_5 0)) h_5 fun v_6 h_6 =>
 v_6 = vT [] ∧
 Raw Tryz.prog (execOp (rho [(4, vM m1), (10, vA [vB false, vB true, vI 1, vI 65536, vB false, vF 81 [] []])]) (mkO o37_6 0)) h_6 fun v_7 h_7 =>
 v_7 = vT [] ∧
 Raw Tryz.prog (execOp (rho [(4, vM m1), (11, vA [vB false, vB true, vI 1, vI 1, vB true, vF 82 [] []])]) (mkO o37_7 0)) h_7 fun v_8 h_8 =>
 v_8 = vT [] ∧
 Raw Tryz.prog (execOp (rho [(4, vM m1), (12, vA [vB false, vB true, vI 1, vI 1, vB false, vF 83 [] []])]) (mkO o37_8 0)) h_8 fun v_9 h_9 =>
 v_9 = vT [] ∧
 ∃ (I_1 : Nat → Int → PHeap → Prop), (∃ (m3 : Nat), I_1 m3 (0 : Int) h_9) ∧
 ∀ (m2 : Nat) (i1 : Int) (h_10 : PHeap), I_1 m2 i1 h_10 →
 br (decide (i1 < 27))
 (∀ (b1 : Nat), h_10 b1 = none → ∀ (h_11 : PHeap), h_11 = h_10.put b1 (.cells ⟨[vI 0]⟩ 3) →
 ∃ (l1 : List Value) (t1 : TypeId) (z1 : Nat × Nat), h_11 b1 = some (.cells ⟨l1⟩ t1 z1) ∧ (0 + 1 ≤ l1.length ∧ z1.2 ≤ 0) ∧
 ∀ (h_12 : PHeap), h_12 = h_11.put b1 (.cells ⟨splice l1 0 [vI i1]⟩ t1 z1) →
 ∃ (i2 : Int), h_12.cell b1 0 = some (vI i2) ∧
 Tri Tryz.prog 84 [vI i2] h_12 fun v_10 h_13 =>
 ∃ (i3 : Int), v_10 = vI i3 ∧
 ∃ (i4 : Int), h_13.cell b1 0 = some (vI i4) ∧
 Tri Tryz.prog 61 [vI i4] h_13 fun v_11 h_14 =>
 ∃ (l2 : Bs), v_11 = vS l2 ∧
 Raw Tryz.prog (execOp (rho [(19, vM m1), (21, vS l2), (25, vA [vB true, vB false, vI i3, vI i3, vB false, vF 85 [] [vP b1 0]])]) (mkO o37_10 0)) h_14 fun v_12 h_15 =>
 v_12 = vT [] ∧
 ∃ (m4 : Nat), m4 < m2 ∧ I_1 m4 (IntKind.i64.wrap (i1 + 1)) h_15 ∧
 True)
 (Q (vM m1) h_10)
theorem T37 {h : PHeap} {Q : Value → PHeap → Prop} (hR : R37  h Q) : Tri Tryz.prog 37 [] h Q :=
 tri_of_dn mixed Tryz.func37 rfl (by kernel_rfl) low37 (rs := [.tmp 0]) (by kernel_rfl) rfl (Eq.mpr (by kernel_rfl : dnF Tryz.prog Tryz.f37.ntmps d37 [.tmp 0] [] h Q = R37  h Q) hR)
abbrev o39_9 : Op := .lookup 69 (.tmp 48) (.tmp 49) true
noncomputable def d39 : DCode := up ⟨[(18, .c (.tup [(false, [.slice]), (false, [qi])])), (26, .c (.tup [(false, [.slice]), (false, [.str]), (false, [.slice]), (false, [qi])])), (36, .c (.one false [qi])), (48, .l [.map]), (50, .c (.lkp true [vB false, vB false, vI 0, vI 0, vB false, .nilFunc] ehk1)), (58, .l [.bool]), (61, .l [.bool]), (68, .l [.bool]), (72, .l [.bool]), (83, .l [.bool]), (93, .l [.bool]), (99, .l [qi]), (105, .l [qi]), (113, .l [qi, .str]), (115, .l [qi]), (118, .l [.bool]), (122, .l [.func]), (125, .c (.one false [qi])), (133, .l [.slice]), (140, .l [.slice])], [], [(111, 13, [(110, qi)], [])]⟩ (low Tryz.prog (fun _ => false) (Tryz.f39.body.getD .skip))
theorem low39 : low Tryz.prog (fun _ => false) (Tryz.f39.body.getD .skip) = some (eC d39) := by kernel_rfl
def R39 (p1 : Nat) (o1 : Nat) (l1 : Bs) (h : PHeap) (Q : Value → PHeap → Prop) : Prop :=
 Tri Tryz.prog 88 [vS l1] h fun v_1 h_1 =>
 ∃ (a1 : OA) (n1 ehk1 : Nat) (i1 : Int), v_1 = vT [vL a1 n1 ehk1, vI i1] ∧
 br (i1 != 0)
 (Q (vI i1) h_1)
 (Tri Tryz.prog 89 [vL a1 n1 ehk1] h_1 fun v_2 h_2 =>
 ∃ (a2 : OA) (n2 k2 : Nat) (l2 : Bs) (a3 : OA) (n3 k3 : Nat) (i2 : Int), v_2 = vT [vL a2 n2 k2, vS l2, vL a3 n3 k3, vI i2] ∧
 br (i2 != 0)
 (Q (vI i2) h_2)
 (Tri Tryz.prog 90 [vP p1 o1, vL a2 n2 k2] h_2 fun v_3 h_3 =>
 ∃ (i3 : Int), v_3 = vI i3 ∧
 br (i3 != 0)
 (Q (vI i3) h_3)
 (br (l2 == [])
 (Q (vI i3) h_3)
 (∃ (m1 : Nat), h_3.cell p1 o1 = some (vM m1) ∧
 Raw Tryz.prog (execOp (rho [(48, vM m1), (49, vS l2)]) (mkO o39_9 132)) h_3 fun v_4 h_4 =>
 ((v_4 = vT [vA [vB false, vB false, vI 0, vI 0, vB false, .nilFunc], vB false] ∧
 Q (vI 11) h_4) ∨
 (∃ (c1 c2 : Bool) (i4 i5 : Int) (c3 : Bool) (f1 : Nat) (x1 y1 : List Value), v_4 = vT [vA [vB c1, vB c2, vI i4, vI i5, vB c3, vF f1 x1 y1], vB true] ∧
 ∃ (c4 : Bool), h_4.cell p1 (o1 + 7) = some (vB c4) ∧
 br c4
 (br (!c2)
 (Q (vI 10) h_4)
 (∃ (c5 : Bool), h_4.cell p1 (o1 + 7) = some (vB c5) ∧
 br (!c5)
 (br (!c1)
 (Q (vI 10) h_4)
 (br (l2 == [46, 101, 110, 116, 114, 121])
 (∃ (c6 : Bool), h_4.cell p1 (o1 + 8) = some (vB c6) ∧
 br c6
 (Q (vI 10) h_4)
 (br (l2 == [46, 122, 101, 114, 111])
 (∃ (c7 : Bool), h_4.cell p1 (o1 + 9) = some (vB c7) ∧
 br c7
 (Q (vI 10) h_4)
 (br (decide (((n3 : Nat) : Int) < i4))
 (Q (vI 30) h_4)
 (br (decide (((n3 : Nat) : Int) > i5))
 (Q (vI 30) h_4)
 (∃ (I_1 : Nat → Int → PHeap → Prop), (∃ (m3 : Nat), I_1 m3 (0 : Int) h_4) ∧
 ∀ (m2 : Nat) (i6 : Int) (h_5 : PHeap), I_1 m2 i6 h_5 →
 br (decide (i6 < ((n3 : Nat) : Int)))
 (∃ (b1 o2 : Nat), a3 = some ⟨b1, o2, none⟩ ∧ (0 ≤ i6 ∧ i6 < n3) ∧
 ∃ (i7 : Int) (l3 : Bs), h_5.row b1 (o2 + (i6).toNat * 2) [vI i7, vS l3] ∧
 br (!((i7 == 2) == c3))
 (Q (vI 30) h_5)
 (∃ (m4 : Nat), m4 < m2 ∧ I_1 m4 (IntKind.i64.wrap (i6 + 1)) h_5 ∧
 tv [vB c1, vB c2, vI i4, vI i5, vB c3, vF f1 x1 y1] ∧ True))
 (Tri Tryz.prog f1 (x1 ++ [vP p1 o1, vL a3 n3 k3] ++ y1) h_5 fun v_5 h_6 =>
 ∃ (i8 : Int), v_5 = vI i8 ∧
 br (i8 != 0)
 (Q (vI i8) h_6)
 (∃ (a4 : OA) (n4 k4 : Nat), h_6.cell p1 (o1 + 1) = some (vL a4 n4 k4) ∧
 br (decide (((n4 : Nat) : Int) > 1024))
 (Q (vI 9) h_6)
 (∃ (a5 : OA) (n5 k5 : Nat), h_6.cell p1 (o1 + 6) = some (vL a5 n5 k5) ∧
 br (decide (((n5 : Nat) : Int) > 4096))
 (Q (vI 9) h_6)
 (Q (vI 0) h_6))))))))
 (br (decide (((n3 : Nat) : Int) < i4))
 (Q (vI 30) h_4)
 (br (decide (((n3 : Nat) : Int) > i5))
 (Q (vI 30) h_4)
 (∃ (I_2 : Nat → Int → PHeap → Prop), (∃ (m6 : Nat), I_2 m6 (0 : Int) h_4) ∧
 ∀ (m5 : Nat) (i9 : Int) (h_7 : PHeap), I_2 m5 i9 h_7 →
 br (decide (i9 < ((n3 : Nat) : Int)))
 (∃ (b2 o3 : Nat), a3 = some ⟨b2, o3, none⟩ ∧ (0 ≤ i9 ∧ i9 < n3) ∧
 ∃ (i10 : Int) (l4 : Bs), h_7.row b2 (o3 + (i9).toNat * 2) [vI i10, vS l4] ∧
 br (!((i10 == 2) == c3))
 (Q (vI 30) h_7)
 (∃ (m7 : Nat), m7 < m5 ∧ I_2 m7 (IntKind.i64.wrap (i9 + 1)) h_7 ∧
 tv [vB c1, vB c2, vI i4, vI i5, vB c3, vF f1 x1 y1] ∧ True))
 (Tri Tryz.prog f1 (x1 ++ [vP p1 o1, vL a3 n3 k3] ++ y1) h_7 fun v_6 h_8 =>
 ∃ (i11 : Int), v_6 = vI i11 ∧
 br (i11 != 0)
 (Q (vI i11) h_8)
 (∃ (a6 : OA) (n6 k6 : Nat), h_8.cell p1 (o1 + 1) = some (vL a6 n6 k6) ∧
 br (decide (((n6 : Nat) : Int) > 1024))
 (Q (vI 9) h_8)
 (∃ (a7 : OA) (n7 k7 : Nat), h_8.cell p1 (o1 + 6) = some (vL a7 n7 k7) ∧
 br (decide (((n7 : Nat) : Int) > 4096))
 (Q (vI 9) h_8)
 (Q (vI 0) h_8)))))))))
 (br (l2 == [46, 122, 101, 114, 111])
 (∃ (c8 : Bool), h_4.cell p1 (o1 + 9) = some (vB c8) ∧
 br c8
 (Q (vI 10) h_4)
 (br (decide (((n3 : Nat) : Int) < i4))
 (Q (vI 30) h_4)
 (br (decide (((n3 : Nat) : Int) > i5))
 (Q (vI 30) h_4)
 (∃ (I_3 : Nat → Int → PHeap → Prop), (∃ (m9 : Nat), I_3 m9 (0 : Int) h_4) ∧
 ∀ (m8 : Nat) (i12 : Int) (h_9 : PHeap), I_3 m8 i12 h_9 →
 br (decide (i12 < ((n3 : Nat) : Int)))
 (∃ (b3 o4 : Nat), a3 = some ⟨b3, o4, none⟩ ∧ (0 ≤ i12 ∧ i12 < n3) ∧
 ∃ (i13 : Int) (l5 : Bs), h_9.row b3 (o4 + (i12).toNat * 2) [vI i13, vS l5] ∧
 br (!((i13 == 2) == c3))
 (Q (vI 30) h_9)
 (∃ (m10 : Nat), m10 < m8 ∧ I_3 m10 (IntKind.i64.wrap (i12 + 1)) h_9 ∧
 tv [vB c1, vB c2, vI i4, vI i5, vB c3, vF f1 x1 y1] ∧ True))
 (Tri Tryz.prog f1 (x1 ++ [vP p1 o1, vL a3 n3 k3] ++ y1) h_9 fun v_7 h_10 =>
 ∃ (i14 : Int), v_7 = vI i14 ∧
 br (i14 != 0)
 (Q (vI i14) h_10)
 (∃ (a8 : OA) (n8 k8 : Nat), h_10.cell p1 (o1 + 1) = some (vL a8 n8 k8) ∧
 br (decide (((n8 : Nat) : Int) > 1024))
 (Q (vI 9) h_10)
 (∃ (a9 : OA) (n9 k9 : Nat), h_10.cell p1 (o1 + 6) = some (vL a9 n9 k9) ∧
 br (decide (((n9 : Nat) : Int) > 4096))
 (Q (vI 9) h_10)
 (Q (vI 0) h_10))))))))
 (br (decide (((n3 : Nat) : Int) < i4))
 (Q (vI 30) h_4)
 (br (decide (((n3 : Nat) : Int) > i5))
 (Q (vI 30) h_4)
 (∃ (I_4 : Nat → Int → PHeap → Prop), (∃ (m12 : Nat), I_4 m12 (0 : Int) h_4) ∧
 ∀ (m11 : Nat) (i15 : Int) (h_11 : PHeap), I_4 m11 i15 h_11 →
 br (decide (i15 < ((n3 : Nat) : Int)))
 (∃ (b4 o5 : Nat), a3 = some ⟨b4, o5, none⟩ ∧ (0 ≤ i15 ∧ i15 < n3) ∧
 ∃ (i16 : Int) (l6 : Bs), h_11.row b4 (o5 + (i15).toNat * 2) [vI i16, vS l6] ∧
 br (!((i16 == 2) == c3))
 (Q (vI 30) h_11)
 (∃ (m13 : Nat), m13 < m11 ∧ I_4 m13 (IntKind.i64.wrap (i15 + 1)) h_11 ∧
 tv [vB c1, vB c2, vI i4, vI i5, vB c3, vF f1 x1 y1] ∧ True))
 (Tri Tryz.prog f1 (x1 ++ [vP p1 o1, vL a3 n3 k3] ++ y1) h_11 fun v_8 h_12 =>
 ∃ (i17 : Int), v_8 = vI i17 ∧
 br (i17 != 0)
 (Q (vI i17) h_12)
 (∃ (a10 : OA) (n10 k10 : Nat), h_12.cell p1 (o1 + 1) = some (vL a10 n10 k10) ∧
 br (decide (((n10 : Nat) : Int) > 1024))
 (Q (vI 9) h_12)
 (∃ (a11 : OA) (n11 k11 : Nat), h_12.cell p1 (o1 + 6) = some (vL a11 n11 k11) ∧
 br (decide (((n11 : Nat) : Int) > 4096))
 (Q (vI 9) h_12)
 (Q (vI 0) h_12))))))))))
 (br (l2 == [46, 101, 110, 116, 114, 121])
 (∃ (c9 : Bool), h_4.cell p1 (o1 + 8) = some (vB c9) ∧
 br c9
 (Q (vI 10) h_4)
 (br (l2 == [46, 122, 101, 114, 111])
 (∃ (c10 : Bool), h_4.cell p1 (o1 + 9) = some (vB c10) ∧
 br c10
 (Q (vI 10) h_4)
 (br (decide (((n3 : Nat) : Int) < i4))
 (Q (vI 30) h_4)
 (br (decide (((n3 : Nat) : Int) > i5))
 (Q (vI 30) h_4)
 (∃ (I_5 : Nat → Int → PHeap → Prop), (∃ (m15 : Nat), I_5 m15 (0 : Int) h_4) ∧
 ∀ (m14 : Nat) (i18 : Int) (h_13 : PHeap), I_5 m14 i18 h_13 →
 br (decide (i18 < ((n3 : Nat) : Int)))
 (∃ (b5 o6 : Nat), a3 = some ⟨b5, o6, none⟩ ∧ (0 ≤ i18 ∧ i18 < n3) ∧
 ∃ (i19 : Int) (l7 : Bs), h_13.row b5 (o6 + (i18).toNat * 2) [vI i19, vS l7] ∧
 br (!((i19 == 2) == c3))
 (Q (vI 30) h_13)
 (∃ (m16 : Nat), m16 < m14 ∧ I_5 m16 (IntKind.i64.wrap (i18 + 1)) h_13 ∧
 tv [vB c1, vB c2, vI i4, vI i5, vB c3, vF f1 x1 y1] ∧ True))
 (Tri Tryz.prog f1 (x1 ++ [vP p1 o1, vL a3 n3 k3] ++ y1) h_13 fun v_9 h_14 =>
 ∃ (i20 : Int), v_9 = vI i20 ∧
 br (i20 != 0)
 (Q (vI i20) h_14)
 (∃ (a12 : OA) (n12 k12 : Nat), h_14.cell p1 (o1 + 1) = some (vL a12 n12 k12) ∧
 br (decide (((n12 : Nat) : Int) > 1024))
 (Q (vI 9) h_14)
 (∃ (a13 : OA) (n13 k13 : Nat), h_14.cell p1 (o1 + 6) = some (vL a13 n13 k13) ∧
 br (decide (((n13 : Nat) : Int) > 4096))
 (Q (vI 9) h_14)
 (Q (vI 0) h_14))))))))
 (br (decide (((n3 : Nat) : Int) < i4))
 (Q (vI 30) h_4)
 (br (decide (((n3 : Nat) : Int) > i5))
 (Q (vI 30) h_4)
 (∃ (I_6 : Nat → Int → PHeap → Prop), (∃ (m18 : Nat), I_6 m18 (0 : Int) h_4) ∧
 ∀ (m17 : Nat) (i21 : Int) (h_15 : PHeap), I_6 m17 i21 h_15 →
 br (decide (i21 < ((n3 : Nat) : Int)))
 (∃ (b6 o7 : Nat), a3 = some ⟨b6, o7, none⟩ ∧ (0 ≤ i21 ∧ i21 < n3) ∧
 ∃ (i22 : Int) (l8 : Bs), h_15.row b6 (o7 + (i21).toNat * 2) [vI i22, vS l8] ∧
 br (!((i22 == 2) == c3))
 (Q (vI 30) h_15)
 (∃ (m19 : Nat), m19 < m17 ∧ I_6 m19 (IntKind.i64.wrap (i21 + 1)) h_15 ∧
 tv [vB c1, vB c2, vI i4, vI i5, vB c3, vF f1 x1 y1] ∧ True))
 (Tri Tryz.prog f1 (x1 ++ [vP p1 o1, vL a3 n3 k3] ++ y1) h_15 fun v_10 h_16 =>
 ∃ (i23 : Int), v_10 = vI i23 ∧
 br (i23 != 0)
 (Q (vI i23) h_16)
 (∃ (a14 : OA) (n14 k14 : Nat), h_16.cell p1 (o1 + 1) = some (vL a14 n14 k14) ∧
 br (decide (((n14 : Nat) : Int) > 1024))
 (Q (vI 9) h_16)
 (∃ (a15 : OA) (n15 k15 : Nat), h_16.cell p1 (o1 + 6) = some (vL a15 n15 k15) ∧
 br (decide (((n15 : Nat) : Int) > 4096))
 (Q (vI 9) h_16)
 (Q (vI 0) h_16)))))))))
 (br (l2 == [46, 122, 101, 114, 111])
 (∃ (c11 : Bool), h_4.cell p1 (o1 + 9) = some (vB c11) ∧
 br c11
 (Q (vI 10) h_4)
 (br (decide (((n3 : Nat) : Int) < i4))
 (Q (vI 30) h_4)
 (br (decide (((n3 : Nat) : Int) > i5))
 (Q (vI 30) h_4)
 (∃ (I_7 : Nat → Int → PHeap → Prop), (∃ (m21 : Nat), I_7 m21 (0 : Int) h_4) ∧
 ∀ (m20 : Nat) (i24 : Int) (h_17 : PHeap), I_7 m20 i24 h_17 →
 br (decide (i24 < ((n3 : Nat) : Int)))
 (∃ (b7 o8 : Nat), a3 = some ⟨b7, o8, none⟩ ∧ (0 ≤ i24 ∧ i24 < n3) ∧
 ∃ (i25 : Int) (l9 : Bs), h_17.row b7 (o8 + (i24).toNat * 2) [vI i25, vS l9] ∧
 br (!((i25 == 2) == c3))
 (Q (vI 30) h_17)
 (∃ (m22 : Nat), m22 < m20 ∧ I_7 m22 (IntKind.i64.wrap (i24 + 1)) h_17 ∧
 tv [vB c1, vB c2, vI i4, vI i5, vB c3, vF f1 x1 y1] ∧ True))
 (Tri Tryz.prog f1 (x1 ++ [vP p1 o1, vL a3 n3 k3] ++ y1) h_17 fun v_11 h_18 =>
 ∃ (i26 : Int), v_11 = vI i26 ∧
 br (i26 != 0)
 (Q (vI i26) h_18)
 (∃ (a16 : OA) (n16 k16 : Nat), h_18.cell p1 (o1 + 1) = some (vL a16 n16 k16) ∧
 br (decide (((n16 : Nat) : Int) > 1024))
 (Q (vI 9) h_18)
 (∃ (a17 : OA) (n17 k17 : Nat), h_18.cell p1 (o1 + 6) = some (vL a17 n17 k17) ∧
 br (decide (((n17 : Nat) : Int) > 4096))
 (Q (vI 9) h_18)
 (Q (vI 0) h_18))))))))
 (br (decide (((n3 : Nat) : Int) < i4))
 (Q (vI 30) h_4)
 (br (decide (((n3 : Nat) : Int) > i5))
 (Q (vI 30) h_4)
 (∃ (I_8 : Nat → Int → PHeap → Prop), (∃ (m24 : Nat), I_8 m24 (0 : Int) h_4) ∧
 ∀ (m23 : Nat) (i27 : Int) (h_19 : PHeap), I_8 m23 i27 h_19 →
 br (decide (i27 < ((n3 : Nat) : Int)))
 (∃ (b8 o9 : Nat), a3 = some ⟨b8, o9, none⟩ ∧ (0 ≤ i27 ∧ i27 < n3) ∧
 ∃ (i28 : Int) (l10 : Bs), h_19.row b8 (o9 + (i27).toNat * 2) [vI i28, vS l10] ∧
 br (!((i28 == 2) == c3))
 (Q (vI 30) h_19)
 (∃ (m25 : Nat), m25 < m23 ∧ I_8 m25 (IntKind.i64.wrap (i27 + 1)) h_19 ∧
 tv [vB c1, vB c2, vI i4, vI i5, vB c3, vF f1 x1 y1] ∧ True))
 (Tri Tryz.prog f1 (x1 ++ [vP p1 o1, vL a3 n3 k3] ++ y1) h_19 fun v_12 h_20 =>
 ∃ (i29 : Int), v_12 = vI i29 ∧
 br (i29 != 0)
 (Q (vI i29) h_20)
 (∃ (a18 : OA) (n18 k18 : Nat), h_20.cell p1 (o1 + 1) = some (vL a18 n18 k18) ∧
 br (decide (((n18 : Nat) : Int) > 1024))
 (Q (vI 9) h_20)
 (∃ (a19 : OA) (n19 k19 : Nat), h_20.cell p1 (o1 + 6) = some (vL a19 n19 k19) ∧
 br (decide (((n19 : Nat) : Int) > 4096))
 (Q (vI 9) h_20)
 (Q (vI 0) h_20)))))))))))
 (∃ (c12 : Bool), h_4.cell p1 (o1 + 7) = some (vB c12) ∧
 br (!c12)
 (br (!c1)
 (Q (vI 10) h_4)
 (br (l2 == [46, 101, 110, 116, 114, 121])
 (∃ (c13 : Bool), h_4.cell p1 (o1 + 8) = some (vB c13) ∧
 br c13
 (Q (vI 10) h_4)
 (br (l2 == [46, 122, 101, 114, 111])
 (∃ (c14 : Bool), h_4.cell p1 (o1 + 9) = some (vB c14) ∧
 br c14
 (Q (vI 10) h_4)
 (br (decide (((n3 : Nat) : Int) < i4))
 (Q (vI 30) h_4)
 (br (decide (((n3 : Nat) : Int) > i5))
 (Q (vI 30) h_4)
 (∃ (I_9 : Nat → Int → PHeap → Prop), (∃ (m27 : Nat), I_9 m27 (0 : Int) h_4) ∧
 ∀ (m26 : Nat) (i30 : Int) (h_21 : PHeap), I_9 m26 i30 h_21 →
 br (decide (i30 < ((n3 : Nat) : Int)))
 (∃ (b9 o10 : Nat), a3 = some ⟨b9, o10, none⟩ ∧ (0 ≤ i30 ∧ i30 < n3) ∧
 ∃ (i31 : Int) (l11 : Bs), h_21.row b9 (o10 + (i30).toNat * 2) [vI i31, vS l11] ∧
 br (!((i31 == 2) == c3))
 (Q (vI 30) h_21)
 (∃ (m28 : Nat), m28 < m26 ∧ I_9 m28 (IntKind.i64.wrap (i30 + 1)) h_21 ∧
 tv [vB c1, vB c2, vI i4, vI i5, vB c3, vF f1 x1 y1] ∧ True))
 (Tri Tryz.prog f1 (x1 ++ [vP p1 o1, vL a3 n3 k3] ++ y1) h_21 fun v_13 h_22 =>
 ∃ (i32 : Int), v_13 = vI i32 ∧
 br (i32 != 0)
 (Q (vI i32) h_22)
 (∃ (a20 : OA) (n20 k20 : Nat), h_22.cell p1 (o1 + 1) = some (vL a20 n20 k20) ∧
 br (decide (((n20 : Nat) : Int) > 1024))
 (Q (vI 9) h_22)
 (∃ (a21 : OA) (n21 k21 : Nat), h_22.cell p1 (o1 + 6) = some (vL a21 n21 k21) ∧
 br (decide (((n21 : Nat) : Int) > 4096))
 (Q (vI 9) h_22)
 (Q (vI 0) h_22))))))))
 (br (decide (((n3 : Nat) : Int) < i4))
 (Q (vI 30) h_4)
 (br (decide (((n3 : Nat) : Int) > i5))
 (Q (vI 30) h_4)
 (∃ (I_10 : Nat → Int → PHeap → Prop), (∃ (m30 : Nat), I_10 m30 (0 : Int) h_4) ∧
 ∀ (m29 : Nat) (i33 : Int) (h_23 : PHeap), I_10 m29 i33 h_23 →
 br (decide (i33 < ((n3 : Nat) : Int)))
 (∃ (b10 o11 : Nat), a3 = some ⟨b10, o11, none⟩ ∧ (0 ≤ i33 ∧ i33 < n3) ∧
 ∃ (i34 : Int) (l12 : Bs), h_23.row b10 (o11 + (i33).toNat * 2) [vI i34, vS l12] ∧
 br (!((i34 == 2) == c3))
 (Q (vI 30) h_23)
 (∃ (m31 : Nat), m31 < m29 ∧ I_10 m31 (IntKind.i64.wrap (i33 + 1)) h_23 ∧
 tv [vB c1, vB c2, vI i4, vI i5, vB c3, vF f1 x1 y1] ∧ True))
 (Tri Tryz.prog f1 (x1 ++ [vP p1 o1, vL a3 n3 k3] ++ y1) h_23 fun v_14 h_24 =>
 ∃ (i35 : Int), v_14 = vI i35 ∧
 br (i35 != 0)
 (Q (vI i35) h_24)
 (∃ (a22 : OA) (n22 k22 : Nat), h_24.cell p1 (o1 + 1) = some (vL a22 n22 k22) ∧
 br (decide (((n22 : Nat) : Int) > 1024))
 (Q (vI 9) h_24)
 (∃ (a23 : OA) (n23 k23 : Nat), h_24.cell p1 (o1 + 6) = some (vL a23 n23 k23) ∧
 br (decide (((n23 : Nat) : Int) > 4096))
 (Q (vI 9) h_24)
 (Q (vI 0) h_24)))))))))
 (br (l2 == [46, 122, 101, 114, 111])
 (∃ (c15 : Bool), h_4.cell p1 (o1 + 9) = some (vB c15) ∧
 br c15
 (Q (vI 10) h_4)
 (br (decide (((n3 : Nat) : Int) < i4))
 (Q (vI 30) h_4)
 (br (decide (((n3 : Nat) : Int) > i5))
 (Q (vI 30) h_4)
 (∃ (I_11 : Nat → Int → PHeap → Prop), (∃ (m33 : Nat), I_11 m33 (0 : Int) h_4) ∧
 ∀ (m32 : Nat) (i36 : Int) (h_25 : PHeap), I_11 m32 i36 h_25 →
 br (decide (i36 < ((n3 : Nat) : Int)))
 (∃ (b11 o12 : Nat), a3 = some ⟨b11, o12, none⟩ ∧ (0 ≤ i36 ∧ i36 < n3) ∧
 ∃ (i37 : Int) (l13 : Bs), h_25.row b11 (o12 + (i36).toNat * 2) [vI i37, vS l13] ∧
 br (!((i37 == 2) == c3))
 (Q (vI 30) h_25)
 (∃ (m34 : Nat), m34 < m32 ∧ I_11 m34 (IntKind.i64.wrap (i36 + 1)) h_25 ∧
 tv [vB c1, vB c2, vI i4, vI i5, vB c3, vF f1 x1 y1] ∧ True))
 (Tri Tryz.prog f1 (x1 ++ [vP p1 o1, vL a3 n3 k3] ++ y1) h_25 fun v_15 h_26 =>
 ∃ (i38 : Int), v_15 = vI i38 ∧
 br (i38 != 0)
 (Q (vI i38) h_26)
 (∃ (a24 : OA) (n24 k24 : Nat), h_26.cell p1 (o1 + 1) = some (vL a24 n24 k24) ∧
 br (decide (((n24 : Nat) : Int) > 1024))
 (Q (vI 9) h_26)
 (∃ (a25 : OA) (n25 k25 : Nat), h_26.cell p1 (o1 + 6) = some (vL a25 n25 k25) ∧
 br (decide (((n25 : Nat) : Int) > 4096))
 (Q (vI 9) h_26)
 (Q (vI 0) h_26))))))))
 (br (decide (((n3 : Nat) : Int) < i4))
 (Q (vI 30) h_4)
 (br (decide (((n3 : Nat) : Int) > i5))
 (Q (vI 30) h_4)
 (∃ (I_12 : Nat → Int → PHeap → Prop), (∃ (m36 : Nat), I_12 m36 (0 : Int) h_4) ∧
 ∀ (m35 : Nat) (i39 : Int) (h_27 : PHeap), I_12 m35 i39 h_27 →
 br (decide (i39 < ((n3 : Nat) : Int)))
 (∃ (b12 o13 : Nat), a3 = some ⟨b12, o13, none⟩ ∧ (0 ≤ i39 ∧ i39 < n3) ∧
 ∃ (i40 : Int) (l14 : Bs), h_27.row b12 (o13 + (i39).toNat * 2) [vI i40, vS l14] ∧
 br (!((i40 == 2) == c3))
 (Q (vI 30) h_27)
 (∃ (m37 : Nat), m37 < m35 ∧ I_12 m37 (IntKind.i64.wrap (i39 + 1)) h_27 ∧
 tv [vB c1, vB c2, vI i4, vI i5, vB c3, vF f1 x1 y1] ∧ True))
 (Tri Tryz.prog f1 (x1 ++ [vP p1 o1, vL a3 n3 k3] ++ y1) h_27 fun v_16 h_28 =>
 ∃ (i41 : Int), v_16 = vI i41 ∧
 br (i41 != 0)
 (Q (vI i41) h_28)
 (∃ (a26 : OA) (n26 k26 : Nat), h_28.cell p1 (o1 + 1) = some (vL a26 n26 k26) ∧
 br (decide (((n26 : Nat) : Int) > 1024))
 (Q (vI 9) h_28)
 (∃ (a27 : OA) (n27 k27 : Nat), h_28.cell p1 (o1 + 6) = some (vL a27 n27 k27) ∧
 br (decide (((n27 : Nat) : Int) > 4096))
 (Q (vI 9) h_28)
 (Q (vI 0) h_28))))))))))
 (br (l2 == [46, 101, 110, 116, 114, 121])
 (∃ (c16 : Bool), h_4.cell p1 (o1 + 8) = some (vB c16) ∧
 br c16
 (Q (vI 10) h_4)
 (br (l2 == [46, 122, 101, 114, 111])
 (∃ (c17 : Bool), h_4.cell p1 (o1 + 9) = some (vB c17) ∧
 br c17
 (Q (vI 10) h_4)
 (br (decide (((n3 : Nat) : Int) < i4))
 (Q (vI 30) h_4)
 (br (decide (((n3 : Nat) : Int) > i5))
 (Q (vI 30) h_4)
 (∃ (I_13 : Nat → Int → PHeap → Prop), (∃ (m39 : Nat), I_13 m39 (0 : Int) h_4) ∧
 ∀ (m38 : Nat) (i42 : Int) (h_29 : PHeap), I_13 m38 i42 h_29 →
 br (decide (i42 < ((n3 : Nat) : Int)))
 (∃ (b13 o14 : Nat), a3 = some ⟨b13, o14, none⟩ ∧ (0 ≤ i42 ∧ i42 < n3) ∧
 ∃ (i43 : Int) (l15 : Bs), h_29.row b13 (o14 + (i42).toNat * 2) [vI i43, vS l15] ∧
 br (!((i43 == 2) == c3))
 (Q (vI 30) h_29)
 (∃ (m40 : Nat), m40 < m38 ∧ I_13 m40 (IntKind.i64.wrap (i42 + 1)) h_29 ∧
 tv [vB c1, vB c2, vI i4, vI i5, vB c3, vF f1 x1 y1] ∧ True))
 (Tri Tryz.prog f1 (x1 ++ [vP p1 o1, vL a3 n3 k3] ++ y1) h_29 fun v_17 h_30 =>
 ∃ (i44 : Int), v_17 = vI i44 ∧
 br (i44 != 0)
 (Q (vI i44) h_30)
 (∃ (a28 : OA) (n28 k28 : Nat), h_30.cell p1 (o1 + 1) = some (vL a28 n28 k28) ∧
 br (decide (((n28 : Nat) : Int) > 1024))
 (Q (vI 9) h_30)
 (∃ (a29 : OA) (n29 k29 : Nat), h_30.cell p1 (o1 + 6) = some (vL a29 n29 k29) ∧
 br (decide (((n29 : Nat) : Int) > 4096))
 (Q (vI 9) h_30)
 (Q (vI 0) h_30))))))))
 (br (decide (((n3 : Nat) : Int) < i4))
 (Q (vI 30) h_4)
 (br (decide (((n3 : Nat) : Int) > i5))
 (Q (vI 30) h_4)
 (∃ (I_14 : Nat → Int → PHeap → Prop), (∃ (m42 : Nat), I_14 m42 (0 : Int) h_4) ∧
 ∀ (m41 : Nat) (i45 : Int) (h_31 : PHeap), I_14 m41 i45 h_31 →
 br (decide (i45 < ((n3 : Nat) : Int)))
 (∃ (b14 o15 : Nat), a3 = some ⟨b14, o15, none⟩ ∧ (0 ≤ i45 ∧ i45 < n3) ∧
 ∃ (i46 : Int) (l16 : Bs), h_31.row b14 (o15 + (i45).toNat * 2) [vI i46, vS l16] ∧
 br (!((i46 == 2) == c3))
 (Q (vI 30) h_31)
 (∃ (m43 : Nat), m43 < m41 ∧ I_14 m43 (IntKind.i64.wrap (i45 + 1)) h_31 ∧
 tv [vB c1, vB c2, vI i4, vI i5, vB c3, vF f1 x1 y1] ∧ True))
 (Tri Tryz.prog f1 (x1 ++ [vP p1 o1, vL a3 n3 k3] ++ y1) h_31 fun v_18 h_32 =>
 ∃ (i47 : Int), v_18 = vI i47 ∧
 br (i47 != 0)
 (Q (vI i47) h_32)
 (∃ (a30 : OA) (n30 k30 : Nat), h_32.cell p1 (o1 + 1) = some (vL a30 n30 k30) ∧
 br (decide (((n30 : Nat) : Int) > 1024))
 (Q (vI 9) h_32)
 (∃ (a31 : OA) (n31 k31 : Nat), h_32.cell p1 (o1 + 6) = some (vL a31 n31 k31) ∧
 br (decide (((n31 : Nat) : Int) > 4096))
 (Q (vI 9) h_32)
 (Q (vI 0) h_32)))))))))
 (br (l2 == [46, 122, 101, 114, 111])
 (∃ (c18 : Bool), h_4.cell p1 (o1 + 9) = some (vB c18) ∧
 br c18
 (Q (vI 10) h_4)
 (br (decide (((n3 : Nat) : Int) < i4))
 (Q (vI 30) h_4)
 (br (decide (((n3 : Nat) : Int) > i5))
 (Q (vI 30) h_4)
 (∃ (I_15 : Nat → Int → PHeap → Prop), (∃ (m45 : Nat), I_15 m45 (0 : Int) h_4) ∧
 ∀ (m44 : Nat) (i48 : Int) (h_33 : PHeap), I_15 m44 i48 h_33 →
 br (decide (i48 < ((n3 : Nat) : Int)))
 (∃ (b15 o16 : Nat), a3 = some ⟨b15, o16, none⟩ ∧ (0 ≤ i48 ∧ i48 < n3) ∧
 ∃ (i49 : Int) (l17 : Bs), h_33.row b15 (o16 + (i48).toNat * 2) [vI i49, vS l17] ∧
 br (!((i49 == 2) == c3))
 (Q (vI 30) h_33)
 (∃ (m46 : Nat), m46 < m44 ∧ I_15 m46 (IntKind.i64.wrap (i48 + 1)) h_33 ∧
 tv [vB c1, vB c2, vI i4, vI i5, vB c3, vF f1 x1 y1] ∧ True))
 (Tri Tryz.prog f1 (x1 ++ [vP p1 o1, vL a3 n3 k3] ++ y1) h_33 fun v_19 h_34 =>
 ∃ (i50 : Int), v_19 = vI i50 ∧
 br (i50 != 0)
 (Q (vI i50) h_34)
 (∃ (a32 : OA) (n32 k32 : Nat), h_34.cell p1 (o1 + 1) = some (vL a32 n32 k32) ∧
 br (decide (((n32 : Nat) : Int) > 1024))
 (Q (vI 9) h_34)
 (∃ (a33 : OA) (n33 k33 : Nat), h_34.cell p1 (o1 + 6) = some (vL a33 n33 k33) ∧
 br (decide (((n33 : Nat) : Int) > 4096))
 (Q (vI 9) h_34)
 (Q (vI 0) h_34))))))))
 (br (decide (((n3 : Nat) : Int) < i4))
 (Q (vI 30) h_4)
 (br (decide (((n3 : Nat) : Int) > i5))
 (Q (vI 30) h_4)
 (∃ (I_16 : Nat → Int → PHeap → Prop), (∃ (m48 : Nat), I_16 m48 (0 : Int) h_4) ∧
 ∀ (m47 : Nat) (i51 : Int) (h_35 : PHeap), I_16 m47 i51 h_35 →
 br (decide (i51 < ((n3 : Nat) : Int)))
 (∃ (b16 o17 : Nat), a3 = some ⟨b16, o17, none⟩ ∧ (0 ≤ i51 ∧ i51 < n3) ∧
 ∃ (i52 : Int) (l18 : Bs), h_35.row b16 (o17 + (i51).toNat * 2) [vI i52, vS l18] ∧
 br (!((i52 == 2) == c3))
 (Q (vI 30) h_35)
 (∃ (m49 : Nat), m49 < m47 ∧ I_16 m49 (IntKind.i64.wrap (i51 + 1)) h_35 ∧
 tv [vB c1, vB c2, vI i4, vI i5, vB c3, vF f1 x1 y1] ∧ True))
 (Tri Tryz.prog f1 (x1 ++ [vP p1 o1, vL a3 n3 k3] ++ y1) h_35 fun v_20 h_36 =>
 ∃ (i53 : Int), v_20 = vI i53 ∧
 br (i53 != 0)
 (Q (vI i53) h_36)
 (∃ (a34 : OA) (n34 k34 : Nat), h_36.cell p1 (o1 + 1) = some (vL a34 n34 k34) ∧
 br (decide (((n34 : Nat) : Int) > 1024))
 (Q (vI 9) h_36)
 (∃ (a35 : OA) (n35 k35 : Nat), h_36.cell p1 (o1 + 6) = some (vL a35 n35 k35) ∧
 br (decide (((n35 : Nat) : Int) > 4096))
 (Q (vI 9) h_36)
 (Q (vI 0) h_36))))))))))))))))
theorem T39 {p1 : Nat} {o1 : Nat} {l1 : Bs} {h : PHeap} {Q : Value → PHeap → Prop} (hR : R39 p1 o1 l1 h Q) : Tri Tryz.prog 39 [vP p1 o1, vS l1] h Q :=
 tri_of_dn mixed Tryz.func39 rfl (by kernel_rfl) low39 (rs := [.tmp 4]) (by kernel_rfl) rfl (Eq.mpr (by kernel_rfl : dnF Tryz.prog Tryz.f39.ntmps d39 [.tmp 4] [vP p1 o1, vS l1] h Q = R39 p1 o1 l1 h Q) hR)
end Go.Proofs.D
namespace Go.As
open Go Go.Den Go.Proofs.D
theorem get_labE : ∀ (ls : List Lb) (i : Nat) (k : Bytes), mapGet (labE i ls) k = (ls.find? fun l => l.name == k).map lbV
 | [], _, _ => rfl
 | l :: ls, i, k => by
   rw [labE, mapGet_cons, get_labE ls (i + 1) k, List.find?_cons]
   by_cases h : l.name = k
   · subst h; simp
   · have h1 : (k == l.name) = false := by simp; exact fun e => h e.symm
     have h2 : (l.name == k) = false := by simpa using h
     rw [h1, h2]; rfl
theorem set_labE : ∀ (ls : List Lb) (i : Nat) (l : Lb), (ls.any fun x => x.name == l.name) = false → mapSet l.name (lbV l) (i + ls.length) (labE i ls) = labE i (ls ++ [l])
 | [], i, l, _ => rfl
 | x :: ls, i, l, h => by
   simp only [List.any_cons, Bool.or_eq_false_iff] at h
   have h1 : (l.name == x.name) = false := by
    have := h.1
    simp at this ⊢; exact fun e => this e.symm
   have ih := set_labE ls (i + 1) l h.2
   rw [labE, mapSet, h1]
   simp only [Bool.false_eq_true, if_false, List.length_cons, List.cons_append, labE]
   rw [← ih, show i + (ls.length + 1) = i + 1 + ls.length by omega]
theorem labE_len : ∀ (ls : List Lb) (i : Nat), (labE i ls).length = ls.length
 | [], _ => rfl
 | l :: ls, i => by rw [labE, List.length_cons, List.length_cons, labE_len ls]
end Go.As
namespace Go.Proofs.D
open Go Go.Den Go.As
set_option maxRecDepth 100000
attribute [local irreducible] IntKind.wrap Tri
def StrAt (h : PHeap) (a : OA) (L : List Bytes) : Prop := L = [] ∨ ∃ b o, a = ad b o ∧ ∀ j l, L[j]? = some l → h.cell b (o + j) = some (vS l)
theorem StrAt.ext {h h' : PHeap} {a : OA} {L : List Bytes} (x : Ext h h') (hs : StrAt h a L) : StrAt h' a L := by
 rcases hs with hs | ⟨b, o, ha, hs⟩
 · exact .inl hs
 · exact .inr ⟨b, o, ha, fun j l hj => cell_ext (fun ob => x b ob) (hs j l hj)⟩
theorem LM.strs {h0 h : PHeap} {a : OA} {n k : Nat} {L : List Bytes} (hM : LM 9 1 h0 h a n k (sL L)) : StrAt h a L := by
 have hl := hM.len
 simp only [sL, List.length_map] at hl
 rcases hM.row.2 with ⟨h1, h2⟩ | ⟨b, cap, rest, h1, h2, _, _⟩
 · exact .inl (List.eq_nil_of_length_eq_zero (by omega))
 · injection h1 with h1 _ _
   refine .inr ⟨b, 0, h1, fun j t hj => ?_⟩
   have hcs : (sL L)[j]? = some [vS t] := by simp [sL, hj]
   have := flatten_row (k := 1) (css := sL L) (j := j) (cs := [vS t]) (fun i c hc => hM.each i c hc) hcs 0 (vS t) rfl
   rw [cell_of h2, Nat.zero_add, List.getElem?_append_left (by have := (List.getElem?_eq_some_iff.1 this).1; omega)]
   simpa using this
section
variable {hb h : PHeap} {p mS : Nat} {a : As.St} {K : AK}
theorem raw_lenMap {t ty : TypeId} {key elem : TypeId} {m : Nat} {es : Array MapEntry} {c : Nat} {ρ : Operand → Value} {cl : Call} {x : Operand} (hcl : cl.callee = .builtin .len) (hca : cl.args = #[x]) (hts : cl.argTypes = #[t]) (hu : Tryz.prog.underlying t = some (.map key elem))
 (hx : ρ x = vM m) (hm : h m = some (.map es c)) : Raw Tryz.prog (execOp ρ (mkO (.call cl) ty)) h fun v h' => v = vI (es.size : Int) ∧ h' = h := by
 intro w hs
 have hw := hs _ _ hm
 have hgo : (getObj m).run Tryz.prog w = .ok (.map es c) w := by simp [getObj, Sem.run, hw]
 refine ⟨_, _, w, h, ?_, .inl rfl, ⟨rfl, rfl⟩, hs, Keep.refl w h⟩
 simp [execOp, mkO, resolve, hcl, hca, hts, hx, invoke, builtin, Builtin.len_, run_underlying hu, hgo, goInt]
theorem ASK.putMap (hA : ASK hb h p mS a K) {ls : List Lb} {o : Obj} (ho : o = .map ⟨ents (labE 0 ls)⟩ ls.length) : ASK hb (h.put K.mb o) p mS { a with p := { a.p with labels := ls } } K := by
 subst ho
 refine ⟨fun q o hq => ?_, hA.new, by rw [put_ne (Ne.symm hA.mbp)]; exact hA.obj, hA.code.put hA.labs (notE_map _ _), hA.data.put hA.labs (notE_map _ _), hA.uses.put hA.labs (notE_map _ _), hA.useAt, hA.mnew, put_same _ _ _⟩
 rw [put_ne fun e => by subst e; rw [hA.mnew] at hq; cases hq]; exact hA.ext _ _ hq
theorem und71 : Tryz.prog.underlying 71 = some (.map 9 80) := rfl
theorem find_any {ls : List Lb} {k : Bytes} : ((ls.find? fun l => l.name == k).map lbV).isSome = ls.any fun l => l.name == k := by
 rw [Option.isSome_map, Bool.eq_iff_iff, List.find?_isSome, List.any_eq_true]
theorem lbV_is (o : Option Lb) : ∃ s b i, getD2 (vA [vS [], vB false, vI 0]) (o.map lbV) = vA [vS s, vB b, vI i] := by
 cases o with
 | none => exact ⟨_, _, _, rfl⟩
 | some l => exact ⟨_, _, _, rfl⟩
theorem define_t {a2 : OA} {k2 : Nat} {ls : List Bytes} (hA : AS hb h p mS a) (hS : StrAt hb a2 ls) (hl : ls.length ≤ 1000000) (hC : a.p.code.length ≤ 1000000) : Tri Tryz.prog 90 [vP p 0, vL a2 ls.length k2] h fun v h' => Res hb p mS a.line (defineS a ls) v h' := by
 refine T90 ?_
 unfold R90
 refine ⟨fun m i h' => ∃ (j : Nat) (a' : As.St), i = (j : Int) ∧ j + m = ls.length ∧ AS hb h' p mS a' ∧ a'.line = a.line ∧ a'.p.code = a.p.code ∧ defineS a ls = defineS a' (ls.drop j), ⟨ls.length, 0, a, rfl, by omega, hA, rfl, rfl, rfl⟩, ?_⟩
 rintro m _ h1 ⟨j, a', rfl, hjm, hA1, hline, hcode, hdf⟩
 refine br_split (fun e => ?_) fun e => ?_
 · have hlt : j < ls.length := by have := of_decide_eq_true e; omega
   have hdr := List.drop_eq_getElem_cons hlt
   have hg : ls[j]? = some ls[j] := by simp [hlt]
   rw [hdr] at hdf
   generalize ls[j] = s at *
   obtain ⟨b, o, ha, hr⟩ : ∃ b o, a2 = some ⟨b, o, none⟩ ∧ h1.cell b (o + j) = some (vS s) := by
    rcases hS.ext hA1.ext with rfl | ⟨b, o, ha, hs⟩
    · simp at hlt
    · exact ⟨b, o, ha, hs j s hg⟩
   refine ⟨b, o, ha, ⟨by omega, by omega⟩, _, (by rw [Int.toNat_natCast, Nat.mul_one]; exact hr), ?_⟩
   refine Tri.mono (label_t h1 s) ?_
   rintro _ h1 ⟨rfl, rfl⟩
   rw [defineS] at hdf
   refine ⟨_, rfl, br_split (fun e1 => ?_) fun e1 => ?_⟩
   · rw [if_pos (not_f e1)] at hdf
     have := res_err hdf (by decide) (Ext.refl _) hA1
     rw [hline] at this; exact this
   rw [if_neg (by rw [not_t e1]; decide)] at hdf
   have hA10 := hA1
   obtain ⟨K, hK⟩ := hA1
   refine ⟨_, (by rw [PA_cell hK.obj]; rfl), ?_⟩
   refine Raw.mono (raw_lookupS und71 rfl (z := vA [vS [], vB false, vI 0]) rfl rfl rfl hK.labs) ?_
   rintro _ h1 ⟨rfl, rfl⟩
   rw [get_labE]
   obtain ⟨s1, b1, i1, hv⟩ := lbV_is (a'.p.labels.find? fun l => l.name == s)
   simp only [if_true, find_any, hv]
   refine ⟨_, _, _, _, rfl, br_split (fun e2 => ?_) fun e2 => ?_⟩
   · rw [if_pos e2] at hdf
     have := res_err hdf (by decide) (Ext.refl _) hA10
     rw [hline] at this; exact this
   rw [if_neg (by rw [e2]; decide)] at hdf
   refine ⟨_, (by rw [PA_cell hK.obj]; rfl), ?_⟩
   refine Raw.mono (raw_lenMap rfl rfl rfl und71 rfl hK.labs) ?_
   rintro _ h1 ⟨rfl, rfl⟩
   have hsz : ((⟨ents (labE 0 a'.p.labels)⟩ : Array MapEntry).size : Int) = (a'.p.labels.length : Int) := by simp [ents, labE_len]
   rw [hsz]
   refine ⟨_, rfl, br_split (fun e3 => ?_) fun e3 => ?_⟩
   · have e3 := of_decide_eq_true e3
     rw [if_pos (by omega)] at hdf
     have := res_err hdf (by decide) (Ext.refl _) hA10
     rw [hline] at this; exact this
   have e3 := of_decide_eq_false e3
   rw [if_neg (by omega)] at hdf
   have hn1 : IntKind.i64.wrap ((j : Int) + 1) = ((j + 1 : Nat) : Int) := by rw [wrap64 (by omega) (by omega)]; omega
   have ins : ∀ (off : Int) (cl : PHeap → Value → Prop), off = (if a'.inData then (a'.p.data.length : Int) else (4 * a'.p.code.length : Nat)) →
    Raw Tryz.prog (execOp (rho [(61, vM K.mb), (62, vS s), (63, vA [vS s, vB a'.inData, vI off])]) (mkO o90_8 0)) h1 fun v_4 h_5 => v_4 = vT [] ∧
     ∃ (m6 : Nat), m6 < m ∧ (∃ (j' : Nat) (a'' : As.St), IntKind.i64.wrap ((j : Int) + 1) = (j' : Int) ∧ j' + m6 = ls.length ∧ AS hb h_5 p mS a'' ∧ a''.line = a.line ∧ a''.p.code = a.p.code ∧ defineS a ls = defineS a'' (ls.drop j')) ∧ True := by
    intro off _ hoff
    refine Raw.mono (raw_updS (x := vA [vS s, vB a'.inData, vI off]) (.inl rfl) und71 rfl rfl rfl rfl hK.labs) ?_
    rintro _ h2 ⟨rfl, ck, rfl, hck⟩
    have hnone : mapGet (labE 0 a'.p.labels) s = none := by
     rw [get_labE]
     have := e2
     rw [← find_any] at this
     simpa using this
    have hset := set_labE a'.p.labels 0 ⟨s, a'.inData, off⟩ e2
    rw [Nat.zero_add] at hset
    have hset2 : mapSet s (vA [vS s, vB a'.inData, vI off]) a'.p.labels.length (labE 0 a'.p.labels) = labE 0 (a'.p.labels ++ [⟨s, a'.inData, off⟩]) := hset
    rw [hset2, hck hnone]
    refine ⟨rfl, m - 1, by omega, ⟨j + 1, _, hn1, by omega, ⟨K, hK.putMap (ls := a'.p.labels ++ [⟨s, a'.inData, off⟩]) (by simp)⟩, hline, hcode, ?_⟩, trivial⟩
    rw [hdf, ← hoff]
   refine ⟨_, (by rw [PA_cell hK.obj]; rfl), _, _, _, (by rw [PA_cell hK.obj]; rfl), (by rw [PA_cell hK.obj]; rfl), (by rw [PA_cell hK.obj]; rfl), _, (by rw [PA_cell hK.obj]; rfl), br_split (fun e4 => ?_) fun e4 => ?_⟩
   · refine ⟨_, _, _, (by rw [PA_cell hK.obj]; rfl), _, (by rw [PA_cell hK.obj]; rfl), ?_⟩
     exact ins _ (fun _ _ => True) (by rw [if_pos e4])
   · refine ⟨_, (by rw [PA_cell hK.obj]; rfl), ?_⟩
     refine ins _ (fun _ _ => True) ?_
     rw [if_neg (by rw [e4]; decide), wrap64 (by rw [hcode]; omega) (by rw [hcode]; omega)]; omega
 · have hj : j = ls.length := by have := of_decide_eq_false e; omega
   subst hj
   rw [List.drop_length] at hdf
   rw [hdf]
   exact ⟨rfl, hb, Ext.refl _, hA1⟩
end
end Go.Proofs.D
namespace Go.Proofs.D
open Go Go.Den Go.As
set_option maxRecDepth 100000
attribute [local irreducible] IntKind.wrap Tri
theorem und69 : Tryz.prog.underlying 69 = some (.map 9 122) := rfl
def stV (c d : Bool) (lo hi : Int) (t : Bool) (f : Nat) (y : List Value) : Value := vA [vB c, vB d, vI lo, vI hi, vB t, vF f [] y]
def dirV (n : Bytes) : Option Value :=
 if n == dSpace then some (stV false true 1 1 false 83 []) else if n == dText then some (stV false true 1 1 true 82 []) else if n == dByte then some (stV false true 1 65536 false 81 [])
 else if n == dWord then some (stV false true 1 65536 false 80 []) else if n == dZero then some (stV true true 1 1 false 79 []) else if n == dEntry then some (stV true true 1 1 false 78 [])
 else if n == dData then some (stV true true 0 0 false 77 []) else if n == dCode then some (stV true true 0 0 false 76 []) else none
def opV (op c : Nat) : Value := stV true false (operandsN op) (operandsN op) false 85 [vP c 0]
def StGet (h : PHeap) (r : Option Value) (n : Bytes) : Prop :=
 match wordsB.findIdx? (· == n) with
 | some op => ∃ c, r = some (opV op c) ∧ h.cell c 0 = some (vI (op : Int))
 | none => r = dirV n
def StOk (h : PHeap) (mS : Nat) : Prop := ∃ L ck, h mS = some (.map ⟨ents L⟩ ck) ∧ ∀ n, StGet h (mapGet L n) n
theorem StOk.ext {h h' : PHeap} {mS : Nat} (x : Ext h h') (hs : StOk h mS) : StOk h' mS := by
 obtain ⟨L, ck, h1, h2⟩ := hs
 refine ⟨L, ck, x _ _ h1, fun n => ?_⟩
 have := h2 n
 unfold StGet at *
 cases hf : wordsB.findIdx? (· == n) with
 | none => rw [hf] at this; exact this
 | some op =>
   rw [hf] at this
   obtain ⟨c, h3, h4⟩ := this
   exact ⟨c, h3, cell_ext (fun ob => x c ob) h4⟩
theorem word_find (k : Nat) (hk : k < 27) : wordsB.findIdx? (· == wordT k) = some k := (word_all ⟨k, hk⟩).2.2.1
theorem find_word {n : Bytes} {op : Nat} (h : wordsB.findIdx? (· == n) = some op) : op < 27 ∧ wordT op = n := by
 rw [List.findIdx?_eq_some_iff_getElem] at h
 obtain ⟨h1, h2, _⟩ := h
 have h1' : op < 27 := h1
 refine ⟨h1', ?_⟩
 have h3 := eq_of_beq h2
 rw [← h3]
 unfold wordT
 rw [List.getD_eq_getElem?_getD, List.getElem?_eq_getElem h1]; rfl
def StP (h : PHeap) (m i : Nat) : Prop := ∃ L ck, h m = some (.map ⟨ents L⟩ ck) ∧ (∀ k, k < i → ∃ c, c ≠ m ∧ mapGet L (wordT k) = some (opV k c) ∧ h.cell c 0 = some (vI (k : Int))) ∧ ∀ n, (∀ k, k < i → wordT k ≠ n) → mapGet L n = dirV n
theorem word_inj {j k : Nat} (hj : j < 27) (hk : k < 27) (h : wordT j = wordT k) : j = k := by
 have h1 := word_find j hj
 rw [h, word_find k hk] at h1
 injection h1 with h1; exact h1.symm
theorem statements_t {h : PHeap} (hO : OpTab h) : Tri Tryz.prog 37 [] h fun v h' => ∃ m, v = vM m ∧ Ext h h' ∧ StOk h' m := by
 refine T37 ?_
 unfold R37
 refine Raw.mono (raw_makeMap (Q := fun v h' => ∃ m, v = vM m ∧ h m = none ∧ h' = h.put m (.map ⟨ents []⟩ 0)) fun b hb => ⟨b, rfl, hb, rfl⟩) ?_
 rintro _ h1 ⟨m, rfl, hm, rfl⟩
 refine ⟨m, rfl, ?_⟩
 have step : ∀ {h1 : PHeap} {L : List (Bytes × Value × Nat)} {ck : Nat} {C : PHeap → Prop} {op : Op} {ρ : Operand → Value} {k : Bytes} {x : Value} {mo ko vo : Operand}, (op = .mapUpdate 69 mo ko vo ∨ op = .insert 69 mo ko vo) → ρ mo = vM m → ρ ko = vS k → ρ vo = x → h1 m = some (.map ⟨ents L⟩ ck) →
  (∀ ck', C (h1.put m (.map ⟨ents (mapSet k x ck L)⟩ ck'))) → Raw Tryz.prog (execOp ρ (mkO op 0)) h1 fun v h2 => v = vT [] ∧ C h2 := by
  intro h1 L ck C op ρ k x mo ko vo hop h1' h2' h3' hh hC
  refine Raw.mono (raw_updS hop und69 rfl h1' h2' h3' hh) ?_
  rintro _ h2 ⟨rfl, ck', rfl, _⟩
  exact ⟨rfl, hC ck'⟩
 refine step (.inr rfl) rfl rfl rfl (put_same _ _ _) fun ck1 => ?_
 refine step (.inr rfl) rfl rfl rfl (put_same _ _ _) fun ck2 => ?_
 refine step (.inr rfl) rfl rfl rfl (put_same _ _ _) fun ck3 => ?_
 refine step (.inr rfl) rfl rfl rfl (put_same _ _ _) fun ck4 => ?_
 refine step (.inr rfl) rfl rfl rfl (put_same _ _ _) fun ck5 => ?_
 refine step (.inr rfl) rfl rfl rfl (put_same _ _ _) fun ck6 => ?_
 refine step (.inr rfl) rfl rfl rfl (put_same _ _ _) fun ck7 => ?_
 refine step (.inr rfl) rfl rfl rfl (put_same _ _ _) fun ck8 => ?_
 simp only [put_put]
 generalize hL : mapSet [46, 115, 112, 97, 99, 101] _ ck7 _ = L
 have hget : ∀ n, mapGet L n = dirV n := by
  intro n
  rw [← hL]
  simp only [mapGet_set]
  rfl
 refine ⟨fun mm i h' => ∃ j : Nat, i = (j : Int) ∧ j + mm = 27 ∧ Ext h h' ∧ StP h' m j, ⟨27, 0, rfl, by omega, Ext.put hm _, L, ck8, put_same _ _ _, fun k hk => absurd hk (Nat.not_lt_zero k), fun n _ => hget n⟩, ?_⟩
 rintro mm _ h1 ⟨j, rfl, hjm, hx, L, ck, hm1, hops, hdir⟩
 refine br_split (fun e => ?_) fun e => ?_
 · have hlt : j < 27 := by have := of_decide_eq_true e; omega
   intro b1 hb1 h2 hh2
   refine ⟨_, _, _, Put.at hh2, ⟨by simp, Nat.zero_le _⟩, ?_⟩
   intro h3 hh3
   have hh3' : h3 = h1.put b1 (.cells ⟨[vI (j : Int)]⟩ 3 (0, 0)) := by rw [hh3, hh2, put_put]; rfl
   clear hh3 hh2 h2
   have x3 := Put.ext hh3' hb1
   have hO3 := hO.ext (hx.trans x3)
   refine ⟨_, cell_of (Put.at hh3') 0, ?_⟩
   refine Tri.mono (nops_t h3 hO3 hlt) ?_
   rintro _ h3 ⟨rfl, rfl⟩
   refine ⟨_, rfl, _, cell_of (Put.at hh3') 0, ?_⟩
   refine Tri.mono (opword_t h3 hO3 hlt) ?_
   rintro _ h3 ⟨rfl, rfl⟩
   refine ⟨_, rfl, ?_⟩
   have hm3 : h3 m = some (.map ⟨ents L⟩ ck) := x3 _ _ hm1
   have hbm : b1 ≠ m := fun e => by subst e; rw [hb1] at hm1; cases hm1
   refine Raw.mono (raw_updS (x := opV j b1) (.inl rfl) und69 rfl rfl rfl rfl hm3) ?_
   rintro _ h4 ⟨rfl, ck', rfl, _⟩
   have hxm : Ext h (h3.put m (.map ⟨ents (mapSet (wordT j) (opV j b1) ck L)⟩ ck')) := fun q o hq => by
    rw [put_ne fun e => by subst e; rw [hm] at hq; cases hq]; exact (hx.trans x3) q o hq
   refine ⟨rfl, mm - 1, by omega, ⟨j + 1, ?_, by omega, hxm, _, ck', put_same _ _ _, fun k hk => ?_, fun n hn => ?_⟩, trivial⟩
   · rw [wrap64 (by omega) (by omega)]; omega
   · by_cases hkj : k = j
     · subst hkj
       refine ⟨b1, hbm, ?_, ?_⟩
       · rw [mapGet_set]; simp
       · rw [cell_eq (put_ne hbm)]; exact cell_of (Put.at hh3') 0
     · obtain ⟨c, c1, c2, c3⟩ := hops k (by omega)
       refine ⟨c, c1, ?_, ?_⟩
       · rw [mapGet_set, if_neg]
         · exact c2
         · intro he
           exact hkj (word_inj (by omega) hlt (by simpa using he))
       · rw [cell_eq (put_ne c1)]; exact cell_ext (fun ob => x3 c ob) c3
   · rw [mapGet_set, if_neg]
     · exact hdir n fun k hk => hn k (by omega)
     · intro he
       exact hn j (by omega) (by have : n = wordT j := by simpa using he
                                 exact this.symm)
 · have hj : j = 27 := by have := of_decide_eq_false e; omega
   subst hj
   refine ⟨m, rfl, hx, L, ck, hm1, fun n => ?_⟩
   unfold StGet
   cases hf : wordsB.findIdx? (· == n) with
   | some op =>
     obtain ⟨h1, h2⟩ := find_word hf
     obtain ⟨c, _, h3, h4⟩ := hops op h1
     rw [h2] at h3
     exact ⟨c, h3, h4⟩
   | none =>
     refine hdir n fun k hk he => ?_
     have := word_find k hk
     rw [he, hf] at this; cases this
end Go.Proofs.D
namespace Go.As
theorem do_ok {a a' : St} {n : Bytes} {l : List Tk} {c d t : Bool} {lo hi : Nat} {X : R St} (h : doS a n l c d lo hi t X = .ok a') : X = .ok a' ∧ a'.p.code.length ≤ 1024 ∧ a'.p.data.length ≤ 4096 ∧ ¬ (n = dEntry ∧ a.hasEntry = true) := by
 unfold doS at h
 split at h
 · cases h
 rename_i h1
 split at h
 · cases h
 split at h
 · cases h
 cases X with
 | error e => cases h
 | ok b =>
   have h : (if 1024 < b.p.code.length ∨ 4096 < b.p.data.length then (.error 9 : R St) else .ok b) = .ok a' := h
   split at h
   · cases h
   · injection h with h
     subst h
     refine ⟨rfl, by omega, by omega, ?_⟩
     rintro ⟨rfl, he⟩
     rw [he] at h1
     simp at h1
inductive StIs (a : St) (l : List Tk) : Bytes → Bool → Bool → Nat → Nat → Bool → R St → Prop where
 | op {n : Bytes} (op : Nat) (h : wordsB.findIdx? (· == n) = some op) : StIs a l n true false (operandsN op) (operandsN op) false (instrX a op l)
 | code : StIs a l dCode true true 0 0 false (.ok { a with inData := false })
 | data : StIs a l dData true true 0 0 false (.ok { a with inData := true })
 | entry : StIs a l dEntry true true 1 1 false (Go.Proofs.D.entryX a (l.getD 0 ⟨1, []⟩).text)
 | zero : StIs a l dZero true true 1 1 false (Go.Proofs.D.zeroX a (l.getD 0 ⟨1, []⟩).text)
 | word : StIs a l dWord false true 1 65536 false (wordsS a l)
 | byte : StIs a l dByte false true 1 65536 false (bytesS a l)
 | text : StIs a l dText false true 1 1 true (.ok { a with p := { a.p with data := a.p.data ++ (l.getD 0 ⟨1, []⟩).text } })
 | space : StIs a l dSpace false true 1 1 false (Go.Proofs.D.spaceX a (l.getD 0 ⟨1, []⟩).text)
theorem stmt_is {a : St} {n : Bytes} {l : List Tk} (ha : Lim a) (hl : l.length ≤ 65536) : (∃ c d lo hi t X, StIs a l n c d lo hi t X ∧ stmtS a n l = doS a n l c d lo hi t X) ∨ (wordsB.findIdx? (· == n) = none ∧ Go.Proofs.D.dirV n = none ∧ stmtS a n l = .error 11) := by
 cases hf : wordsB.findIdx? (· == n) with
 | some op => exact .inl ⟨_, _, _, _, _, _, .op op hf, stmt_op ha hf⟩
 | none =>
   by_cases h1 : n = dCode
   · subst h1; exact .inl ⟨_, _, _, _, _, _, .code, stmt_code ha⟩
   by_cases h2 : n = dData
   · subst h2; exact .inl ⟨_, _, _, _, _, _, .data, stmt_data ha⟩
   by_cases h3 : n = dEntry
   · subst h3; exact .inl ⟨_, _, _, _, _, _, .entry, stmt_entry ha⟩
   by_cases h4 : n = dZero
   · subst h4; exact .inl ⟨_, _, _, _, _, _, .zero, stmt_zero ha⟩
   by_cases h5 : n = dWord
   · subst h5; exact .inl ⟨_, _, _, _, _, _, .word, stmt_words ha hl⟩
   by_cases h6 : n = dByte
   · subst h6; exact .inl ⟨_, _, _, _, _, _, .byte, stmt_bytes ha hl⟩
   by_cases h7 : n = dText
   · subst h7; exact .inl ⟨_, _, _, _, _, _, .text, stmt_text ha⟩
   by_cases h8 : n = dSpace
   · subst h8; exact .inl ⟨_, _, _, _, _, _, .space, stmt_space ha⟩
   refine .inr ⟨rfl, ?_, ?_⟩
   · unfold Go.Proofs.D.dirV
     simp only [beq_iff_eq, if_neg h1, if_neg h2, if_neg h3, if_neg h4, if_neg h5, if_neg h6, if_neg h7, if_neg h8]
   · unfold stmtS
     rw [hf]
     simp only [if_neg (show ¬ (n = dCode ∨ n = dData) by rintro (h | h); exact h1 h; exact h2 h), if_neg h3, if_neg h4, if_neg (show ¬ (n = dWord ∨ n = dByte ∨ n = dText ∨ n = dSpace) by rintro (h | h | h | h); exact h5 h; exact h6 h; exact h7 h; exact h8 h)]
theorem StIs.lim {a a' : St} {n : Bytes} {l : List Tk} {c d t : Bool} {lo hi : Nat} {X : R St} (hS : StIs a l n c d lo hi t X) (ha : Lim a) (hX : X = .ok a') (h1 : a'.p.code.length ≤ 1024) (h2 : a'.p.data.length ≤ 4096) (h3 : ¬ (n = dEntry ∧ a.hasEntry = true)) : Lim a' ∧ a'.line = a.line := by
 have hu := ha.uses
 cases hS with
 | op op hf =>
   obtain ⟨g1, g2, g3, g4, g5, g6⟩ := instrX_ok hX
   exact ⟨⟨h1, h2, by rw [g3]; exact ha.labels, by rw [g1, g2, g4]; omega⟩, g5⟩
 | code => injection hX with hX; subst hX; exact ⟨⟨ha.code, ha.data, ha.labels, ha.uses⟩, rfl⟩
 | data => injection hX with hX; subst hX; exact ⟨⟨ha.code, ha.data, ha.labels, ha.uses⟩, rfl⟩
 | entry =>
   unfold Go.Proofs.D.entryX at hX
   obtain ⟨x, hv, hX⟩ := bind_ok hX
   have := Go.Proofs.D.val_fst hv
   injection hX with hX; subst hX
   have he : a.hasEntry = false := by
    cases e : a.hasEntry with
    | false => rfl
    | true => exact absurd ⟨rfl, e⟩ h3
   rw [he] at hu
   refine ⟨⟨ha.code, ha.data, ha.labels, ?_⟩, rfl⟩
   simp at hu ⊢; omega
 | zero =>
   unfold Go.Proofs.D.zeroX at hX
   obtain ⟨x, hv, hX⟩ := bind_ok hX
   injection hX with hX; subst hX
   exact ⟨⟨ha.code, ha.data, ha.labels, ha.uses⟩, rfl⟩
 | word =>
   obtain ⟨g1, g2, g3, g4, g5⟩ := words_code _ _ _ hX
   refine ⟨⟨h1, h2, by rw [g2]; exact ha.labels, ?_⟩, g4⟩
   rw [g1, g3]; omega
 | byte =>
   obtain ⟨g1, g2, g3, g4, g5, g6⟩ := bytes_code _ _ _ hX
   refine ⟨⟨h1, h2, by rw [g2]; exact ha.labels, ?_⟩, g4⟩
   rw [g1, g3, g5]; omega
 | text =>
   injection hX with hX; subst hX
   refine ⟨⟨h1, h2, ha.labels, ?_⟩, rfl⟩
   simp; omega
 | space =>
   unfold Go.Proofs.D.spaceX at hX
   obtain ⟨x, hv, hX⟩ := bind_ok hX
   injection hX with hX; subst hX
   refine ⟨⟨h1, h2, ha.labels, ?_⟩, rfl⟩
   simp; omega
theorem StIs.line {a a' : St} {n : Bytes} {l : List Tk} {c d t : Bool} {lo hi : Nat} {X : R St} (hS : StIs a l n c d lo hi t X) (hX : X = .ok a') : a'.line = a.line := by
 cases hS with
 | op op hf => exact (instrX_ok hX).2.2.2.2.1
 | code => injection hX with hX; subst hX; rfl
 | data => injection hX with hX; subst hX; rfl
 | entry =>
   unfold Go.Proofs.D.entryX at hX
   obtain ⟨x, hv, hX⟩ := bind_ok hX
   injection hX with hX; subst hX; rfl
 | zero =>
   unfold Go.Proofs.D.zeroX at hX
   obtain ⟨x, hv, hX⟩ := bind_ok hX
   injection hX with hX; subst hX; rfl
 | word => exact (words_code _ _ _ hX).2.2.2.1
 | byte => exact (bytes_code _ _ _ hX).2.2.2.1
 | text => injection hX with hX; subst hX; rfl
 | space =>
   unfold Go.Proofs.D.spaceX at hX
   obtain ⟨x, hv, hX⟩ := bind_ok hX
   injection hX with hX; subst hX; rfl
theorem define_lim : ∀ (ls : List Bytes) (a a' : St), Lim a → defineS a ls = .ok a' → Lim a' ∧ a'.line = a.line
 | [], a, a', ha, h => by simp [defineS] at h; subst h; exact ⟨ha, rfl⟩
 | n :: ls, a, a', ha, h => by
   rw [defineS] at h
   split at h
   · cases h
   split at h
   · cases h
   split at h
   · cases h
   have hd := fun hL => define_lim ls _ a' hL h
   refine hd ⟨ha.code, ha.data, ?_, ha.uses⟩
   simp only [List.length_append, List.length_cons, List.length_nil]; omega
theorem line_lim {a a' : St} {s : Bytes} (ha : Lim a) (hs : s.length ≤ 65536) (h : lineS a s = .ok a') : Lim a' ∧ a'.line = a.line := by
 unfold lineS at h
 split at h
 · cases h
 rename_i ts ht
 split at h
 · cases h
 · rename_i ls hsp
   exact define_lim ls a a' ha h
 · rename_i ls n os hsp
   obtain ⟨b, hb, h⟩ := bind_ok h
   obtain ⟨h1, h2⟩ := define_lim ls a b ha hb
   have hol : os.length ≤ 65536 := by
    have hc : ∀ (f : Nat) (s : Bytes) (ts : List Tk), tokensS f s = some ts → ts.length ≤ s.length := by
     intro f
     induction f with
     | zero => intro s ts h; simp [tokensS] at h
     | succ f ih =>
       intro s ts h
       match s, h with
       | [], h => simp [tokensS] at h; subst h; simp
       | c :: r, h =>
         have r1 : ∀ {s' : Bytes} {k : Tk} {x : Option (List Tk)}, s'.length ≤ r.length → x = tokensS f s' → (x.map fun l => k :: l) = some ts → ts.length ≤ (c :: r).length := fun {s' k x} hl hx he => by
          subst hx
          simp only [Option.map_eq_some_iff] at he
          obtain ⟨l, h1, rfl⟩ := he
          have := ih _ _ h1
          simp; omega
         rw [tokensS] at h
         split at h
         · simp at h; subst h; simp
         split at h
         · have := ih _ _ h; simp; omega
         split at h
         · exact r1 (Nat.le_refl _) rfl h
         split at h
         · exact r1 (Nat.le_refl _) rfl h
         split at h
         · split at h
           · cases h
           · rename_i x r' hu
             have := unq_len hu
             exact r1 (by omega) rfl h
         split at h
         · rename_i hw
           have hd : (c :: r).dropWhile wordB = r.dropWhile wordB := by simp [List.dropWhile, hw]
           rw [hd] at h
           exact r1 (drop_len r) rfl h
         · cases h
    have := (split_sub ts ls _ hsp).2 n os rfl
    have := hc _ _ _ ht
    omega
   rcases stmt_is (n := n) h1 hol with ⟨c, d, lo, hi, t, X, hS, he⟩ | ⟨_, _, he⟩
   · rw [he] at h
     obtain ⟨g1, g2, g3, g4⟩ := do_ok h
     obtain ⟨k1, k2⟩ := hS.lim h1 g1 g2 g3 g4
     exact ⟨k1, k2.trans h2⟩
   · rw [he] at h; cases h
end Go.As
namespace Go.Proofs.D
open Go Go.Den Go.As
set_option maxRecDepth 100000
attribute [local irreducible] IntKind.wrap Tri
section
variable {hb h : PHeap} {p mS : Nat} {a : As.St}
def tail39 (p1 o1 : Nat) (a3 : OA) (n3 k3 : Nat) (c1 c2 : Bool) (i4 i5 : Int) (c3 : Bool) (f1 : Nat) (x1 y1 : List Value) (h_4 : PHeap) (Q : Value → PHeap → Prop) : Prop :=
 (br (decide (((n3 : Nat) : Int) < i4))
 (Q (vI 30) h_4)
 (br (decide (((n3 : Nat) : Int) > i5))
 (Q (vI 30) h_4)
 (∃ (I_1 : Nat → Int → PHeap → Prop), (∃ (m3 : Nat), I_1 m3 (0 : Int) h_4) ∧
 ∀ (m2 : Nat) (i6 : Int) (h_5 : PHeap), I_1 m2 i6 h_5 →
 br (decide (i6 < ((n3 : Nat) : Int)))
 (∃ (b1 o2 : Nat), a3 = some ⟨b1, o2, none⟩ ∧ (0 ≤ i6 ∧ i6 < n3) ∧
 ∃ (i7 : Int) (l3 : Bs), h_5.row b1 (o2 + (i6).toNat * 2) [vI i7, vS l3] ∧
 br (!((i7 == 2) == c3))
 (Q (vI 30) h_5)
 (∃ (m4 : Nat), m4 < m2 ∧ I_1 m4 (IntKind.i64.wrap (i6 + 1)) h_5 ∧
 tv [vB c1, vB c2, vI i4, vI i5, vB c3, vF f1 x1 y1] ∧ True))
 (Tri Tryz.prog f1 (x1 ++ [vP p1 o1, vL a3 n3 k3] ++ y1) h_5 fun v_5 h_6 =>
 ∃ (i8 : Int), v_5 = vI i8 ∧
 br (i8 != 0)
 (Q (vI i8) h_6)
 (∃ (a4 : OA) (n4 k4 : Nat), h_6.cell p1 (o1 + 1) = some (vL a4 n4 k4) ∧
 br (decide (((n4 : Nat) : Int) > 1024))
 (Q (vI 9) h_6)
 (∃ (a5 : OA) (n5 k5 : Nat), h_6.cell p1 (o1 + 6) = some (vL a5 n5 k5) ∧
 br (decide (((n5 : Nat) : Int) > 4096))
 (Q (vI 9) h_6)
 (Q (vI 0) h_6)))))))
def mid39 (l2 : Bs) (p1 o1 : Nat) (a3 : OA) (n3 k3 : Nat) (c1 c2 : Bool) (i4 i5 : Int) (c3 : Bool) (f1 : Nat) (x1 y1 : List Value) (h_4 : PHeap) (Q : Value → PHeap → Prop) : Prop :=
 (br (l2 == [46, 101, 110, 116, 114, 121])
 (∃ (c6 : Bool), h_4.cell p1 (o1 + 8) = some (vB c6) ∧
 br c6
 (Q (vI 10) h_4)
 (br (l2 == [46, 122, 101, 114, 111])
 (∃ (c7 : Bool), h_4.cell p1 (o1 + 9) = some (vB c7) ∧
 br c7
 (Q (vI 10) h_4)
 (tail39 p1 o1 a3 n3 k3 c1 c2 i4 i5 c3 f1 x1 y1 h_4 Q))
 (tail39 p1 o1 a3 n3 k3 c1 c2 i4 i5 c3 f1 x1 y1 h_4 Q)))
 (br (l2 == [46, 122, 101, 114, 111])
 (∃ (c7 : Bool), h_4.cell p1 (o1 + 9) = some (vB c7) ∧
 br c7
 (Q (vI 10) h_4)
 (tail39 p1 o1 a3 n3 k3 c1 c2 i4 i5 c3 f1 x1 y1 h_4 Q))
 (tail39 p1 o1 a3 n3 k3 c1 c2 i4 i5 c3 f1 x1 y1 h_4 Q)))
def top39 (l2 : Bs) (p1 o1 : Nat) (a3 : OA) (n3 k3 : Nat) (c1 c2 : Bool) (i4 i5 : Int) (c3 : Bool) (f1 : Nat) (x1 y1 : List Value) (h_4 : PHeap) (Q : Value → PHeap → Prop) : Prop :=
 ∃ (c4 : Bool), h_4.cell p1 (o1 + 7) = some (vB c4) ∧
 br c4
 (br (!c2)
 (Q (vI 10) h_4)
 (∃ (c5 : Bool), h_4.cell p1 (o1 + 7) = some (vB c5) ∧
 br (!c5)
 (br (!c1)
 (Q (vI 10) h_4)
 (mid39 l2 p1 o1 a3 n3 k3 c1 c2 i4 i5 c3 f1 x1 y1 h_4 Q))
 (mid39 l2 p1 o1 a3 n3 k3 c1 c2 i4 i5 c3 f1 x1 y1 h_4 Q)))
 (∃ (c12 : Bool), h_4.cell p1 (o1 + 7) = some (vB c12) ∧
 br (!c12)
 (br (!c1)
 (Q (vI 10) h_4)
 (mid39 l2 p1 o1 a3 n3 k3 c1 c2 i4 i5 c3 f1 x1 y1 h_4 Q))
 (mid39 l2 p1 o1 a3 n3 k3 c1 c2 i4 i5 c3 f1 x1 y1 h_4 Q))
theorem do_ten {n : Bytes} {l : List Tk} {c d t : Bool} {lo hi : Nat} {X : As.R As.St} (h : ((a.inData && !d) || (!a.inData && !c) || (n == dEntry && a.hasEntry) || (n == dZero && a.hasZero)) = true) : doS a n l c d lo hi t X = .error 10 := by
 unfold doS; rw [if_pos h]
theorem res_base {hb' : PHeap} {line : Nat} {r : As.R As.St} {v : Value} {h' : PHeap} (x : Ext hb hb') (hR : Res hb' p mS line r v h') : Res hb p mS line r v h' := by
 cases r with
 | error e => exact ⟨hR.1, hR.2.1, x.trans hR.2.2.1, hR.2.2.2⟩
 | ok a' =>
   obtain ⟨h1, hb2, h2, h3⟩ := hR
   exact ⟨h1, hb2, x.trans h2, h3⟩
theorem tail_39 {n : Bytes} {os : List Tk} {a3 : OA} {k3 : Nat} {c d t : Bool} {lo hi f : Nat} {y : List Value} {X : As.R As.St} {Q : Value → PHeap → Prop} (hQ : ∀ v h', Res hb p mS a.line (doS a n os c d lo hi t X) v h' → Q v h') (hA : AS hb h p mS a) (hT : TkAt hb a3 os) (hlen : os.length ≤ 1000000) (hline : ∀ a', X = .ok a' → a'.line = a.line)
 (hok : ((a.inData && !d) || (!a.inData && !c) || (n == dEntry && a.hasEntry) || (n == dZero && a.hasZero)) = false)
 (hP : lo ≤ os.length → os.length ≤ hi → (os.all fun k => decide (k.kind = 2) == t) = true → Tri Tryz.prog f ([vP p 0, vL a3 os.length k3] ++ y) h fun v h' => Res hb p mS a.line X v h') :
 tail39 p 0 a3 os.length k3 c d (lo : Int) (hi : Int) t f [] y h Q := by
 unfold tail39
 have h0 : ¬ (((a.inData && !d) || (!a.inData && !c) || (n == dEntry && a.hasEntry) || (n == dZero && a.hasZero)) = true) := by rw [hok]; decide
 have e30 : (os.length < lo ∨ hi < os.length) ∨ (os.all fun k => decide (k.kind = 2) == t) = false → ∀ h1, AS hb h1 p mS a → Res hb p mS a.line (doS a n os c d lo hi t X) (vI 30) h1 := fun hc h1 hA1 => by
  refine res_err (e := 30) ?_ (by decide) (Ext.refl _) hA1
  unfold doS
  rw [if_neg h0]
  by_cases h1 : os.length < lo ∨ hi < os.length
  · rw [if_pos h1]
  · rw [if_neg h1, if_pos (hc.resolve_left h1)]
 refine br_split (fun e => hQ _ _ (e30 (.inl (.inl (by have := of_decide_eq_true e; omega))) h hA)) fun e1 => br_split (fun e => hQ _ _ (e30 (.inl (.inr (by have := of_decide_eq_true e; omega))) h hA)) fun e2 => ?_
 have e1 := of_decide_eq_false e1
 have e2 := of_decide_eq_false e2
 refine ⟨fun m i h' => ∃ j : Nat, i = (j : Int) ∧ j + m = os.length ∧ h' = h ∧ ((os.take j).all fun k => decide (k.kind = 2) == t) = true, ⟨os.length, 0, rfl, by omega, rfl, by simp⟩, ?_⟩
 rintro m _ h1 ⟨j, rfl, hjm, rfl, hall⟩
 refine br_split (fun e => ?_) fun e => ?_
 · have hlt : j < os.length := by have := of_decide_eq_true e; omega
   have hg : os[j]? = some os[j] := by simp [hlt]
   have htk := List.take_append_getElem hlt
   have hmem := List.getElem_mem hlt
   generalize os[j] = u at *
   obtain ⟨b, o, ha, hr⟩ := (hT.ext hA.ext).get hg
   have hk : (((u.kind : Nat) : Int) == 2) = decide (u.kind = 2) := by rw [Bool.eq_iff_iff]; simp; omega
   refine ⟨b, o, ha, ⟨by omega, by omega⟩, _, _, (by rw [Int.toNat_natCast]; exact hr), ?_⟩
   rw [hk]
   refine br_split (fun e3 => hQ _ _ (e30 (.inr ?_) h1 hA)) fun e3 => ⟨m - 1, by omega, ⟨j + 1, ?_, by omega, rfl, ?_⟩, rfl, trivial⟩
   · rw [List.all_eq_false]
     exact ⟨u, hmem, by rw [not_f e3]; decide⟩
   · rw [wrap64 (by omega) (by omega)]; omega
   · rw [← htk, List.all_append, hall]
     simp only [List.all_cons, List.all_nil, Bool.and_true, Bool.true_and]
     exact not_t e3
 · have hj : j = os.length := by have := of_decide_eq_false e; omega
   subst hj
   rw [List.take_length] at hall
   refine Tri.mono (hP (by omega) (by omega) hall) ?_
   intro v h2 hR
   have hdo : doS a n os c d lo hi t X = X >>= fun a' => if 1024 < a'.p.code.length ∨ 4096 < a'.p.data.length then .error 9 else .ok a' := by
    unfold doS
    rw [if_neg h0, if_neg (by omega), if_neg (by rw [hall]; decide)]
   rw [hdo] at hQ
   cases hX : X with
   | error e =>
     rw [hX] at hR
     obtain ⟨rfl, g1, g2, g3⟩ := hR
     exact ⟨_, rfl, br_pos (by simp; omega) (hQ _ _ (by rw [hX]; exact ⟨rfl, g1, g2, g3⟩))⟩
   | ok a' =>
     rw [hX] at hR hQ
     obtain ⟨rfl, hb', hbx, hA'⟩ := hR
     have hl := hline a' hX
     show ∃ i8 : Int, _
     by_cases h9 : 1024 < a'.p.code.length ∨ 4096 < a'.p.data.length
     · have nine : Res hb p mS a.line ((.ok a' : As.R As.St) >>= fun a' => if 1024 < a'.p.code.length ∨ 4096 < a'.p.data.length then .error 9 else .ok a') (vI 9) h2 := by
        refine res_base hbx ?_
        rw [← hl]
        refine res_err (e := 9) ?_ (by decide) (Ext.refl _) hA'
        show (if 1024 < a'.p.code.length ∨ 4096 < a'.p.data.length then (.error 9 : As.R As.St) else .ok a') = .error 9
        rw [if_pos h9]
       obtain ⟨K, hK⟩ := hA'
       refine ⟨_, rfl, br_neg rfl ⟨_, _, _, (by rw [PA_cell hK.obj]; rfl), br_split (fun _ => hQ _ _ nine) fun e1 => ⟨_, _, _, (by rw [PA_cell hK.obj]; rfl), br_split (fun _ => hQ _ _ nine) fun e2 => ?_⟩⟩⟩
       have := of_decide_eq_false e1
       have := of_decide_eq_false e2
       omega
     · obtain ⟨K, hK⟩ := hA'
       refine ⟨_, rfl, br_neg rfl ⟨_, _, _, (by rw [PA_cell hK.obj]; rfl), br_neg (by simp; omega) ⟨_, _, _, (by rw [PA_cell hK.obj]; rfl), br_neg (by simp; omega) ?_⟩⟩⟩
       refine hQ _ _ ?_
       show Res hb p mS a.line (if 1024 < a'.p.code.length ∨ 4096 < a'.p.data.length then (.error 9 : As.R As.St) else .ok a') (vI 0) h2
       rw [if_neg h9]
       exact ⟨rfl, hb', hbx, K, hK⟩
theorem mid_39 {n : Bytes} {os : List Tk} {a3 : OA} {k3 : Nat} {c d t : Bool} {lo hi f : Nat} {y : List Value} {X : As.R As.St} {Q : Value → PHeap → Prop} (hQ : ∀ v h', Res hb p mS a.line (doS a n os c d lo hi t X) v h' → Q v h') (hA : AS hb h p mS a) (hT : TkAt hb a3 os) (hlen : os.length ≤ 1000000) (hline : ∀ a', X = .ok a' → a'.line = a.line)
 (hok : ((a.inData && !d) || (!a.inData && !c)) = false)
 (hP : lo ≤ os.length → os.length ≤ hi → (os.all fun k => decide (k.kind = 2) == t) = true → Tri Tryz.prog f ([vP p 0, vL a3 os.length k3] ++ y) h fun v h' => Res hb p mS a.line X v h') :
 mid39 n p 0 a3 os.length k3 c d (lo : Int) (hi : Int) t f [] y h Q := by
 unfold mid39
 have hA0 := hA
 obtain ⟨K, hK⟩ := hA
 have ten : ((n == dEntry && a.hasEntry) || (n == dZero && a.hasZero)) = true → Res hb p mS a.line (doS a n os c d lo hi t X) (vI 10) h := fun e =>
  res_err (e := 10) (do_ten (by rw [Bool.or_assoc, hok, Bool.false_or]; exact e)) (by decide) (Ext.refl _) hA0
 have tl : (n == dEntry && a.hasEntry) = false → (n == dZero && a.hasZero) = false → tail39 p 0 a3 os.length k3 c d (lo : Int) (hi : Int) t f [] y h Q := fun e1 e2 =>
  tail_39 hQ hA0 hT hlen hline (by rw [hok, e1, e2]; rfl) hP
 have z : (n == dEntry && a.hasEntry) = false → (br (n == [46, 122, 101, 114, 111])
  (∃ (c7 : Bool), h.cell p (0 + 9) = some (vB c7) ∧
  br c7
  (Q (vI 10) h)
  (tail39 p 0 a3 os.length k3 c d (lo : Int) (hi : Int) t f [] y h Q))
  (tail39 p 0 a3 os.length k3 c d (lo : Int) (hi : Int) t f [] y h Q)) := fun e1 => by
  refine br_split (fun e => ?_) fun e => ?_
  · have e : (n == dZero) = true := e
    refine ⟨a.hasZero, (by rw [PA_cell hK.obj]; rfl), br_split (fun e3 => hQ _ _ (ten (by rw [e, e3]; simp))) fun e3 => tl e1 (by rw [e3]; simp)⟩
  · have e : (n == dZero) = false := e
    exact tl e1 (by rw [e]; rfl)
 refine br_split (fun e => ?_) fun e => ?_
 · have e : (n == dEntry) = true := e
   refine ⟨a.hasEntry, (by rw [PA_cell hK.obj]; rfl), br_split (fun e3 => hQ _ _ (ten (by rw [e, e3]; simp))) fun e3 => z (by rw [e3]; simp)⟩
 · have e : (n == dEntry) = false := e
   exact z (by rw [e]; rfl)
theorem top_39 {n : Bytes} {os : List Tk} {a3 : OA} {k3 : Nat} {c d t : Bool} {lo hi f : Nat} {y : List Value} {X : As.R As.St} {Q : Value → PHeap → Prop} (hQ : ∀ v h', Res hb p mS a.line (doS a n os c d lo hi t X) v h' → Q v h') (hA : AS hb h p mS a) (hT : TkAt hb a3 os) (hlen : os.length ≤ 1000000) (hline : ∀ a', X = .ok a' → a'.line = a.line)
 (hP : lo ≤ os.length → os.length ≤ hi → (os.all fun k => decide (k.kind = 2) == t) = true → Tri Tryz.prog f ([vP p 0, vL a3 os.length k3] ++ y) h fun v h' => Res hb p mS a.line X v h') :
 top39 n p 0 a3 os.length k3 c d (lo : Int) (hi : Int) t f [] y h Q := by
 unfold top39
 have hA0 := hA
 obtain ⟨K, hK⟩ := hA
 have ten : ((a.inData && !d) || (!a.inData && !c)) = true → Res hb p mS a.line (doS a n os c d lo hi t X) (vI 10) h := fun e =>
  res_err (e := 10) (do_ten (by rw [e]; rfl)) (by decide) (Ext.refl _) hA0
 have md : ((a.inData && !d) || (!a.inData && !c)) = false → _ := fun e => mid_39 (n := n) hQ hA0 hT hlen hline e hP
 have c7 : h.cell p (0 + 7) = some (vB a.inData) := by rw [PA_cell hK.obj]; rfl
 refine ⟨a.inData, c7, br_split (fun e => br_split (fun e1 => hQ _ _ (ten (by rw [e, e1]; rfl))) fun e1 => ⟨a.inData, c7, br_neg (by rw [e]; rfl) (md (by rw [e, e1]; rfl))⟩) fun e => ⟨a.inData, c7, br_pos (by rw [e]; rfl) (br_split (fun e1 => hQ _ _ (ten (by rw [e, e1]; rfl))) fun e1 => md (by rw [e, e1]; rfl))⟩⟩
theorem perform_t {n : Bytes} {os : List Tk} {a3 : OA} {k3 : Nat} {c d t : Bool} {lo hi : Nat} {X : As.R As.St} {r : Option Value} (hA : AS hb h p mS a) (hO : OpTab hb) (hSt : StIs a os n c d lo hi t X) (hg : StGet hb r n) (ha : Lim a)
 (hT : TkAt hb a3 os) (hk3 : os.length ≤ k3) (hok3 : okA a3 os.length k3) (hl : ∀ t ∈ os, t.text.length ≤ 1000000) (hn : os.length ≤ 65536) :
 ∃ f y, r = some (stV c d lo hi t f y) ∧ (lo ≤ os.length → os.length ≤ hi → Tri Tryz.prog f ([vP p 0, vL a3 os.length k3] ++ y) h fun v h' => Res hb p mS a.line X v h') := by
 have h1 := ha.code
 have h2 := ha.data
 have h3 : a.uses.length ≤ 1000000 := by have := ha.uses; have : a.hasEntry.toNat ≤ 1 := by cases a.hasEntry <;> decide
                                         omega
 have one : ∀ {P : List Tk → Prop}, (∀ t : Tk, os = [t] → P [t]) → 1 ≤ os.length → os.length ≤ 1 → P os := fun hP g1 g2 => by
  match os, g1, g2, hP with
  | [], g1, _, _ => simp at g1
  | [t], _, _, hP => exact hP t rfl
  | _ :: _ :: _, _, g2, _ => simp at g2
 unfold StGet at hg
 cases hSt with
 | op op hf =>
   rw [hf] at hg
   obtain ⟨c, hr, hc⟩ := hg
   exact ⟨85, [vP c 0], hr, fun g1 g2 => stmt85_t hA hO hc (find_word hf).1 hT hk3 hok3 (by omega) hl (by omega) h3⟩
 | code => exact ⟨76, [], hg, fun _ _ => begin76_t hA _⟩
 | data => exact ⟨77, [], hg, fun _ _ => begin77_t hA _⟩
 | entry => exact ⟨78, [], hg, fun g1 g2 => by
  revert hT hl
  refine one (P := fun os => TkAt hb a3 os → (∀ t ∈ os, t.text.length ≤ 1000000) → Tri Tryz.prog 78 ([vP p 0, vL a3 os.length k3] ++ []) h fun v h' => Res hb p mS a.line (entryX a (os.getD 0 ⟨1, []⟩).text) v h') (fun t _ hT hl => entry78_t hA hT (hl t (List.mem_singleton.2 rfl)) (by omega)) g1 g2⟩
 | zero => exact ⟨79, [], hg, fun g1 g2 => by
  revert hT hl
  refine one (P := fun os => TkAt hb a3 os → (∀ t ∈ os, t.text.length ≤ 1000000) → Tri Tryz.prog 79 ([vP p 0, vL a3 os.length k3] ++ []) h fun v h' => Res hb p mS a.line (zeroX a (os.getD 0 ⟨1, []⟩).text) v h') (fun t _ hT hl => zero79_t hA hT (hl t (List.mem_singleton.2 rfl))) g1 g2⟩
 | word => exact ⟨80, [], hg, fun _ _ => words80_t hA hT hl (by omega) (by omega) h3⟩
 | byte => exact ⟨81, [], hg, fun _ _ => bytes81_t hA hT hl (by omega) (by omega)⟩
 | text => exact ⟨82, [], hg, fun g1 g2 => by
  revert hT hl
  refine one (P := fun os => TkAt hb a3 os → (∀ t ∈ os, t.text.length ≤ 1000000) → Tri Tryz.prog 82 ([vP p 0, vL a3 os.length k3] ++ []) h fun v h' => Res hb p mS a.line (.ok { a with p := { a.p with data := a.p.data ++ (os.getD 0 ⟨1, []⟩).text } }) v h') (fun t _ hT hl => text82_t hA hT (hl t (List.mem_singleton.2 rfl)) (by omega)) g1 g2⟩
 | space => exact ⟨83, [], hg, fun g1 g2 => by
  revert hT hl
  refine one (P := fun os => TkAt hb a3 os → (∀ t ∈ os, t.text.length ≤ 1000000) → Tri Tryz.prog 83 ([vP p 0, vL a3 os.length k3] ++ []) h fun v h' => Res hb p mS a.line (spaceX a (os.getD 0 ⟨1, []⟩).text) v h') (fun t _ hT hl => space83_t hA hT (hl t (List.mem_singleton.2 rfl)) (by omega)) g1 g2⟩
theorem LM.into {e k : Nat} {h1 h2 hb2 : PHeap} {aa : OA} {n c : Nat} {css : List (List Value)} (hM : LM e k h1 h2 aa n c css) (hnew : ∀ q o, h1 q = none → h2 q = some o → hb2 q = some o) : LM e k h1 hb2 aa n c css :=
 LM.keep (fun b hb => by
  obtain ⟨g1, g2⟩ := hM.own b hb
  cases hq : h2 b with
  | none => exact absurd hq g2
  | some o => exact hnew b o g1 hq) hM
theorem LM.okA {e k : Nat} {h1 h2 : PHeap} {aa : OA} {n c : Nat} {css : List (List Value)} (hM : LM e k h1 h2 aa n c css) : n ≤ c ∧ okA aa n c := by
 obtain ⟨g1, g2⟩ := hM.okN
 refine ⟨g1, ?_⟩
 by_cases hn : n = 0
 · obtain ⟨g3, g4⟩ := g2 hn
   exact .inr ⟨g3, hn, g4⟩
 · obtain ⟨b, _, hb, _⟩ := hM.open (by omega)
   exact .inl ⟨b, 0, hb⟩
theorem read_t {s : Bytes} (hA : AS hb h p mS a) (hO : OpTab hb) (hS : StOk hb mS) (hs : s.length ≤ 65536) (ha : Lim a) : Tri Tryz.prog 39 [vP p 0, vS s] h fun v h' => Res hb p mS a.line (lineS a s) v h' := by
 refine T39 ?_
 unfold R39
 refine Tri.mono (tokens_t h s (by omega)) ?_
 rintro v h1 ⟨x1, hv⟩
 cases ht : tokensL s with
 | none =>
   rw [ht] at hv
   have hl : lineS a s = .error 6 := by unfold lineS; rw [ht]
   exact ⟨_, _, _, _, hv, br_pos rfl (res_err hl (by decide) (Ext.refl _) (hA.grow x1))⟩
 | some ts =>
   rw [ht] at hv
   obtain ⟨hn, a1, k1, rfl, hM⟩ := hv
   refine ⟨_, _, _, _, rfl, br_neg rfl ?_⟩
   obtain ⟨hb1, y1, hA1, hnew1⟩ := hA.rebase x1
   refine Tri.mono (parse_t h1 (by omega) hM.tk hM.okA.1 hM.okA.2) ?_
   rintro v h2 ⟨x2, hv⟩
   cases hsp : splitL ts with
   | none =>
     rw [hsp] at hv
     have hl : lineS a s = .error 30 := by unfold lineS; simp only [ht, hsp]
     exact ⟨_, _, _, _, _, _, _, _, hv, br_pos rfl (res_err hl (by decide) (Ext.refl _) (hA.grow (x1.trans x2)))⟩
   | some x =>
     obtain ⟨ls, o⟩ := x
     obtain ⟨hb2, y2, hA2, hnew2⟩ := hA1.rebase x2
     have y02 := y1.trans y2
     obtain ⟨s1, s2⟩ := split_sub ts ls o hsp
     have hdef : ∀ {a2 : OA} {k2 : Nat}, LM 9 1 h1 h2 a2 ls.length k2 (sL ls) → Tri Tryz.prog 90 [vP p 0, vL a2 ls.length k2] h2 fun v h' => Res hb2 p mS a.line (defineS a ls) v h' := fun hM2 =>
      define_t hA2 (hM2.into hnew2).strs (by omega) (by have := ha.code; omega)
     cases o with
     | none =>
       rw [hsp] at hv
       obtain ⟨a2, k2, rfl, hM2⟩ := hv
       have hl : lineS a s = defineS a ls := by unfold lineS; simp only [ht, hsp]
       rw [hl]
       refine ⟨_, _, _, _, _, _, _, _, rfl, br_neg rfl (Tri.mono (hdef hM2) ?_)⟩
       intro v h3 hR
       cases hd : defineS a ls with
       | error e =>
         rw [hd] at hR
         obtain ⟨rfl, g1, g2, g3⟩ := hR
         exact ⟨_, rfl, br_pos (by simp; omega) ⟨rfl, g1, y02.trans g2, g3⟩⟩
       | ok b =>
         rw [hd] at hR
         obtain ⟨rfl, hb3, g1, g2⟩ := hR
         exact ⟨_, rfl, br_neg rfl (br_pos rfl ⟨rfl, hb3, y02.trans g1, g2⟩)⟩
     | some no =>
       obtain ⟨n, os⟩ := no
       rw [hsp] at hv
       obtain ⟨a2, k2, a3, k3, rfl, hM2, hM3⟩ := hv
       obtain ⟨s3, s4, tn, s5, s6, s7⟩ := s2 n os rfl
       have hl : lineS a s = (defineS a ls >>= fun a => stmtS a n os) := by unfold lineS; simp only [ht, hsp]
       refine ⟨_, _, _, _, _, _, _, _, rfl, br_neg rfl (Tri.mono (hdef hM2) ?_)⟩
       intro v h3 hR
       rw [hl]
       cases hd : defineS a ls with
       | error e =>
         rw [hd] at hR
         obtain ⟨rfl, g1, g2, g3⟩ := hR
         exact ⟨_, rfl, br_pos (by simp; omega) ⟨rfl, g1, y02.trans g2, g3⟩⟩
       | ok b =>
         rw [hd] at hR
         obtain ⟨rfl, hb3, g1, hA3⟩ := hR
         obtain ⟨hlim, hline⟩ := define_lim ls a b ha hd
         have y03 := y02.trans g1
         have hname : (n == []) = false := by
          have := (tok_facts _ _ _ ht tn s5).2 s6
          rw [s7] at this
          simpa using this
         refine ⟨_, rfl, br_neg rfl (br_neg hname ?_)⟩
         show ∃ m1 : Nat, _
         obtain ⟨L, ck, hm, hget⟩ := hS.ext y03
         have hA30 := hA3
         obtain ⟨K, hK⟩ := hA3
         refine ⟨mS, (by rw [PA_cell hK.obj]; rfl), ?_⟩
         refine Raw.mono (raw_lookupS und69 rfl (z := vA [vB false, vB false, vI 0, vI 0, vB false, .nilFunc]) rfl rfl rfl (hK.ext _ _ hm)) ?_
         rintro _ h3 ⟨rfl, rfl⟩
         have hos : os.length ≤ 65536 := by omega
         have hgn := hget n
         show _ ∨ _
         rcases stmt_is (n := n) hlim hos with ⟨c, d, lo, hi, t, X, hSt, he⟩ | ⟨hf, hdv, he⟩
         · right
           have hT3 : TkAt hb3 a3 os := (hM3.into hnew2).tk.ext g1
           obtain ⟨f, y, hr, hP⟩ := perform_t hA30 (hO.ext y03) hSt hgn hlim hT3 hM3.okA.1 hM3.okA.2 (fun t ht' => by have := (tok_facts _ _ _ ht t (s4 t ht')).1; omega) hos
           refine ⟨c, d, lo, hi, t, f, [], y, (by rw [hr]; rfl), ?_⟩
           exact (top_39 (n := n) (c := c) (d := d) (t := t) (fun v h' hR => res_base y03 (by rw [← hline]; show Res hb3 p mS b.line (stmtS b n os) v h'; rw [he]; exact hR)) hA30 hT3 (by omega) (fun a' hX => hSt.line hX) (fun g1 g2 _ => hP g1 g2))
         · left
           have hno : mapGet L n = none := by unfold StGet at hgn; rw [hf] at hgn; rw [hgn]; exact hdv
           rw [hno]
           refine ⟨rfl, ?_⟩
           refine res_base y03 ?_
           rw [← hline]
           exact res_err (e := 11) he (by decide) (Ext.refl _) hA30
end
end Go.Proofs.D
namespace Go.Proofs.D
open Go Go.Den Go.As
set_option maxRecDepth 100000
attribute [local irreducible] IntKind.wrap Tri
def cmpV (a b : Lb) : Int := if a.data != b.data then (if b.data then -1 else 1) else if a.off < b.off then -1 else if b.off < a.off then 1 else Lib.compareBytes a.name b.name
theorem cmpB_lt : ∀ (a b : Bytes), (Lib.compareBytes a b < 0 ↔ a < b)
 | [], [] => by simp [Lib.compareBytes]
 | [], _ :: _ => by simp [Lib.compareBytes]
 | _ :: _, [] => by simp [Lib.compareBytes]
 | x :: a, y :: b => by
   rw [Lib.compareBytes, List.cons_lt_cons_iff]
   by_cases h1 : x < y
   · rw [if_pos h1]; simp [h1]
   · rw [if_neg h1]
     by_cases h2 : y < x
     · rw [if_pos h2]
       have : x ≠ y := fun e => by subst e; exact h1 h2
       simp [h1, this]
     · rw [if_neg h2, cmpB_lt a b]
       have h3 : x = y := by
        apply UInt8.toNat_inj.1
        rw [UInt8.lt_iff_toNat_lt] at h1 h2; omega
       simp [h3]
theorem cmp_follows (a b : Lb) : decide (cmpV a b < 0) = follows a b := by
 unfold cmpV follows
 split
 · cases b.data <;> rfl
 · by_cases h1 : a.off < b.off
   · rw [if_pos h1, if_pos (by omega)]; simp [h1]
   · rw [if_neg h1]
     by_cases h2 : b.off < a.off
     · rw [if_pos h2, if_pos (by omega)]; simp [h1]
     · rw [if_neg h2, if_neg (by omega)]
       rw [Bool.eq_iff_iff, decide_eq_true_iff, decide_eq_true_iff]; exact cmpB_lt _ _
section
variable {h : PHeap}
theorem compare_t (a b : Lb) : Tri Tryz.prog 41 [lbV a, lbV b] h fun v h' => v = vI (cmpV a b) ∧ h' = h := by
 refine T41 ?_
 unfold R41
 have last : a.data = b.data → a.off = b.off → Tri Tryz.prog 93 [vS a.name, vS b.name] h fun v_1 h_1 => ∃ (i3 : Int), v_1 = vI i3 ∧ (vI i3 = vI (cmpV a b) ∧ h_1 = h) := fun e1 e2 => by
  refine Tri.mono (strcmp_t _ _) ?_
  rintro _ h1 ⟨rfl, rfl⟩
  refine ⟨_, rfl, ?_, rfl⟩
  unfold cmpV
  rw [e1, e2]; simp
 unfold cmpV at *
 by_cases e1 : a.data = b.data
 · have ee : (a.data == b.data) = true := by simp [e1]
   refine br_neg (by rw [ee]; rfl) (br_pos ee (br_split (fun e2 => ?_) fun e2 => br_neg (by rw [ee]; rfl) (br_split (fun e3 => ?_) fun e3 => last e1 ?_)))
   · have e2 := of_decide_eq_true e2
     refine ⟨?_, rfl⟩
     rw [if_neg (by simp [e1]), if_pos e2]
   · have e2 := of_decide_eq_false e2
     have e3 := of_decide_eq_true e3
     refine ⟨?_, rfl⟩
     rw [if_neg (by simp [e1]), if_neg e2, if_pos (by omega)]
   · have e2 := of_decide_eq_false e2
     have e3 := of_decide_eq_false e3
     omega
 · have ee : (a.data == b.data) = false := by simp [e1]
   have en : (a.data != b.data) = true := by simp [e1]
   refine br_pos (by rw [ee]; rfl) (br_split (fun e2 => ?_) fun e2 => br_neg ee (br_pos (by rw [ee]; rfl) ?_))
   · exact ⟨by rw [if_pos en, e2]; rfl, rfl⟩
   · exact ⟨by rw [if_pos en, e2]; rfl, rfl⟩
theorem place_t (n m : Int) (hn : -9223372036854775808 ≤ n ∧ n ≤ 9223372036854775807) : Tri Tryz.prog 47 [vI n, vI m] h fun v h' => v = vB (decide (0 ≤ n ∧ n ≤ m ∧ n % 4 = 0)) ∧ h' = h := by
 refine T47 ?_
 unfold R47
 refine br_split (fun e1 => br_split (fun e2 => ⟨?_, rfl⟩) fun e2 => ⟨?_, rfl⟩) fun e1 => ⟨?_, rfl⟩
 · have e1 := of_decide_eq_true e1
   have e2 := of_decide_eq_true e2
   congr 1
   rw [Bool.eq_iff_iff, beq_iff_eq, decide_eq_true_iff, Int.tmod_eq_emod_of_nonneg (by omega)]
   omega
 · have e2 := of_decide_eq_false e2
   congr 1
   rw [Bool.eq_iff_iff, decide_eq_true_iff]
   simp; omega
 · have e1 := of_decide_eq_false e1
   congr 1
   rw [Bool.eq_iff_iff, decide_eq_true_iff]
   simp; omega
def lbC (l : Lb) : List Value := [vS l.name, vB l.data, vI l.off]
def LbAt (h : PHeap) (a : OA) (ls : List Lb) : Prop := ls = [] ∨ ∃ b o, a = ad b o ∧ ∀ j l, ls[j]? = some l → h.row b (o + j * 3) (lbC l)
def InAt (h : PHeap) (a : OA) (ls : List Ins) : Prop := ls = [] ∨ ∃ b o, a = ad b o ∧ ∀ j l, ls[j]? = some l → h.row b (o + j * 4) (insC l)
theorem LbAt.ext {h h' : PHeap} {a : OA} {ls : List Lb} (x : Ext h h') (hl : LbAt h a ls) : LbAt h' a ls := by
 rcases hl with h1 | ⟨b, o, h1, h2⟩
 · exact .inl h1
 · exact .inr ⟨b, o, h1, fun j l hj => row_ext (fun ob => x b ob) (h2 j l hj)⟩
theorem InAt.ext {h h' : PHeap} {a : OA} {ls : List Ins} (x : Ext h h') (hl : InAt h a ls) : InAt h' a ls := by
 rcases hl with h1 | ⟨b, o, h1, h2⟩
 · exact .inl h1
 · exact .inr ⟨b, o, h1, fun j l hj => row_ext (fun ob => x b ob) (h2 j l hj)⟩
theorem LbAt.get {h : PHeap} {a : OA} {ls : List Lb} (hl : LbAt h a ls) {j : Nat} {l : Lb} (hj : ls[j]? = some l) : ∃ b o, a = some ⟨b, o, none⟩ ∧ h.row b (o + j * 3) (lbC l) := by
 rcases hl with rfl | ⟨b, o, ha, ht⟩
 · simp at hj
 · exact ⟨b, o, ha, ht j l hj⟩
theorem InAt.get {h : PHeap} {a : OA} {ls : List Ins} (hl : InAt h a ls) {j : Nat} {l : Ins} (hj : ls[j]? = some l) : ∃ b o, a = some ⟨b, o, none⟩ ∧ h.row b (o + j * 4) (insC l) := by
 rcases hl with rfl | ⟨b, o, ha, ht⟩
 · simp at hj
 · exact ⟨b, o, ha, ht j l hj⟩
theorem dataAt_wrap {n : Nat} (hn : n ≤ 1000000) : IntKind.i64.wrap ((IntKind.i64.wrap (Int.tdiv (IntKind.i64.wrap ((IntKind.i64.wrap ((IntKind.i64.wrap (((n : Nat) : Int) * 4)) + 64)) - 1)) 64)) * 64) = (((4 * n + 63) / 64 * 64 : Nat) : Int) := by
 rw [wrap64 (n := ((n : Nat) : Int) * 4) (by omega) (by omega), wrap64 (n := ((n : Nat) : Int) * 4 + 64) (by omega) (by omega), wrap64 (n := ((n : Nat) : Int) * 4 + 64 - 1) (by omega) (by omega)]
 rw [Int.tdiv_eq_ediv_of_nonneg (by omega)]
 rw [wrap64 (n := (((n : Nat) : Int) * 4 + 64 - 1) / 64) (by omega) (by omega), wrap64 (by omega) (by omega)]
 omega
theorem dataAt_t {a1 : OA} {k1 : Nat} {d : Bytes} {z e : Int} {a2 : OA} {n2 k2 : Nat} {p : Pg} (hn : p.code.length ≤ 1000000) : Tri Tryz.prog 25 [vA [vL a1 p.code.length k1, vS d, vI z, vI e, vL a2 n2 k2]] h fun v h' => v = vI (dataAt p) ∧ h' = h := by
 refine T25 ?_
 unfold R25
 exact ⟨by rw [dataAt_wrap hn]; rfl, rfl⟩
theorem twice_snoc : ∀ (l : List Bytes) (x : Bytes), twice (l ++ [x]) = (twice l || l.contains x)
 | [], x => rfl
 | y :: l, x => by
   have ih := twice_snoc l x
   have hc : (l ++ [x]).contains y = (l.contains y || (x == y)) := by
    rw [Bool.eq_iff_iff, Bool.or_eq_true, List.contains_iff_mem, List.contains_iff_mem, List.mem_append, List.mem_singleton, beq_iff_eq]
    constructor
    · rintro (h | h)
      · exact .inl h
      · exact .inr h.symm
    · rintro (h | h)
      · exact .inl h
      · exact .inr h.symm
   rw [List.cons_append, twice, twice, hc, ih, List.contains_cons]
   generalize l.contains y = a
   generalize (x == y) = b
   generalize twice l = c
   generalize l.contains x = d
   cases a <;> cases b <;> cases c <;> cases d <;> rfl
theorem labels_cons (p : Pg) (prev : Option Lb) (l : Lb) (ls : List Lb) : labelsErr p prev (l :: ls) = if isLabel l.name = false then 12
 else if l.off < 0 ∨ (l.data = false ∧ (l.off % 4 ≠ 0 ∨ 4 * (p.code.length : Int) < l.off)) ∨ (l.data = true ∧ (p.data.length : Int) + p.zero < l.off) then 2
 else if (match prev with | none => false | some q => !follows q l) then 32
 else labelsErr p (some l) ls := rfl
theorem twice_pre (l r : List Bytes) (h : twice l = true) : twice (l ++ r) = true := by
 cases hc : twice (l ++ r) with
 | true => rfl
 | false => rw [twice_app l r hc] at h; cases h
def prevL (ls : List Lb) (j : Nat) : Option Lb := if j = 0 then none else ls[j - 1]?
theorem und149 : Tryz.prog.underlying 149 = some (.map 9 4) := rfl
theorem checkLabels_t {a1 : OA} {k1 : Nat} {a2 : OA} {k2 : Nat} {p : Pg} (hL : LbAt h a2 p.labels) (hn : p.code.length ≤ 1000000) (hd : p.data.length ≤ 1000000) (hls : p.labels.length ≤ 1000000) (hz : 0 ≤ p.zero ∧ p.zero ≤ 4096) (ho : ∀ l ∈ p.labels, -9223372036854775808 ≤ l.off ∧ l.off ≤ 9223372036854775807) :
 Tri Tryz.prog 48 [vA [vL a1 p.code.length k1, vS p.data, vI p.zero, vI p.entry, vL a2 p.labels.length k2]] h fun v h' => v = vI ((if labelsErr p none p.labels ≠ 0 then labelsErr p none p.labels else if twice (p.labels.map (·.name)) then 7 else 0 : Nat) : Int) ∧ Ext h h' := by
 refine T48 ?_
 unfold R48
 refine ⟨fun m i h' => ∃ j : Nat, i = (j : Int) ∧ j + m = p.labels.length ∧ h' = h ∧ labelsErr p none p.labels = labelsErr p (prevL p.labels j) (p.labels.drop j), ⟨p.labels.length, 0, rfl, by omega, rfl, rfl⟩, ?_⟩
 rintro m _ h1 ⟨j, rfl, hjm, rfl, hu⟩
 refine br_split (fun e => ?_) fun e => ?_
 · have hlt : j < p.labels.length := by have := of_decide_eq_true e; omega
   have hg : p.labels[j]? = some p.labels[j] := by simp [hlt]
   have hdr := List.drop_eq_getElem_cons hlt
   have hmem := List.getElem_mem hlt
   rw [hdr, labels_cons] at hu
   generalize p.labels[j] = l at *
   obtain ⟨b, o, ha, hr⟩ := hL.get hg
   have ho1 := ho l hmem
   have bad : ∀ e : Nat, labelsErr p none p.labels = e → e ≠ 0 → vI (e : Int) = vI ((if labelsErr p none p.labels ≠ 0 then labelsErr p none p.labels else if twice (p.labels.map (·.name)) then 7 else 0 : Nat) : Int) ∧ Ext h1 h1 := fun e h1 h2 => by
    rw [h1, if_pos h2]; exact ⟨rfl, Ext.refl _⟩
   refine ⟨b, o, ha, ⟨by omega, by omega⟩, _, _, _, (by rw [Int.toNat_natCast]; exact hr), ?_⟩
   refine Tri.mono (label_t h1 l.name) ?_
   rintro _ h1 ⟨rfl, rfl⟩
   refine ⟨_, rfl, br_split (fun e1 => bad 12 (by rw [hu, if_pos (not_f e1)]) (by decide)) fun e1 => ?_⟩
   rw [if_neg (by rw [not_t e1]; decide)] at hu
   have hw4 : IntKind.i64.wrap (((p.code.length : Nat) : Int) * 4) = 4 * (p.code.length : Int) := by rw [wrap64 (by omega) (by omega)]; omega
   have hwd : IntKind.i64.wrap ((p.data.length : Int) + p.zero) = (p.data.length : Int) + p.zero := wrap64 (by omega) (by omega)
   have hw1 : IntKind.i64.wrap ((j : Int) + 1) = ((j + 1 : Nat) : Int) := by rw [wrap64 (by omega) (by omega)]; omega
   have tail : ¬ (l.off < 0 ∨ (l.data = false ∧ (l.off % 4 ≠ 0 ∨ 4 * (p.code.length : Int) < l.off)) ∨ (l.data = true ∧ (p.data.length : Int) + p.zero < l.off)) →
    br (decide ((j : Int) > 0))
     (∃ (b2 o2 : Nat), a2 = some ⟨b2, o2, none⟩ ∧ (0 ≤ (IntKind.i64.wrap ((j : Int) - 1)) ∧ (IntKind.i64.wrap ((j : Int) - 1)) < p.labels.length) ∧
     ∃ (l3 : Bs) (c4 : Bool) (i5 : Int), h1.row b2 (o2 + (IntKind.i64.wrap ((j : Int) - 1)).toNat * 3) [vS l3, vB c4, vI i5] ∧
     Tri Tryz.prog 41 [vA [vS l3, vB c4, vI i5], lbV l] h1 fun v_3 h_4 =>
     ∃ (i6 : Int), v_3 = vI i6 ∧
     (tv [vL a2 p.labels.length k2]) ∧
     br (decide (i6 ≥ 0))
     (vI 32 = vI ((if labelsErr p none p.labels ≠ 0 then labelsErr p none p.labels else if twice (p.labels.map (·.name)) then 7 else 0 : Nat) : Int) ∧ Ext h1 h_4)
     (∃ (m3 : Nat), m3 < m ∧ (∃ j' : Nat, IntKind.i64.wrap ((j : Int) + 1) = (j' : Int) ∧ j' + m3 = p.labels.length ∧ h_4 = h1 ∧ labelsErr p none p.labels = labelsErr p (prevL p.labels j') (p.labels.drop j')) ∧
     tv [vL a1 p.code.length k1, vS p.data, vI p.zero, vI p.entry, vL a2 p.labels.length k2] ∧ True))
     (∃ (m4 : Nat), m4 < m ∧ (∃ j' : Nat, IntKind.i64.wrap ((j : Int) + 1) = (j' : Int) ∧ j' + m4 = p.labels.length ∧ h1 = h1 ∧ labelsErr p none p.labels = labelsErr p (prevL p.labels j') (p.labels.drop j')) ∧
     tv [vL a1 p.code.length k1, vS p.data, vI p.zero, vI p.entry, vL a2 p.labels.length k2] ∧ True) := fun hno => by
    rw [if_neg hno] at hu
    have hpj : prevL p.labels (j + 1) = some l := by unfold prevL; rw [if_neg (by omega), Nat.add_sub_cancel, hg]
    refine br_split (fun e2 => ?_) fun e2 => ?_
    · have hj0 : 0 < j := by have := of_decide_eq_true e2; omega
      have hwj : IntKind.i64.wrap ((j : Int) - 1) = ((j - 1 : Nat) : Int) := by rw [wrap64 (by omega) (by omega)]; omega
      have hlt' : j - 1 < p.labels.length := by omega
      have hg' : p.labels[j - 1]? = some p.labels[j - 1] := by simp [hlt']
      have hpv : prevL p.labels j = some p.labels[j - 1] := by unfold prevL; rw [if_neg (by omega), hg']
      rw [hpv] at hu
      generalize p.labels[j - 1] = q at *
      obtain ⟨b', o', ha', hr'⟩ := hL.get hg'
      rw [hwj]
      refine ⟨b', o', ha', ⟨by omega, by omega⟩, _, _, _, (by rw [Int.toNat_natCast]; exact hr'), ?_⟩
      refine Tri.mono (compare_t q l) ?_
      rintro _ h1 ⟨rfl, rfl⟩
      have hf := cmp_follows q l
      refine ⟨_, rfl, rfl, br_split (fun e3 => ?_) fun e3 => ?_⟩
      · have e3 := of_decide_eq_true e3
        rw [decide_eq_false (by omega)] at hf
        simp only [← hf, Bool.not_false, if_true] at hu
        exact bad 32 hu (by decide)
      · have e3 := of_decide_eq_false e3
        rw [decide_eq_true (by omega)] at hf
        simp only [← hf, Bool.not_true] at hu
        exact ⟨m - 1, by omega, ⟨j + 1, hw1, by omega, rfl, by rw [hpj]; exact hu⟩, rfl, trivial⟩
    · have hj0 : j = 0 := by have := of_decide_eq_false e2; omega
      have hpv : prevL p.labels j = none := by unfold prevL; rw [if_pos hj0]
      rw [hpv] at hu
      exact ⟨m - 1, by omega, ⟨j + 1, hw1, by omega, rfl, by rw [hpj]; exact hu⟩, rfl, trivial⟩
   have two : (l.off < 0 ∨ (l.data = false ∧ (l.off % 4 ≠ 0 ∨ 4 * (p.code.length : Int) < l.off)) ∨ (l.data = true ∧ (p.data.length : Int) + p.zero < l.off)) → _ := fun hh => bad 2 (by rw [hu, if_pos hh]) (by decide)
   refine br_split (fun e2 => ?_) fun e2 => ?_
   · have e2 : l.data = false := not_f e2
     rw [hw4]
     refine Tri.mono (place_t _ _ ho1) ?_
     rintro _ h1 ⟨rfl, rfl⟩
     refine ⟨_, rfl, br_split (fun e3 => ?_) fun e3 => ?_⟩
     · have e3 := of_decide_eq_false (not_f e3)
       exact two (by rw [e2]; simp; omega)
     · have e3 := of_decide_eq_true (not_t e3)
       refine br_neg e2 (tail ?_)
       rw [e2]; simp; omega
   · have e2 : l.data = true := not_t e2
     refine br_pos e2 (br_split (fun e3 => two (.inl (of_decide_eq_true e3))) fun e3 => ?_)
     rw [hwd]
     refine br_split (fun e4 => two (.inr (.inr ⟨e2, of_decide_eq_true e4⟩))) fun e4 => tail ?_
     have e3 := of_decide_eq_false e3
     have e4 := of_decide_eq_false e4
     rw [e2]; simp; omega
 · have hj : j = p.labels.length := by have := of_decide_eq_false e; omega
   subst hj
   rw [List.drop_length] at hu
   have hu : labelsErr p none p.labels = 0 := by rw [hu]; unfold labelsErr; rfl
   rw [hu]
   simp only [ne_eq, not_true, if_false]
   refine Raw.mono (raw_makeMap (Q := fun v h' => ∃ m, v = vM m ∧ h1 m = none ∧ h' = h1.put m (.map ⟨ents []⟩ 0)) fun b hb => ⟨b, rfl, hb, rfl⟩) ?_
   rintro _ h2 ⟨mm, rfl, hm, rfl⟩
   refine ⟨mm, rfl, ?_⟩
   refine ⟨fun m i h' => ∃ (j : Nat) (L : List (Bytes × Value × Nat)) (ck : Nat), i = (j : Int) ∧ j + m = p.labels.length ∧ h' = h1.put mm (.map ⟨ents L⟩ ck) ∧ twice ((p.labels.take j).map (·.name)) = false ∧ (∀ k, mapGet L k = if ((p.labels.take j).map (·.name)).contains k then some (vB true) else none),
    ⟨p.labels.length, 0, [], 0, rfl, by omega, rfl, rfl, fun k => rfl⟩, ?_⟩
   rintro m _ h2 ⟨j, L, ck, rfl, hjm, rfl, htw, hmap⟩
   have hx : ∀ o, Ext h1 (h1.put mm o) := fun o => Ext.put hm o
   refine br_split (fun e => ?_) fun e => ?_
   · have hlt : j < p.labels.length := by have := of_decide_eq_true e; omega
     have hg : p.labels[j]? = some p.labels[j] := by simp [hlt]
     have htk := List.take_append_getElem hlt
     have hdj : p.labels.drop (j + 1) = p.labels.drop (j + 1) := rfl
     generalize p.labels[j] = l at *
     have hsn : (p.labels.take (j + 1)).map (·.name) = (p.labels.take j).map (·.name) ++ [l.name] := by rw [← htk]; simp
     obtain ⟨b, o, ha, hr⟩ := (hL.ext (hx (.map ⟨ents L⟩ ck))).get hg
     refine ⟨b, o, ha, ⟨by omega, by omega⟩, _, _, _, (by rw [Int.toNat_natCast]; exact hr), ?_⟩
     refine Raw.mono (raw_lookupS und149 rfl (z := vB false) rfl rfl rfl (put_same _ _ _)) ?_
     rintro _ h2 ⟨rfl, rfl⟩
     refine ⟨((p.labels.take j).map (·.name)).contains l.name, ?_, br_split (fun e1 => ?_) fun e1 => ?_⟩
     · rw [hmap]
       cases ((p.labels.take j).map (·.name)).contains l.name <;> rfl
     · have : twice (p.labels.map (·.name)) = true := by
        have h1 : twice ((p.labels.take (j + 1)).map (·.name)) = true := by rw [hsn, twice_snoc, e1]; simp
        have := twice_pre _ ((p.labels.drop (j + 1)).map (·.name)) h1
        rwa [← List.map_append, List.take_append_drop] at this
       rw [this]
       exact ⟨rfl, hx _⟩
     · refine Raw.mono (raw_updS (x := vB true) (.inl rfl) und149 rfl rfl rfl rfl (put_same _ _ _)) ?_
       rintro _ h3 ⟨rfl, ck', rfl, _⟩
       refine ⟨rfl, m - 1, by omega, ⟨j + 1, _, ck', ?_, by omega, put_put _ _ _ _, ?_, fun k => ?_⟩, trivial, trivial⟩
       · rw [wrap64 (by omega) (by omega)]; omega
       · rw [hsn, twice_snoc, htw, e1]; rfl
       · rw [mapGet_set, hsn, hmap]
         by_cases hk : k = l.name
         · subst hk; simp
         · have : (k == l.name) = false := by simp [hk]
           have hc : ((p.labels.take j).map (·.name) ++ [l.name]).contains k = ((p.labels.take j).map (·.name)).contains k := by
            rw [Bool.eq_iff_iff]; simp [hk]
           rw [hc, this]
           rfl
   · have hj : j = p.labels.length := by have := of_decide_eq_false e; omega
     subst hj
     rw [List.take_length] at htw
     rw [htw]
     exact ⟨rfl, hx _⟩
end
end Go.Proofs.D
namespace Go.Proofs
open Go Go.Shelf Go.RowKit Go.Lib Go.Sort
set_option maxRecDepth 100000
set_option maxHeartbeats 2000000 in
theorem cmp41_calls (n1 n2 : List UInt8) (d1 d2 : Bool) (i1 i2 : Int) (W : World) :
 Calls Tryz.prog 41 #[.agg #[.string ⟨⟨n1⟩⟩, .bool d1, .int .i64 i1], .agg #[.string ⟨⟨n2⟩⟩, .bool d2, .int .i64 i2]] W fun e w' => e = .returned (.int .i64 (D.cmpV ⟨n1, d1, i1⟩ ⟨n2, d2, i2⟩)) ∧ ∃ q os', w' = grow (W.drewN q) os' := by
 have hcon := fun W' => Any.strings_Compare D.layC ⟨⟨n1⟩⟩ ⟨⟨n2⟩⟩ W'
 change ∀ W', Calls Tryz.prog 93 _ _ _ at hcon
 unfold D.cmpV
 simp only
 generalize Lib.compareBytes n1 n2 = r at hcon ⊢
 cases d1 <;> cases d2
 · by_cases h1 : i1 < i2
   · rw [if_neg (by decide), if_pos h1]
     go_enter Tryz.func41, Tryz.ntmps41
     go_wp2
     go_ret
     exact ⟨rfl, 0, _, by rw [alloc_eq_grow, alloc_eq_grow, grow_grow]; rfl⟩
   · by_cases h2 : i2 < i1
     · rw [if_neg (by decide), if_neg h1, if_pos h2]
       go_enter Tryz.func41, Tryz.ntmps41
       go_wp2
       go_ret
       exact ⟨rfl, 0, _, by rw [alloc_eq_grow, alloc_eq_grow, grow_grow]; rfl⟩
     · rw [if_neg (by decide), if_neg h1, if_neg h2]
       go_enter Tryz.func41, Tryz.ntmps41
       go_wp2_with (go_at_call 93; refine (hcon _).mono ?_; rintro e w' ⟨rfl, rfl⟩)
       go_ret
       exact ⟨rfl, 0, _, by rw [alloc_eq_grow, alloc_eq_grow, grow_grow]; rfl⟩
 · rw [if_pos (by decide), if_pos (by decide)]
   go_enter Tryz.func41, Tryz.ntmps41
   go_wp2
   go_ret
   exact ⟨rfl, 0, _, by rw [alloc_eq_grow, alloc_eq_grow, grow_grow]; rfl⟩
 · rw [if_pos (by decide), if_neg (by decide)]
   go_enter Tryz.func41, Tryz.ntmps41
   go_wp2
   go_ret
   exact ⟨rfl, 0, _, by rw [alloc_eq_grow, alloc_eq_grow, grow_grow]; rfl⟩
 · by_cases h1 : i1 < i2
   · rw [if_neg (by decide), if_pos h1]
     go_enter Tryz.func41, Tryz.ntmps41
     go_wp2
     go_ret
     exact ⟨rfl, 0, _, by rw [alloc_eq_grow, alloc_eq_grow, grow_grow]; rfl⟩
   · by_cases h2 : i2 < i1
     · rw [if_neg (by decide), if_neg h1, if_pos h2]
       go_enter Tryz.func41, Tryz.ntmps41
       go_wp2
       go_ret
       exact ⟨rfl, 0, _, by rw [alloc_eq_grow, alloc_eq_grow, grow_grow]; rfl⟩
     · rw [if_neg (by decide), if_neg h1, if_neg h2]
       go_enter Tryz.func41, Tryz.ntmps41
       go_wp2_with (go_at_call 93; refine (hcon _).mono ?_; rintro e w' ⟨rfl, rfl⟩)
       go_ret
       exact ⟨rfl, 0, _, by rw [alloc_eq_grow, alloc_eq_grow, grow_grow]; rfl⟩
end Go.Proofs
namespace Go.As
theorem lt_tri : ∀ a b : Bytes, a < b ∨ a = b ∨ b < a
 | [], [] => .inr (.inl rfl)
 | [], _ :: _ => .inl (by simp)
 | _ :: _, [] => .inr (.inr (by simp))
 | x :: a, y :: b => by
   rw [List.cons_lt_cons_iff, List.cons_lt_cons_iff]
   by_cases h1 : x < y
   · exact .inl (.inl h1)
   by_cases h2 : y < x
   · exact .inr (.inr (.inl h2))
   have h3 : x = y := by
    apply UInt8.toNat_inj.1
    rw [UInt8.lt_iff_toNat_lt] at h1 h2; omega
   subst h3
   rcases lt_tri a b with h | h | h
   · exact .inl (.inr ⟨rfl, h⟩)
   · exact .inr (.inl (by rw [h]))
   · exact .inr (.inr (.inr ⟨rfl, h⟩))
theorem follows_self (x : Lb) : follows x x = false := by
 unfold follows
 simp [List.lt_irrefl]
theorem follows_asymm {x y : Lb} (h1 : follows x y = true) (h2 : follows y x = true) : False := by
 have := follows_trans h1 h2
 rw [follows_self] at this; cases this
theorem follows_total (x y : Lb) : follows x y = true ∨ x = y ∨ follows y x = true := by
 rw [follows_iff, follows_iff]
 obtain ⟨n1, d1, o1⟩ := x
 obtain ⟨n2, d2, o2⟩ := y
 simp only
 by_cases hd : d1 = d2
 · subst hd
   by_cases h1 : o1 < o2
   · exact .inl (.inr ⟨rfl, .inl h1⟩)
   by_cases h2 : o2 < o1
   · exact .inr (.inr (.inr ⟨rfl, .inl h2⟩))
   have ho : o1 = o2 := by omega
   subst ho
   rcases lt_tri n1 n2 with h | h | h
   · exact .inl (.inr ⟨rfl, .inr ⟨rfl, h⟩⟩)
   · subst h; exact .inr (.inl rfl)
   · exact .inr (.inr (.inr ⟨rfl, .inr ⟨rfl, h⟩⟩))
 · cases d1 <;> cases d2
   · exact absurd rfl hd
   · exact .inl (.inl ⟨rfl, rfl⟩)
   · exact .inr (.inr (.inl ⟨rfl, rfl⟩))
   · exact absurd rfl hd
theorem sorted_unique {l1 : List Lb} : ∀ {l2 : List Lb}, l1.Perm l2 → l1.Pairwise (fun a b => follows a b = true) → l2.Pairwise (fun a b => follows a b = true) → l1 = l2 := by
 induction l1 with
 | nil => intro l2 hp _ _; exact (hp.nil_eq)
 | cons x l1 ih =>
   intro l2 hp h1 h2
   cases l2 with
   | nil => exact absurd hp.symm.nil_eq (by simp)
   | cons y l2 =>
     have hx := List.pairwise_cons.1 h1
     have hy := List.pairwise_cons.1 h2
     by_cases hxy : x = y
     · subst hxy
       rw [ih (hp.cons_inv) hx.2 hy.2]
     · have m1 : x ∈ y :: l2 := hp.subset (List.mem_cons_self ..)
       have m2 : y ∈ x :: l1 := hp.symm.subset (List.mem_cons_self ..)
       have m1 : x ∈ l2 := (List.mem_cons.1 m1).resolve_left hxy
       have m2 : y ∈ l1 := (List.mem_cons.1 m2).resolve_left (Ne.symm hxy)
       exact (follows_asymm (hx.1 y m2) (hy.1 x m1)).elim
theorem ins_sorted {x : Lb} : ∀ {s : List Lb}, x ∉ s → s.Pairwise (fun a b => follows a b = true) → (insL x s).Pairwise (fun a b => follows a b = true)
 | [], _, _ => by rw [insL]; exact List.pairwise_cons.2 ⟨fun _ h => (List.not_mem_nil h).elim, List.Pairwise.nil⟩
 | y :: s, hn, h => by
   have hy := List.pairwise_cons.1 h
   rw [insL]
   split
   · rename_i hf
     refine List.pairwise_cons.2 ⟨fun z hz => ?_, ins_sorted (fun hm => hn (List.mem_cons_of_mem _ hm)) hy.2⟩
     rcases List.mem_cons.1 ((ins_perm x s).subset hz) with rfl | hz
     · exact hf
     · exact hy.1 z hz
   · rename_i hf
     have hxy : follows x y = true := by
      rcases follows_total x y with h | h | h
      · exact h
      · exact absurd (h ▸ List.mem_cons_self ..) hn
      · exact absurd h hf
     refine List.pairwise_cons.2 ⟨fun z hz => ?_, h⟩
     rcases List.mem_cons.1 hz with rfl | hz
     · exact hxy
     · exact follows_trans hxy (hy.1 z hz)
theorem sortL_sorted {l : List Lb} (hn : l.Nodup) : (sortL l).Pairwise (fun a b => follows a b = true) := by
 have gen : ∀ (l s : List Lb), (s ++ l).Nodup → s.Pairwise (fun a b => follows a b = true) → (l.foldl (fun s x => insL x s) s).Pairwise (fun a b => follows a b = true) := by
  intro l
  induction l with
  | nil => intro s _ h; exact h
  | cons x l ih =>
    intro s hn h
    rw [List.foldl_cons]
    have hnx : x ∉ s := fun hm => by
     rw [List.nodup_append] at hn
     exact hn.2.2 x hm x (List.mem_cons_self ..) rfl
    refine ih _ ?_ (ins_sorted hnx h)
    have hp : (insL x s ++ l).Perm (s ++ x :: l) := ((ins_perm x s).append_right l).trans (by rw [List.cons_append]; exact List.perm_middle.symm)
    exact hp.nodup_iff.2 hn
 exact gen l [] (by simpa using hn) List.Pairwise.nil
theorem sort_eq {l l' : List Lb} (hn : l.Nodup) (hp : l'.Perm l) (hs : ∀ (i j : Nat) (x y : Lb), i < j → l'[i]? = some x → l'[j]? = some y → follows y x = false) : l' = sortL l := by
 refine sorted_unique (hp.trans (sort_perm l).symm) ?_ (sortL_sorted hn)
 have hn' := hp.nodup_iff.2 hn
 rw [List.pairwise_iff_getElem]
 intro i j hi hj hij
 rcases follows_total l'[i] l'[j] with h | h | h
 · exact h
 · exact absurd ((List.getElem_inj hn').1 h) (by omega)
 · have := hs i j l'[i] l'[j] hij (by simp [hi]) (by simp [hj])
   rw [h] at this; cases this
end Go.As
namespace Go.Proofs.D
open Go Go.Den Go.As Go.Shelf Go.Sort Go.RowKit
set_option maxRecDepth 100000
instance : Inhabited Lb := ⟨⟨[], false, 0⟩⟩
def layF_ren : Go.Shelf.Ren := ⟨fun | 6 => 40 | 15 => 92 | 14 => 91 | 28 => 129 | 29 => 130 | 20 => 121 | 21 => 122 | 22 => 123 | 23 => 124 | 24 => 125 | 25 => 126 | 26 => 127 | 27 => 128 | 46 => 148 | 47 => 149 | 48 => 150 | 49 => 151 | 50 => 152 | 57 => 172 | n => n, fun | 22 => 23 | 24 => 80 | 25 => 82 | 3 => 3 | 39 => 98 | 0 => 0 | 53 => 161 | 55 => 178 | 4 => 4 | 46 => 171 | 45 => 170 | 50 => 45 | 5 => 5 | 9 => 9 | 66 => 192 | 70 => 196 | 76 => 213 | 77 => 102 | n => n, fun | n => n⟩
theorem layF : Go.Proofs.SlLaysF0.n6 Tryz.prog layF_ren where
 mixed := by kernel_rfl
 f6 := ⟨"slices.SortFunc[[]replevin/asm.Label,replevin/asm.Label]", by decide, Tryz.func40.trans (congrArg some (by kernel_rfl))⟩
 f14 := ⟨"slices.pdqsortCmpFunc[replevin/asm.Label]", by decide, Tryz.func91.trans (congrArg some (by kernel_rfl))⟩
 f15 := Tryz.func92.trans (congrArg some (by kernel_rfl))
 f20 := ⟨"slices.insertionSortCmpFunc[replevin/asm.Label]", by decide, Tryz.func121.trans (congrArg some (by kernel_rfl))⟩
 f21 := ⟨"slices.heapSortCmpFunc[replevin/asm.Label]", by decide, Tryz.func122.trans (congrArg some (by kernel_rfl))⟩
 f22 := ⟨"slices.breakPatternsCmpFunc[replevin/asm.Label]", by decide, Tryz.func123.trans (congrArg some (by kernel_rfl))⟩
 f23 := ⟨"slices.choosePivotCmpFunc[replevin/asm.Label]", by decide, Tryz.func124.trans (congrArg some (by kernel_rfl))⟩
 f24 := ⟨"slices.reverseRangeCmpFunc[replevin/asm.Label]", by decide, Tryz.func125.trans (congrArg some (by kernel_rfl))⟩
 f25 := ⟨"slices.partialInsertionSortCmpFunc[replevin/asm.Label]", by decide, Tryz.func126.trans (congrArg some (by kernel_rfl))⟩
 f26 := ⟨"slices.partitionEqualCmpFunc[replevin/asm.Label]", by decide, Tryz.func127.trans (congrArg some (by kernel_rfl))⟩
 f27 := ⟨"slices.partitionCmpFunc[replevin/asm.Label]", by decide, Tryz.func128.trans (congrArg some (by kernel_rfl))⟩
 f28 := Tryz.func129.trans (congrArg some (by kernel_rfl))
 f29 := Tryz.func130.trans (congrArg some (by kernel_rfl))
 f46 := ⟨"slices.siftDownCmpFunc[replevin/asm.Label]", by decide, Tryz.func148.trans (congrArg some (by kernel_rfl))⟩
 f47 := Tryz.func149.trans (congrArg some (by kernel_rfl))
 f48 := Tryz.func150.trans (congrArg some (by kernel_rfl))
 f49 := ⟨"slices.medianAdjacentCmpFunc[replevin/asm.Label]", by decide, Tryz.func151.trans (congrArg some (by kernel_rfl))⟩
 f50 := ⟨"slices.medianCmpFunc[replevin/asm.Label]", by decide, Tryz.func152.trans (congrArg some (by kernel_rfl))⟩
 f57 := ⟨"slices.order2CmpFunc[replevin/asm.Label]", by decide, Tryz.func172.trans (congrArg some (by kernel_rfl))⟩
 t0 := Tryz.underlying0
 a0 := Tryz.isAgg0
 z0 := Tryz.sizeOf0
 v0 := Tryz.zeroValue0
 t3 := Tryz.underlying3
 a3 := Tryz.isAgg3
 z3 := Tryz.sizeOf3
 v3 := Tryz.zeroValue3
 t4 := Tryz.underlying4
 a4 := Tryz.isAgg4
 z4 := Tryz.sizeOf4
 v4 := Tryz.zeroValue4
 t5 := Tryz.underlying5
 a5 := Tryz.isAgg5
 z5 := Tryz.sizeOf5
 v5 := Tryz.zeroValue5
 t9 := Tryz.underlying9
 a9 := Tryz.isAgg9
 z9 := Tryz.sizeOf9
 v9 := Tryz.zeroValue9
 t22 := Tryz.underlying23
 a22 := Tryz.isAgg23
 z22 := Tryz.sizeOf23
 v22 := Tryz.zeroValue23
 t25 := Tryz.underlying82
 a25 := Tryz.isAgg82
 z25 := Tryz.sizeOf82
 v25 := Tryz.zeroValue82
 t39 := Tryz.underlying98
 a39 := Tryz.isAgg98
 z39 := Tryz.sizeOf98
 v39 := Tryz.zeroValue98
 t45 := Tryz.underlying170
 a45 := Tryz.isAgg170
 z45 := Tryz.sizeOf170
 v45 := Tryz.zeroValue170
 t46 := Tryz.underlying171
 a46 := Tryz.isAgg171
 z46 := Tryz.sizeOf171
 v46 := Tryz.zeroValue171
 t50 := Tryz.underlying45
 a50 := Tryz.isAgg45
 z50 := Tryz.sizeOf45
 v50 := Tryz.zeroValue45
 t53 := Tryz.underlying161
 a53 := Tryz.isAgg161
 z53 := Tryz.sizeOf161
 v53 := Tryz.zeroValue161
 t55 := Tryz.underlying178
 a55 := Tryz.isAgg178
 z55 := Tryz.sizeOf178
 v55 := Tryz.zeroValue178
 t66 := Tryz.underlying192
 a66 := Tryz.isAgg192
 z66 := Tryz.sizeOf192
 v66 := Tryz.zeroValue192
 t70 := Tryz.underlying196
 a70 := Tryz.isAgg196
 z70 := Tryz.sizeOf196
 v70 := Tryz.zeroValue196
 t76 := Tryz.underlying213
 a76 := Tryz.isAgg213
 z76 := Tryz.sizeOf213
 v76 := Tryz.zeroValue213
 t77 := Tryz.underlying102
 a77 := Tryz.isAgg102
 z77 := Tryz.sizeOf102
 v77 := Tryz.zeroValue102
theorem swoL : SWO (ltOf cmpV) where
 irrefl x := by unfold ltOf; rw [cmp_follows]; exact follows_self x
 trans x y z h1 h2 := by unfold ltOf at *; rw [cmp_follows] at *; exact follows_trans h1 h2
 ntrans x y z h1 h2 := by
  unfold ltOf at *
  rw [cmp_follows] at *
  rcases follows_total x y with h | rfl | h
  · rw [h] at h1; cases h1
  · exact h2
  rcases follows_total y z with g | rfl | g
  · rw [g] at h2; cases h2
  · exact h1
  · cases hf : follows x z with
    | false => rfl
    | true => exact (follows_asymm hf (follows_trans g h)).elim
theorem lbC_len (x : Lb) : (lbC x).length = 3 := rfl
theorem flat_len (d : List Lb) : ((d.map lbC).flatten).length = d.length * 3 := by
 induction d with
 | nil => rfl
 | cons x d ih => rw [List.map_cons, List.flatten_cons, List.length_append, ih, lbC_len, List.length_cons]; omega
theorem flat_lb (d : List Lb) : flatK lbC 3 ⟨d⟩ = ⟨(d.map lbC).flatten⟩ := by
 have hl := flat_len d
 refine ext_get! (by rw [size_flatK]; show d.length * 3 = ((d.map lbC).flatten).length; omega) fun t ht => ?_
 have ht' : t < (⟨d⟩ : Array Lb).size * 3 := by rw [size_flatK] at ht; exact ht
 have ht2 : t < d.length * 3 := ht'
 have hj : t / 3 < d.length := by omega
 have hi : t % 3 < 3 := Nat.mod_lt _ (by decide)
 rw [get_flatK _ _ _ t ht']
 have hx : (⟨d⟩ : Array Lb)[t / 3]! = d[t / 3] := by rw [getElem!_pos _ _ (by show t / 3 < d.length; exact hj)]; rfl
 rw [hx]
 have h1 : (d.map lbC)[t / 3]? = some (lbC d[t / 3]) := by simp [hj]
 have h2 : (lbC d[t / 3])[t % 3]? = some ((lbC d[t / 3])[t % 3]!) := by
  rw [getElem!_pos _ _ (by rw [lbC_len]; exact hi), List.getElem?_eq_getElem]
 have := flatten_row (k := 3) (css := d.map lbC) (j := t / 3) (cs := lbC d[t / 3]) (fun i c hc => by
  rw [List.getElem?_map] at hc
  simp only [Option.map_eq_some_iff] at hc
  obtain ⟨x, _, rfl⟩ := hc; rfl) h1 (t % 3) _ h2
 rw [show t / 3 * 3 + t % 3 = t by omega] at this
 have hlt : t < ((d.map lbC).flatten).length := by rw [hl]; exact ht2
 rw [getElem!_pos (⟨(d.map lbC).flatten⟩ : Array Value) t hlt]
 show _ = ((d.map lbC).flatten)[t]
 rw [List.getElem?_eq_getElem hlt] at this
 injection this with this
 exact this.symm
theorem sort_t {h : PHeap} {b cap : Nat} {ls : List Lb} {rest : List Value} (hb : h b = some (.cells ⟨(ls.map lbC).flatten ++ rest⟩ 80 (0, 0))) (hn : ls.length ≤ 1000000) (hnd : ls.Nodup) :
 Tri Tryz.prog 40 [vL (ad b 0) ls.length cap, vF 41 [] []] h fun v h' => v = vT [] ∧ h' = h.put b (.cells ⟨((sortL ls).map lbC).flatten ++ rest⟩ 80 (0, 0)) := by
 refine tri_calls Tryz.func40 (by kernel_rfl) rfl fun w hs => ?_
 have hwb := hs _ _ hb
 have hblk : b < w.heap.size := (Array.getElem?_eq_some_iff.1 hwb).1
 have hfl := flat_len ls
 have hH : HoldsK lbC 3 w b 0 (⟨ls⟩ : Array Lb) := by
  unfold HoldsK
  rw [flat_lb]
  intro j hj
  have hj : j < ((ls.map lbC).flatten).length := hj
  rw [Nat.zero_add]
  refine ⟨?_, ?_⟩
  · have e : w.cell? ⟨b, j, none⟩ = ((ls.map lbC).flatten ++ rest)[j]? := by
     simp only [World.cell?, hwb]
     rw [if_neg (by decide), ← Array.getElem?_toList]
    rw [e, List.getElem?_append_left hj, List.getElem?_eq_getElem hj, getElem!_pos (⟨(ls.map lbC).flatten⟩ : Array Value) j hj]
    rfl
  · simp [World.frozen?, hwb]
 have eg : ∀ args w, (callFunc 41 args).run Tryz.prog w = .ok (.enter 41 args) w := enters_of Tryz.func41 (by kernel_rfl) rfl
 have hcmp : CmpLays Tryz.prog 41 #[] lbC 3 cmpV b 0 (⟨ls⟩ : Array Lb).size w := fun _ _ _ _ x y => cmp41_calls x.name y.name x.data y.data x.off y.off _
 have hcon := AnyQ.slices_SortFunc layF 3 Tryz.isAgg80 Tryz.sizeOf80 lbC lbC_len (fun x v hv => by simp [lbC] at hv; rcases hv with rfl | rfl | rfl <;> rfl) cmpV swoL 41 #[] b 0 cap (⟨ls⟩ : Array Lb) w eg hcmp hH hblk (by show ls.length < _; omega)
 refine Calls.mono hcon ?_
 rintro e w' ⟨rfl, d', n, os, hp, hso, rfl⟩
 obtain ⟨l'⟩ := d'
 have hsz : l'.length = ls.length := hp.1
 have hperm : l'.Perm ls := by
  have := hp.2.2
  have e1 : (Array.extract (⟨l'⟩ : Array Lb) 0 (⟨ls⟩ : Array Lb).size).toList = l' := by
   rw [Array.toList_extract]
   show (l'.drop 0).take (ls.length - 0) = l'
   rw [List.drop_zero, Nat.sub_zero, ← hsz, List.take_length]
  have e2 : (Array.extract (⟨ls⟩ : Array Lb) 0 (⟨ls⟩ : Array Lb).size).toList = ls := by
   rw [Array.toList_extract]
   show (ls.drop 0).take (ls.length - 0) = ls
   rw [List.drop_zero, Nat.sub_zero, List.take_length]
  rw [e1, e2] at this
  exact this
 have hl' : l' = sortL ls := sort_eq hnd hperm fun i j x y hij hx hy => by
  obtain ⟨hi, rfl⟩ := (List.getElem?_eq_some_iff.1 hx)
  obtain ⟨hj, rfl⟩ := (List.getElem?_eq_some_iff.1 hy)
  have := hso i j (Nat.zero_le _) hij (by show j < ls.length; omega)
  unfold ltOf at this
  rw [cmp_follows] at this
  rw [getElem!_pos (⟨l'⟩ : Array Lb) j hj, getElem!_pos (⟨l'⟩ : Array Lb) i hi] at this
  exact this
 subst hl'
 have heap : (sortWorldK lbC 3 w b 0 n (⟨sortL ls⟩ : Array Lb) os).heap = (w.heap.modify b (onCells (putCells id 0 (flatK lbC 3 (⟨sortL ls⟩ : Array Lb))))) ++ os := rfl
 have hfl' := flat_len (sortL ls)
 rw [hsz] at hfl'
 have hput : putCells id 0 (flatK lbC 3 (⟨sortL ls⟩ : Array Lb)) (⟨(ls.map lbC).flatten ++ rest⟩ : Array Value) = ⟨((sortL ls).map lbC).flatten ++ rest⟩ := by
  rw [flat_lb]
  unfold putCells
  apply Array.ext_getElem?
  intro t
  rw [Array.getElem?_mapIdx, ← Array.getElem?_toList, ← Array.getElem?_toList]
  simp only
  by_cases ht : t < ls.length * 3
  · rw [List.getElem?_append_left (by omega), List.getElem?_append_left (by omega), List.getElem?_eq_getElem (by omega), List.getElem?_eq_getElem (by omega)]
    simp only [Option.map_some, id]
    rw [if_pos ⟨Nat.zero_le _, by show t < 0 + (((sortL ls).map lbC).flatten).length; omega⟩, Nat.sub_zero, getElem!_pos (⟨((sortL ls).map lbC).flatten⟩ : Array Value) t (by show t < (((sortL ls).map lbC).flatten).length; omega)]
    rfl
  · rw [List.getElem?_append_right (by omega), List.getElem?_append_right (by omega), hfl, hfl']
    cases rest[t - ls.length * 3]? with
    | none => rfl
    | some v =>
      simp only [Option.map_some]
      rw [if_neg (by
       rintro ⟨_, h2⟩
       have : t < 0 + (((sortL ls).map lbC).flatten).length := h2
       omega)]
 have hsz2 : (w.heap.modify b (onCells (putCells id 0 (flatK lbC 3 (⟨sortL ls⟩ : Array Lb))))).size = w.heap.size := by rw [Array.size_modify]
 have other : ∀ k, k < w.heap.size → k ≠ b → (sortWorldK lbC 3 w b 0 n (⟨sortL ls⟩ : Array Lb) os).heap[k]? = w.heap[k]? := fun k hk hkb => by
  rw [heap, Array.getElem?_append_left (by omega), Array.getElem?_modify, if_neg (Ne.symm hkb)]
 refine ⟨_, h.put b (.cells ⟨((sortL ls).map lbC).flatten ++ rest⟩ 80 (0, 0)), rfl, ⟨rfl, rfl⟩, fun k o hk => ?_, rfl, rfl, rfl, ?_, fun k hk hno => ?_⟩
 · by_cases hkb : k = b
   · subst hkb
     rw [put_same] at hk
     injection hk with hk
     subst hk
     rw [heap, Array.getElem?_append_left (by omega), Array.getElem?_modify, if_pos rfl, hwb]
     simp only [Option.map_some, onCells, hput]
   · rw [put_ne hkb] at hk
     have := hs k o hk
     rw [other k (Array.getElem?_eq_some_iff.1 this).1 hkb]; exact this
 · rw [heap, Array.size_append, hsz2]; omega
 · have hkb : k ≠ b := fun e => by subst e; rw [hb] at hno; cases hno
   exact ⟨by rw [put_ne hkb]; exact hno, other k hk hkb⟩
theorem sort_none {h : PHeap} {a : OA} {cap : Nat} : Tri Tryz.prog 40 [vL a 0 cap, vF 41 [] []] h fun v h' => v = vT [] ∧ h' = h := by
 refine tri_calls Tryz.func40 (by kernel_rfl) rfl fun w hs => ?_
 refine Calls.mono (AnyF.slices_SortFunc_none layF a cap (vF 41 [] []) w) ?_
 rintro e w' ⟨rfl, rfl⟩
 exact ⟨_, h, rfl, ⟨rfl, rfl⟩, hs, Keep.refl _ _⟩
end Go.Proofs.D
namespace Go.Proofs.D
open Go Go.Den Go.As
set_option maxRecDepth 100000
section
variable {P : Program} {f : Operand → Value} {h : PHeap}
theorem raw_range {t ty : TypeId} {key elem : TypeId} {m : Nat} {es : Array MapEntry} {c : Nat} {x : Operand} (hu : P.underlying t = some (.map key elem)) (hx : f x = vM m) (hm : h m = some (.map es c)) :
 Raw P (execOp f (mkO (.range t x) ty)) h fun v h' => ∃ r, h r = none ∧ v = vP r 0 ∧ h' = h.put r (.mapIter (some m) c #[] c) := by
 intro w hs
 refine ⟨.value (vP w.heap.size 0), vP w.heap.size 0, w.alloc (.mapIter (some m) c #[] c), h.put w.heap.size (.mapIter (some m) c #[] c), ?_, .inl rfl, ⟨_, hs.fresh, rfl, rfl⟩, hs.allocReal _, Keep.allocReal w h _⟩
 have := run_range_map w t key elem m es c hu (hs _ _ hm)
 simp only [execOp, mkO, hx]
 simp [this]
theorem raw_entry {ty : TypeId} {r m since stamp last : Nat} {S : Array Nat} {es : Array MapEntry} {e : MapEntry} {x : Operand} (hx : f x = vP r 0) (hr : h r = some (.mapIter (some m) since (S.push stamp) last)) (hm : h m = some (.map es last)) (he : es.find? (·.born == stamp) = some e) :
 Raw P (execOp f (mkO (.entry x) ty)) h fun v h' => v = vT [e.key, e.val] ∧ h' = h := by
 intro w hs
 refine ⟨.value (vT [e.key, e.val]), _, w, h, ?_, .inl rfl, ⟨rfl, rfl⟩, hs, Keep.refl _ _⟩
 have h1 := hs _ _ hr
 have h2 := hs _ _ hm
 simp only [execOp, mkO, hx]
 simp [Instr.entry, getObj, Sem.run, h1, h2, he]
theorem raw_next {ty : TypeId} {r m since last : Nat} {S : Array Nat} {es : Array MapEntry} {clock : Nat} {x : Operand} (hx : f x = vP r 0) (hr : h r = some (.mapIter (some m) since S last)) (hm : h m = some (.map es clock)) (hold : ∀ x ∈ es.toList, x.born < since) (hsc : since ≤ last) :
 Raw P (execOp f (mkO (.next x false) ty)) h fun v h' => ((leftOf es S).size = 0 ∧ v = vT [vB false] ∧ h' = h) ∨ ∃ e ∈ (leftOf es S).toList, v = vT [vB true, e.key, e.val] ∧ h' = h.put r (.mapIter (some m) since (S.push e.born) clock) := by
 intro w hs
 have h1 := hs _ _ hr
 have h2 := hs _ _ hm
 have ht := next_test_false S es since last hold hsc
 have hmem : ∀ x ∈ (leftOf es S).toList, x.born < since := fun x hx => hold x (mem_left hx).1
 have e1 : (leftOf es S).filter (fun x => decide (x.born < since)) = leftOf es S := Array.filter_eq_self.2 (fun x hx => by simpa using hmem x (by simpa using hx))
 have e2 : (leftOf es S).filter (fun x => decide (x.born ≥ since)) = #[] := by
  rw [Array.filter_eq_empty_iff]
  intro x hx
  have := hmem x (by simpa using hx)
  simp
  omega
 have hlt : r < w.heap.size := (Array.getElem?_eq_some_iff.1 h1).1
 have hrun : (execOp f (mkO (.next x false) ty)).run P w = (execOp (fun _ => vP r 0) (mkO (.next x false) ty)).run P w := by simp only [execOp, mkO, hx]
 have hL : Array.filter (fun e => !S.contains e.born) es = leftOf es S := rfl
 by_cases h0 : (leftOf es S).size = 0
 · refine ⟨.value (vT [vB false]), _, w, h, ?_, .inl rfl, .inl ⟨h0, rfl, rfl⟩, hs, Keep.refl _ _⟩
   have hnil : leftOf es S = #[] := Array.eq_empty_of_size_eq_zero h0
   simp only [execOp, mkO, hx, Instr.next, getObj, Sem.run_bind, Sem.run, h1, h2, Result.andThen, ht, Bool.false_eq_true, if_false, hL, hnil]
   simp [choose, Sem.run, Question.forced]
 · have hne : (leftOf es S).isEmpty = false := by simp [Array.isEmpty, h0]
   have hch : ∃ (j : Nat) (w1 : World), j < (leftOf es S).size ∧ (w1.heap = w.heap ∧ w1.os = w.os ∧ w1.tape = w.tape ∧ w1.output = w.output) ∧ (choose (Question.mapNext (leftOf es S).size)).run P w = .ok j w1 := by
    by_cases hf : (leftOf es S).size ≤ 1
    · exact ⟨0, w, by omega, ⟨rfl, rfl, rfl, rfl⟩, by simp [choose, Sem.run, Question.forced, hf]⟩
    · exact ⟨_, w.drew, Nat.mod_lt _ (by omega), ⟨rfl, rfl, rfl, rfl⟩, by
       simp only [choose, Sem.run, Question.forced, decide_eq_true_eq, hf, if_false, Question.cut]
       rfl⟩
   obtain ⟨j, w1, hj, ⟨g1, g2, g3, g4⟩, hrunc⟩ := hch
   have hs1 : Sub w1 h := fun k o hk => by rw [g1]; exact hs k o hk
   obtain ⟨k1, k2⟩ := setObj_keepS (o2 := .mapIter (some m) since (S.push (leftOf es S)[j].born) clock) hs1 hr
   refine ⟨.value (vT [vB true, (leftOf es S)[j].key, (leftOf es S)[j].val]), _, { w1 with heap := w1.heap.setIfInBounds r (.mapIter (some m) since (S.push (leftOf es S)[j].born) clock) }, h.put r (.mapIter (some m) since (S.push (leftOf es S)[j].born) clock), ?_, .inl rfl, .inr ⟨(leftOf es S)[j], by simp, rfl, rfl⟩, k1, ?_⟩
   · simp only [execOp, mkO, hx, Instr.next, getObj, Sem.run_bind, Sem.run, h1, h2, Result.andThen, ht, Bool.false_eq_true, if_false, hL, e1, e2, Array.append_empty, hne, Array.empty_append, Array.size_map]
     simp only [hrunc, Array.getElem?_map, Array.getElem?_eq_getElem hj, Option.map_some, Sem.run_bind, Result.andThen, setObj, Sem.run]
     rw [show w1.heap[r]? = some (.mapIter (some m) since S last) by rw [g1]; exact h1]
     rfl
   · refine ⟨k2.os.trans g2, k2.tape.trans g3, k2.output.trans g4, by rw [← g1]; exact k2.size, fun k hk hn => ?_⟩
     have := k2.out k (by rw [g1]; exact hk) hn
     exact ⟨this.1, this.2.trans (by rw [g1])⟩
end
end Go.Proofs.D
namespace Go.As
structure UseOk (p : Pg) (u : Us) : Prop where
 code : u.kind = 0 → u.idx < p.code.length
 data : u.kind = 1 → u.idx + 4 ≤ p.data.length
 ent : u.kind = 2 → u.low = -9999999999 ∧ u.high = 9999999999
structure Inv (a : St) : Prop where
 uses : ∀ u ∈ a.uses, UseOk a.p u
 labs : ∀ l ∈ a.p.labels, 0 ≤ l.off ∧ l.off ≤ 4096
 nd : (a.p.labels.map (·.name)).Nodup
 ent : -10000000000 ≤ a.p.entry ∧ a.p.entry ≤ 10000000000
theorem UseOk.mono {p q : Pg} {u : Us} (h1 : p.code.length ≤ q.code.length) (h2 : p.data.length ≤ q.data.length) (h : UseOk p u) : UseOk q u :=
 ⟨fun e => by have := h.code e; omega, fun e => by have := h.data e; omega, h.ent⟩
theorem Inv.step {a a' : St} {us : List Us} (ha : Inv a) (h1 : a.p.code.length ≤ a'.p.code.length) (h2 : a.p.data.length ≤ a'.p.data.length) (hl : a'.p.labels = a.p.labels) (hu : a'.uses = a.uses ++ us) (he : -10000000000 ≤ a'.p.entry ∧ a'.p.entry ≤ 10000000000) (hus : ∀ u ∈ us, UseOk a'.p u) : Inv a' := by
 refine ⟨fun u hu' => ?_, by rw [hl]; exact ha.labs, by rw [hl]; exact ha.nd, he⟩
 rw [hu] at hu'
 rcases List.mem_append.1 hu' with h | h
 · exact (ha.uses u h).mono h1 h2
 · exact hus u h
theorem val_use {line kind idx : Nat} {t : Bytes} {low high : Int} {x : Int × List Us} (h : valueS line t kind idx low high = .ok x) : ∀ u ∈ x.2, u.kind = kind ∧ u.idx = idx ∧ u.low = low ∧ u.high = high := by
 unfold valueS at h
 split at h
 · split at h
   · cases h
   · injection h with h; subst h; intro u hu; cases hu
 · split at h
   · injection h with h; subst h; intro u hu; rw [List.mem_singleton.1 hu]; exact ⟨rfl, rfl, rfl, rfl⟩
   · cases h
theorem val_range {line kind idx : Nat} {t : Bytes} {low high : Int} {x : Int × List Us} (h : valueS line t kind idx low high = .ok x) : (low ≤ x.1 ∧ x.1 ≤ high) ∨ x.1 = 0 := by
 unfold valueS at h
 split at h
 · split at h
   · cases h
   · injection h with h; subst h; left; simp only; omega
 · split at h
   · injection h with h; subst h; exact .inr rfl
   · cases h
theorem words_inv : ∀ (l : List Tk) (a a' : St), wordsS a l = .ok a' → Inv a → Inv a'
 | [], a, a', h, ha => by simp [wordsS] at h; subst h; exact ha
 | t :: l, a, a', h, ha => by
   rw [wordsS] at h
   obtain ⟨⟨n, u⟩, hv, h⟩ := bind_ok h
   have hv := val_use hv
   refine words_inv l _ a' h (ha.step (us := u) (Nat.le_refl _) (by simp) rfl rfl ha.ent fun w hw => ?_)
   obtain ⟨h1, h2, h3, h4⟩ := hv w hw
   refine ⟨fun e => by omega, fun _ => ?_, fun e => by omega⟩
   rw [h2]
   simp [wordOf]
theorem bytes_inv : ∀ (l : List Tk) (a a' : St), bytesS a l = .ok a' → Inv a → Inv a'
 | [], a, a', h, ha => by simp [bytesS] at h; subst h; exact ha
 | t :: l, a, a', h, ha => by
   rw [bytesS] at h
   obtain ⟨n, hv, h⟩ := bind_ok h
   exact bytes_inv l _ a' h (ha.step (us := []) (Nat.le_refl _) (by simp) rfl (by simp) ha.ent fun w hw => by cases hw)
theorem StIs.inv {a a' : St} {n : Bytes} {l : List Tk} {c d t : Bool} {lo hi : Nat} {X : R St} (hS : StIs a l n c d lo hi t X) (ha : Inv a) (hX : X = .ok a') : Inv a' := by
 cases hS with
 | op op hf =>
   unfold instrX at hX
   split at hX
   · obtain ⟨r, _, hX⟩ := bind_ok hX
     injection hX with hX; subst hX
     exact ha.step (us := []) (by simp) (Nat.le_refl _) rfl (by simp) ha.ent fun w hw => by cases hw
   · obtain ⟨r, _, hX⟩ := bind_ok hX
     obtain ⟨x, hv, hX⟩ := bind_ok hX
     have hv := val_use hv
     injection hX with hX; subst hX
     refine ha.step (us := x.2) (by simp) (Nat.le_refl _) rfl rfl ha.ent fun w hw => ?_
     obtain ⟨h1, h2, h3, h4⟩ := hv w hw
     refine ⟨fun _ => ?_, fun e => by omega, fun e => by omega⟩
     rw [h2]; simp
 | code => injection hX with hX; subst hX; exact ⟨ha.uses, ha.labs, ha.nd, ha.ent⟩
 | data => injection hX with hX; subst hX; exact ⟨ha.uses, ha.labs, ha.nd, ha.ent⟩
 | entry =>
   unfold Go.Proofs.D.entryX at hX
   obtain ⟨x, hv, hX⟩ := bind_ok hX
   have hr := val_range hv
   have hv := val_use hv
   injection hX with hX; subst hX
   refine ha.step (us := x.2) (Nat.le_refl _) (Nat.le_refl _) rfl rfl ⟨by show _ ≤ x.1; omega, by show x.1 ≤ _; omega⟩ fun w hw => ?_
   obtain ⟨h1, h2, h3, h4⟩ := hv w hw
   exact ⟨fun e => by omega, fun e => by omega, fun _ => ⟨h3, h4⟩⟩
 | zero =>
   unfold Go.Proofs.D.zeroX at hX
   obtain ⟨x, hv, hX⟩ := bind_ok hX
   injection hX with hX; subst hX
   exact ha.step (us := []) (Nat.le_refl _) (Nat.le_refl _) rfl (by simp) ha.ent fun w hw => by cases hw
 | word => exact words_inv _ _ _ hX ha
 | byte => exact bytes_inv _ _ _ hX ha
 | text =>
   injection hX with hX; subst hX
   exact ha.step (us := []) (Nat.le_refl _) (by simp) rfl (by simp) ha.ent fun w hw => by cases hw
 | space =>
   unfold Go.Proofs.D.spaceX at hX
   obtain ⟨x, hv, hX⟩ := bind_ok hX
   injection hX with hX; subst hX
   exact ha.step (us := []) (Nat.le_refl _) (by simp) rfl (by simp) ha.ent fun w hw => by cases hw
theorem define_inv : ∀ (ls : List Bytes) (a a' : St), Lim a → Inv a → defineS a ls = .ok a' → Inv a'
 | [], a, a', hl, ha, h => by simp [defineS] at h; subst h; exact ha
 | n :: ls, a, a', hl, ha, h => by
   rw [defineS] at h
   split at h
   · cases h
   split at h
   · cases h
   rename_i hany
   split at h
   · cases h
   have h1 := hl.code
   have h2 := hl.data
   have hd := fun hL hI => define_inv ls _ a' hL hI h
   refine hd ⟨hl.code, hl.data, ?_, hl.uses⟩ ⟨fun u hu => UseOk.mono (p := a.p) (Nat.le_refl _) (Nat.le_refl _) (ha.uses u hu), fun l hm => ?_, ?_, ha.ent⟩
   · simp only [List.length_append, List.length_cons, List.length_nil]; omega
   · rcases List.mem_append.1 hm with hm | hm
     · exact ha.labs l hm
     · rw [List.mem_singleton.1 hm]
       show 0 ≤ (if a.inData then (a.p.data.length : Int) else (4 * a.p.code.length : Nat)) ∧ (if a.inData then (a.p.data.length : Int) else (4 * a.p.code.length : Nat)) ≤ 4096
       split <;> omega
   · simp only [List.map_append, List.map_cons, List.map_nil]
     refine List.nodup_append.2 ⟨ha.nd, by simp, fun x hx y hy hxy => ?_⟩
     rw [List.mem_singleton.1 hy] at hxy
     subst hxy
     obtain ⟨l, h1, h2⟩ := List.mem_map.1 hx
     refine hany ?_
     rw [List.any_eq_true]
     exact ⟨l, h1, by simpa using h2⟩
theorem tok_count {s : Bytes} {ts : List Tk} (h : tokensL s = some ts) : ts.length ≤ s.length := by
 have hc : ∀ (f : Nat) (s : Bytes) (ts : List Tk), tokensS f s = some ts → ts.length ≤ s.length := by
  intro f
  induction f with
  | zero => intro s ts h; simp [tokensS] at h
  | succ f ih =>
    intro s ts h
    match s, h with
    | [], h => simp [tokensS] at h; subst h; simp
    | c :: r, h =>
      have r1 : ∀ {s' : Bytes} {k : Tk} {x : Option (List Tk)}, s'.length ≤ r.length → x = tokensS f s' → (x.map fun l => k :: l) = some ts → ts.length ≤ (c :: r).length := fun {s' k x} hl hx he => by
       subst hx
       simp only [Option.map_eq_some_iff] at he
       obtain ⟨l, h1, rfl⟩ := he
       have := ih _ _ h1
       simp; omega
      rw [tokensS] at h
      split at h
      · simp at h; subst h; simp
      split at h
      · have := ih _ _ h; simp; omega
      split at h
      · exact r1 (Nat.le_refl _) rfl h
      split at h
      · exact r1 (Nat.le_refl _) rfl h
      split at h
      · split at h
        · cases h
        · rename_i x r' hu
          have := unq_len hu
          exact r1 (by omega) rfl h
      split at h
      · rename_i hw
        have hd : (c :: r).dropWhile wordB = r.dropWhile wordB := by simp [List.dropWhile, hw]
        rw [hd] at h
        exact r1 (drop_len r) rfl h
      · cases h
 exact hc _ _ _ h
theorem line_inv {a a' : St} {s : Bytes} (hl : Lim a) (ha : Inv a) (hs : s.length ≤ 65536) (h : lineS a s = .ok a') : Inv a' := by
 unfold lineS at h
 split at h
 · cases h
 rename_i ts ht
 split at h
 · cases h
 · rename_i ls hsp
   exact define_inv ls a a' hl ha h
 · rename_i ls n os hsp
   obtain ⟨b, hb, h⟩ := bind_ok h
   have h0 := define_inv ls a b hl ha hb
   obtain ⟨h1, h2⟩ := define_lim ls a b hl hb
   have h3 := (split_sub ts ls _ hsp).2 n os rfl
   have h4 := tok_count ht
   rcases stmt_is (n := n) (l := os) h1 (by omega) with ⟨c, d, lo, hi, t, X, hS, he⟩ | ⟨_, _, he⟩
   · rw [he] at h
     obtain ⟨g1, g2, g3, g4⟩ := do_ok h
     exact hS.inv h0 g1
   · rw [he] at h; cases h
end Go.As
namespace Go.Proofs.D
open Go Go.Den Go.As
set_option maxRecDepth 100000
attribute [local irreducible] IntKind.wrap Tri
section
variable {h : PHeap}
theorem find_take {l : List Ins} : ∀ {j : Nat}, (∀ k x, k < j → l[k]? = some x → checkI x = 0) → ((l.map checkI).find? (· ≠ 0)) = (((l.drop j).map checkI).find? (· ≠ 0)) := by
 intro j
 induction j generalizing l with
 | zero => intro _; rfl
 | succ j ih =>
   intro hk
   cases l with
   | nil => rfl
   | cons x l =>
     have h0 := hk 0 x (by omega) rfl
     rw [List.drop_succ_cons, List.map_cons, List.find?_cons, h0]
     simp only [ne_eq, not_true, decide_false]
     exact ih fun k y h1 h2 => hk (k + 1) y (by omega) (by simpa using h2)
theorem check_t (hO : OpTab h) {a1 : OA} {k1 : Nat} {a2 : OA} {k2 : Nat} {p : Pg} (hI : InAt h a1 p.code) (hL : LbAt h a2 p.labels) (hn : p.code.length ≤ 1000000) (hd : p.data.length ≤ 1000000) (hls : p.labels.length ≤ 1000000) (ho : ∀ l ∈ p.labels, -9223372036854775808 ≤ l.off ∧ l.off ≤ 9223372036854775807) (he : -9223372036854775808 ≤ p.entry ∧ p.entry ≤ 9223372036854775807) :
 Tri Tryz.prog 24 [vA [vL a1 p.code.length k1, vS p.data, vI p.zero, vI p.entry, vL a2 p.labels.length k2]] h fun v h' => v = vI (checkP p : Int) ∧ Ext h h' := by
 refine T24 ?_
 unfold R24
 refine ⟨fun m i h' => ∃ j : Nat, i = (j : Int) ∧ j + m = p.code.length ∧ h' = h ∧ ∀ k x, k < j → p.code[k]? = some x → checkI x = 0, ⟨p.code.length, 0, rfl, by omega, rfl, fun k x hk => absurd hk (Nat.not_lt_zero k)⟩, ?_⟩
 rintro m _ h1 ⟨j, rfl, hjm, rfl, hu⟩
 refine br_split (fun e => ?_) fun e => ?_
 · have hlt : j < p.code.length := by have := of_decide_eq_true e; omega
   have hg : p.code[j]? = some p.code[j] := by simp [hlt]
   have hdr := List.drop_eq_getElem_cons hlt
   generalize p.code[j] = x at *
   obtain ⟨b, o, ha, hr⟩ := hI.get hg
   refine ⟨b, o, ha, ⟨by omega, by omega⟩, _, _, _, _, (by rw [Int.toNat_natCast]; exact hr), ?_⟩
   refine Tri.mono (icheck_t h1 hO x) ?_
   rintro _ h1 ⟨rfl, rfl⟩
   refine ⟨_, rfl, br_split (fun e1 => ?_) fun e1 => ?_⟩
   · have e1 : checkI x ≠ 0 := by simpa using e1
     have : checkP p = checkI x := by
      unfold checkP
      rw [find_take hu, hdr, List.map_cons, List.find?_cons, decide_eq_true e1]
     rw [this]
     exact ⟨rfl, Ext.refl _⟩
   · have e1 : checkI x = 0 := by simpa using e1
     refine ⟨m - 1, by omega, ⟨j + 1, ?_, by omega, rfl, fun k y h1 h2 => ?_⟩, rfl, trivial⟩
     · rw [wrap64 (by omega) (by omega)]; omega
     · by_cases hk : k = j
       · subst hk; rw [hg] at h2; injection h2 with h2; rw [← h2]; exact e1
       · exact hu k y (by omega) h2
 · have hj : j = p.code.length := by have := of_decide_eq_false e; omega
   subst hj
   have hc : checkP p = if p.zero < 0 ∨ 4096 < p.zero ∨ 4096 < dataAt p + p.data.length + p.zero ∨ 1024 < p.labels.length then 9
    else if p.entry < 0 ∨ p.entry % 4 ≠ 0 ∨ 4 * (p.code.length : Int) ≤ p.entry then 2
    else if labelsErr p none p.labels ≠ 0 then labelsErr p none p.labels else if twice (p.labels.map (·.name)) then 7 else 0 := by
    unfold checkP
    rw [find_take hu, List.drop_length]; rfl
   have nine : (p.zero < 0 ∨ 4096 < p.zero ∨ 4096 < dataAt p + p.data.length + p.zero ∨ 1024 < p.labels.length) → (9 : Nat) = checkP p := fun hh => by rw [hc, if_pos hh]
   refine br_split (fun e1 => ?_) fun e1 => br_split (fun e2 => ?_) fun e2 => ?_
   · rw [← nine (.inl (of_decide_eq_true e1))]; exact ⟨rfl, rfl, Ext.refl _⟩
   · rw [← nine (.inr (.inl (of_decide_eq_true e2)))]; exact ⟨rfl, rfl, rfl, Ext.refl _⟩
   have e1 := of_decide_eq_false e1
   have e2 := of_decide_eq_false e2
   refine Tri.mono (dataAt_t hn) ?_
   rintro _ h1 ⟨rfl, rfl⟩
   have hda : 0 ≤ dataAt p ∧ dataAt p ≤ 4000100 := by unfold dataAt; omega
   refine ⟨_, rfl, rfl, rfl, rfl, rfl, ?_⟩
   rw [wrap64 (n := dataAt p + _) (by omega) (by omega), wrap64 (by omega) (by omega)]
   refine br_split (fun e3 => ?_) fun e3 => br_split (fun e4 => ?_) fun e4 => ?_
   · rw [← nine (.inr (.inr (.inl (of_decide_eq_true e3))))]; exact ⟨rfl, Ext.refl _⟩
   · rw [← nine (.inr (.inr (.inr (by have := of_decide_eq_true e4; omega))))]; exact ⟨rfl, Ext.refl _⟩
   have e3 := of_decide_eq_false e3
   have e4 := of_decide_eq_false e4
   rw [if_neg (by omega)] at hc
   rw [wrap64 (n := ((p.code.length : Nat) : Int) * 4) (by omega) (by omega), wrap64 (by omega) (by omega)]
   refine Tri.mono (place_t _ _ he) ?_
   rintro _ h1 ⟨rfl, rfl⟩
   refine ⟨_, rfl, br_split (fun e5 => ?_) fun e5 => ?_⟩
   · have e5 := of_decide_eq_false (not_f e5)
     rw [hc, if_pos (by omega)]
     exact ⟨rfl, Ext.refl _⟩
   · have e5 := of_decide_eq_true (not_t e5)
     rw [if_neg (by omega)] at hc
     refine Tri.mono (checkLabels_t hL hn hd hls (by omega) ho) ?_
     rintro _ h2 ⟨rfl, x2⟩
     rw [← hc]
     exact ⟨_, rfl, rfl, x2⟩
theorem address_t {a1 : OA} {k1 : Nat} {d : Bytes} {z e : Int} {a2 : OA} {n2 k2 : Nat} {p : Pg} {l : Lb} (hn : p.code.length ≤ 1000000) (ho : -1000000000 ≤ l.off ∧ l.off ≤ 1000000000) :
 Tri Tryz.prog 44 [vA [vL a1 p.code.length k1, vS d, vI z, vI e, vL a2 n2 k2], lbV l] h fun v h' => v = vI (placeOf p l) ∧ h' = h := by
 refine T44 ?_
 unfold R44
 have hda : 0 ≤ dataAt p ∧ dataAt p ≤ 4000100 := by unfold dataAt; omega
 refine br_split (fun e1 => ?_) fun e1 => ?_
 · refine Tri.mono (dataAt_t hn) ?_
   rintro _ h1 ⟨rfl, rfl⟩
   refine ⟨_, rfl, rfl, ?_⟩
   rw [wrap64 (by omega) (by omega)]
   unfold placeOf; rw [if_pos e1]
   exact ⟨rfl, rfl⟩
 · unfold placeOf; rw [if_neg (by rw [e1]; decide)]
   exact ⟨rfl, rfl⟩
end
end Go.Proofs.D
namespace Go.Proofs.D
open Go Go.Den Go.As
set_option maxRecDepth 100000
attribute [local irreducible] IntKind.wrap Tri
section
variable {hb h : PHeap} {p mS : Nat} {a : As.St} {K : AK}
def putU (p : Pg) (u : Us) (n : Int) : Pg := if u.kind = 0 then { p with code := setC p.code u.idx n } else if u.kind = 1 then { p with data := putW p.data u.idx n } else { p with entry := n }
theorem resolve_cons (p : Pg) (u : Us) (l : List Us) : resolveS p (u :: l) = match address p u.name with
 | none => .error (u.line, 37)
 | some n => if n < u.low ∨ u.high < n then .error (u.line, 2) else resolveS (putU p u n) l := rfl
theorem place_range {q : Pg} {l : Lb} (hn : q.code.length ≤ 1000000) (ho : 0 ≤ l.off ∧ l.off ≤ 4096) : 0 ≤ placeOf q l ∧ placeOf q l ≤ 5000000 := by
 unfold placeOf dataAt
 split <;> omega
def ValR (hb : PHeap) (p mS : Nat) (a : As.St) (K : AK) (u : Us) (v : Value) (h' : PHeap) : Prop :=
 match address a.p u.name with
 | none => v = vI 37 ∧ ASK hb h' p mS a K
 | some n => if n < u.low ∨ u.high < n then v = vI 2 ∧ ASK hb h' p mS a K else v = vI 0 ∧ ASK hb h' p mS { a with p := putU a.p u n } K
def core142 (p1 p3 p4 p5 : Nat) (l2 : Bs) (c1 : Bool) (i1 : Int) (c2 : Bool) (h_1 : PHeap) (Q : Value → PHeap → Prop) : Prop :=
 br (!c2)
 (Q (vI 37) h_1)
 (∃ (p7 o7 : Nat), h_1.cell p1 0 = some (vP p7 o7) ∧
 ∃ (a1 : OA) (n1 k1 : Nat) (l3 : Bs) (i2 i3 : Int) (a2 : OA) (n2 k2 : Nat), h_1.row p7 (o7 + 1) [vL a1 n1 k1, vS l3, vI i2, vI i3, vL a2 n2 k2] ∧
 Tri Tryz.prog 44 [vA [vL a1 n1 k1, vS l3, vI i2, vI i3, vL a2 n2 k2], vA [vS l2, vB c1, vI i1]] h_1 fun v_2 h_2 =>
 ∃ (i4 : Int), v_2 = vI i4 ∧
 (h_2.cell p1 0 = some (vP p7 o7)) ∧
 ∃ (i5 : Int), h_2.cell p3 0 = some (vI i5) ∧
 br (decide (i4 < i5))
 (Q (vI 2) h_2)
 (∃ (i6 : Int), h_2.cell p4 0 = some (vI i6) ∧
 br (decide (i4 > i6))
 (Q (vI 2) h_2)
 (∃ (f1 : Nat) (x1 y1 : List Value), h_2.cell p5 0 = some (vF f1 x1 y1) ∧
 Tri Tryz.prog f1 (x1 ++ [vI i4] ++ y1) h_2 fun v_3 h_3 =>
 v_3 = vT [] ∧
 Q (vI 0) h_3)))
theorem core_142 {u : Us} {b1 b3 b4 b5 f : Nat} {y : List Value} (hA : ASK hb h p mS a K) (h1 : hb.cell b1 0 = some (vP p 0)) (h3 : hb.cell b3 0 = some (vI (lowM u))) (h4 : hb.cell b4 0 = some (vI (highM u))) (h5 : hb.cell b5 0 = some (vF f [] y)) (hP : PutAt hb p u.kind u.idx f y)
 (hu : UseOk a.p u) (hl : ∀ l ∈ a.p.labels, 0 ≤ l.off ∧ l.off ≤ 4096) (hn : a.p.code.length ≤ 1000000) (r : Option Lb) (hr : r = a.p.labels.find? fun l => l.name == u.name) {s1 : Bs} {c1 : Bool} {i1 : Int} (hv : getD2 (vA [vS [], vB false, vI 0]) (r.map lbV) = vA [vS s1, vB c1, vI i1]) :
 core142 b1 b3 b4 b5 s1 c1 i1 (r.map lbV).isSome h fun v h' => ValR hb p mS a K u v h' := by
 unfold core142
 cases r with
 | none =>
   refine br_pos rfl ?_
   unfold ValR address
   rw [← hr]
   exact ⟨rfl, hA⟩
 | some l =>
   have hm : l ∈ a.p.labels := List.mem_of_find?_eq_some hr.symm
   have hl := hl l hm
   have hpr := place_range hn hl
   have hadr : address a.p u.name = some (placeOf a.p l) := by unfold address; rw [← hr]; rfl
   have hv : lbV l = vA [vS s1, vB c1, vI i1] := hv
   have hx := hA.ext
   have hrow : h.row p (0 + 1) [vL K.ca a.p.code.length K.cc, vS [], vI a.p.zero, vI a.p.entry, vL none 0 0] := by
    refine ⟨?_, ?_, ?_, ?_, ?_⟩
    all_goals first | (rw [PA_cell hA.obj]; rfl) | (show h.cell _ _ = _; rw [PA_cell hA.obj]; rfl)
   refine br_neg rfl ⟨p, 0, cell_ext (fun ob => hx b1 ob) h1, K.ca, _, K.cc, [], a.p.zero, a.p.entry, none, 0, 0, hrow, ?_⟩
   rw [← hv]
   refine Tri.mono (address_t (p := a.p) hn (by omega)) ?_
   rintro _ h2 ⟨rfl, rfl⟩
   have lowE : placeOf a.p l < lowM u ↔ placeOf a.p l < u.low := by
    unfold lowM
    split
    · rename_i hk; have := (hu.ent hk).1; omega
    · exact Iff.rfl
   have highE : highM u < placeOf a.p l ↔ u.high < placeOf a.p l := by
    unfold highM
    split
    · rename_i hk; have := (hu.ent hk).2; omega
    · exact Iff.rfl
   have two : placeOf a.p l < u.low ∨ u.high < placeOf a.p l → ValR hb p mS a K u (vI 2) h2 := fun hh => by
    unfold ValR; rw [hadr]; simp only; rw [if_pos hh]; exact ⟨trivial, hA⟩
   refine ⟨_, rfl, cell_ext (fun ob => hx b1 ob) h1, _, cell_ext (fun ob => hx b3 ob) h3, br_split (fun e => two (.inl (lowE.1 (of_decide_eq_true e)))) fun e => ⟨_, cell_ext (fun ob => hx b4 ob) h4, br_split (fun e' => two (.inr (highE.1 (of_decide_eq_true e')))) fun e' => ⟨f, [], y, cell_ext (fun ob => hx b5 ob) h5, ?_⟩⟩⟩
   have e := of_decide_eq_false e
   have e' := of_decide_eq_false e'
   have hno : ¬ (placeOf a.p l < u.low ∨ u.high < placeOf a.p l) := fun hh => hh.elim (fun hh => e (lowE.2 hh)) fun hh => e' (highE.2 hh)
   have fin : ∀ h', ASK hb h' p mS { a with p := putU a.p u (placeOf a.p l) } K → ValR hb p mS a K u (vI 0) h' := fun h' hh => by
    unfold ValR; rw [hadr]; simp only; rw [if_neg hno]; exact ⟨trivial, hh⟩
   rcases hP with ⟨hk, rfl, c, rfl, hc⟩ | ⟨hk, rfl, c, d, rfl, hc, hd⟩ | ⟨hk, rfl, c, d, rfl, hc, hd⟩
   · refine Tri.mono (put109_k hA hc) ?_
     rintro _ h3 ⟨rfl, hA3⟩
     refine ⟨rfl, fin _ ?_⟩
     unfold putU; rw [if_neg (by omega), if_neg (by omega)]; exact hA3
   · refine Tri.mono (put112_k hA hc hd (hu.data hk)) ?_
     rintro _ h3 ⟨rfl, hA3⟩
     refine ⟨rfl, fin _ ?_⟩
     unfold putU; rw [if_neg (by omega), if_pos hk]; exact hA3
   · refine Tri.mono (put115_k hA hc hd (hu.code hk)) ?_
     rintro _ h3 ⟨rfl, hA3⟩
     refine ⟨rfl, fin _ ?_⟩
     unfold putU; rw [if_pos hk]; exact hA3
theorem value1_t {u : Us} {b1 b2 b3 b4 b5 f : Nat} {y : List Value} (hA : ASK hb h p mS a K) (h1 : hb.cell b1 0 = some (vP p 0)) (h2 : hb.cell b2 0 = some (vS u.name)) (h3 : hb.cell b3 0 = some (vI (lowM u))) (h4 : hb.cell b4 0 = some (vI (highM u))) (h5 : hb.cell b5 0 = some (vF f [] y)) (hP : PutAt hb p u.kind u.idx f y)
 (hu : UseOk a.p u) (hl : ∀ l ∈ a.p.labels, 0 ≤ l.off ∧ l.off ≤ 4096) (hn : a.p.code.length ≤ 1000000) :
 Tri Tryz.prog 142 [vP b1 0, vP b2 0, vP b3 0, vP b4 0, vP b5 0] h fun v h' => ValR hb p mS a K u v h' := by
 refine T142 ?_
 unfold R142
 have hx := hA.ext
 have hmb : h.cell p 10 = some (vM K.mb) := by rw [PA_cell hA.obj]; rfl
 obtain ⟨s1, c1, i1, hv⟩ := lbV_is (a.p.labels.find? fun l => l.name == u.name)
 have hcore := core_142 hA h1 h3 h4 h5 hP hu hl hn _ rfl hv
 refine ⟨p, 0, cell_ext (fun ob => hx b1 ob) h1, K.mb, hmb, u.name, cell_ext (fun ob => hx b2 ob) h2, ?_, cell_ext (fun ob => hx b2 ob) h2, hmb, cell_ext (fun ob => hx b1 ob) h1, ?_⟩
 · refine Raw.mono (raw_lookupS und71 rfl (z := vA [vS [], vB false, vI 0]) rfl rfl rfl hA.labs) ?_
   rintro _ h1' ⟨rfl, rfl⟩
   rw [get_labE]
   simp only [if_true, hv]
   exact ⟨_, _, _, _, rfl, cell_ext (fun ob => hx b1 ob) h1, cell_ext (fun ob => hx b1 ob) h1, hcore⟩
 · refine Raw.mono (raw_lookupS und71 rfl (z := vA [vS [], vB false, vI 0]) rfl rfl rfl hA.labs) ?_
   rintro _ h1' ⟨rfl, rfl⟩
   rw [get_labE]
   simp only [if_true, hv]
   exact ⟨_, _, _, _, rfl, cell_ext (fun ob => hx b1 ob) h1, hcore⟩
end
end Go.Proofs.D
