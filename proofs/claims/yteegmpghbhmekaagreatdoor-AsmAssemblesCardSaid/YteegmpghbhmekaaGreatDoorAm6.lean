import Derived.Test.YteegmpghbhmekaaGreatDoorAm5
namespace Go.Proofs.D
open Go Go.Den
set_option maxRecDepth 100000
set_option maxHeartbeats 4000000
abbrev o110_5 : Op := .call { callee := (.builtin .append), args := #[(.tmp 36), (.tmp 43)], argTypes := #[72, 72] }
noncomputable def d110 : DCode := up ⟨[(15, .l [.str]), (16, .c (.tup [(false, [qi]), (false, [.bool])])), (21, .l [qi]), (25, .l [qi]), (29, .l [.str]), (30, .c (.one false [.bool])), (32, .l [.ptr]), (33, .l [.ptr]), (36, .l [.slice]), (37, .l [.ptr]), (40, .l [qi]), (44, .c (.one false [.slice]))], [46], []⟩ (low Tryz.prog (fun d => Nat.beq d 5 || Nat.beq d 6 || Nat.beq d 7 || Nat.beq d 8 || Nat.beq d 9) (Tryz.f110.body.getD .skip))
theorem low110 : low Tryz.prog (fun d => Nat.beq d 5 || Nat.beq d 6 || Nat.beq d 7 || Nat.beq d 8 || Nat.beq d 9) (Tryz.f110.body.getD .skip) = some (eC d110) := by kernel_rfl
def R110 (p1 : Nat) (o1 : Nat) (l1 : Bs) (i1 : Int) (i2 : Int) (f1 : Nat) (x1 : List Value) (y1 : List Value) (h : PHeap) (Q : Value → PHeap → Prop) : Prop :=
 ∀ (b1 : Nat), h b1 = none → ∀ (h_1 : PHeap), h_1 = h.put b1 (.cells ⟨[vP p1 o1]⟩ 68) →
 ∀ (b2 : Nat), h_1 b2 = none → ∀ (h_2 : PHeap), h_2 = h_1.put b2 (.cells ⟨[vS l1]⟩ 9) →
 ∀ (b3 : Nat), h_2 b3 = none → ∀ (h_3 : PHeap), h_3 = h_2.put b3 (.cells ⟨[vI i1]⟩ 3) →
 ∀ (b4 : Nat), h_3 b4 = none → ∀ (h_4 : PHeap), h_4 = h_3.put b4 (.cells ⟨[vI i2]⟩ 3) →
 ∀ (b5 : Nat), h_4 b5 = none → ∀ (h_5 : PHeap), h_5 = h_4.put b5 (.cells ⟨[vF f1 x1 y1]⟩ 150) →
 ∃ (l2 : Bs), h_5.cell b2 0 = some (vS l2) ∧
 Tri Tryz.prog 141 [vS l2] h_5 fun v_1 h_6 =>
 ∃ (i3 : Int) (c1 : Bool), v_1 = vT [vI i3, vB c1] ∧
 br c1
 (∃ (i4 : Int), h_6.cell b3 0 = some (vI i4) ∧
 br (decide (i3 < i4))
 (Q (vT [vI 0, vI 2]) h_6)
 (∃ (i5 : Int), h_6.cell b4 0 = some (vI i5) ∧
 br (decide (i3 > i5))
 (Q (vT [vI 0, vI 2]) h_6)
 (Q (vT [vI i3, vI 0]) h_6)))
 (∃ (l3 : Bs), h_6.cell b2 0 = some (vS l3) ∧
 Tri Tryz.prog 27 [vS l3] h_6 fun v_2 h_7 =>
 ∃ (c2 : Bool), v_2 = vB c2 ∧
 br (!c2)
 (Q (vT [vI 0, vI 3]) h_7)
 (∃ (p2 o2 : Nat), h_7.cell b1 0 = some (vP p2 o2) ∧
 ∃ (p3 o3 : Nat), h_7.cell b1 0 = some (vP p3 o3) ∧
 ∃ (a1 : OA) (n1 k1 : Nat), h_7.cell p3 (o3 + 12) = some (vL a1 n1 k1) ∧
 ∃ (p4 o4 : Nat), h_7.cell b1 0 = some (vP p4 o4) ∧
 ∃ (i6 : Int), h_7.cell p4 (o4 + 11) = some (vI i6) ∧
 ∀ (b6 : Nat), h_7 b6 = none → ∀ (h_8 : PHeap), h_8 = h_7.put b6 (.cells ⟨[vI i6, vF 142 [] [vP b1 0, vP b2 0, vP b3 0, vP b4 0, vP b5 0]]⟩ 78) →
 (h_8.cell p4 (o4 + 11) = some (vI i6)) ∧
 (h_8.cell b1 0 = some (vP p4 o4)) ∧
 (h_8.cell p3 (o3 + 12) = some (vL a1 n1 k1)) ∧
 (h_8.cell b1 0 = some (vP p3 o3)) ∧
 (h_8.cell b1 0 = some (vP p2 o2)) ∧
 Raw Tryz.prog (execOp (rho [(36, vL a1 n1 k1), (43, vL (ad b6 0) 1 1)]) (mkO o110_5 72)) h_8 fun v_3 h_9 =>
 ∃ (a2 : OA) (n2 k2 : Nat), v_3 = vL a2 n2 k2 ∧
 (h_9.cell p4 (o4 + 11) = some (vI i6)) ∧
 (h_9.cell b1 0 = some (vP p4 o4)) ∧
 (h_9.cell b1 0 = some (vP p3 o3)) ∧
 (h_9.cell b1 0 = some (vP p2 o2)) ∧
 ∃ (l4 : List Value) (t1 : TypeId) (z1 : Nat × Nat), h_9 p2 = some (.cells ⟨l4⟩ t1 z1) ∧ ((o2 + 12) + 1 ≤ l4.length ∧ z1.2 ≤ (o2 + 12)) ∧
 ∀ (h_10 : PHeap), h_10 = h_9.put p2 (.cells ⟨splice l4 (o2 + 12) [vL a2 n2 k2]⟩ t1 z1) →
 Q (vT [vI 0, vI 0]) h_10))
theorem T110 {p1 : Nat} {o1 : Nat} {l1 : Bs} {i1 : Int} {i2 : Int} {f1 : Nat} {x1 : List Value} {y1 : List Value} {h : PHeap} {Q : Value → PHeap → Prop} (hR : R110 p1 o1 l1 i1 i2 f1 x1 y1 h Q) : Tri Tryz.prog 110 [vP p1 o1, vS l1, vI i1, vI i2, vF f1 x1 y1] h Q :=
 tri_of_dn mixed Tryz.func110 rfl (by kernel_rfl) low110 (rs := [.tmp 10, .tmp 11]) (by kernel_rfl) rfl (Eq.mpr (by kernel_rfl : dnF Tryz.prog Tryz.f110.ntmps d110 [.tmp 10, .tmp 11] [vP p1 o1, vS l1, vI i1, vI i2, vF f1 x1 y1] h Q = R110 p1 o1 l1 i1 i2 f1 x1 y1 h Q) hR)
noncomputable def d109 : DCode := up ⟨[(3, .l [.ptr])], [7], []⟩ (low Tryz.prog (fun _ => false) (Tryz.f109.body.getD .skip))
theorem low109 : low Tryz.prog (fun _ => false) (Tryz.f109.body.getD .skip) = some (eC d109) := by kernel_rfl
def R109 (i1 : Int) (p1 : Nat) (o1 : Nat) (h : PHeap) (Q : Value → PHeap → Prop) : Prop :=
 ∃ (p2 o2 : Nat), h.cell p1 o1 = some (vP p2 o2) ∧
 ∃ (l1 : List Value) (t1 : TypeId) (z1 : Nat × Nat), h p2 = some (.cells ⟨l1⟩ t1 z1) ∧ ((o2 + 4) + 1 ≤ l1.length ∧ z1.2 ≤ (o2 + 4)) ∧
 ∀ (h_1 : PHeap), h_1 = h.put p2 (.cells ⟨splice l1 (o2 + 4) [vI i1]⟩ t1 z1) →
 Q (vT []) h_1
theorem T109 {i1 : Int} {p1 : Nat} {o1 : Nat} {h : PHeap} {Q : Value → PHeap → Prop} (hR : R109 i1 p1 o1 h Q) : Tri Tryz.prog 109 [vI i1, vP p1 o1] h Q :=
 tri_of_dn mixed Tryz.func109 rfl (by kernel_rfl) low109 (rs := []) (by kernel_rfl) rfl (Eq.mpr (by kernel_rfl : dnF Tryz.prog Tryz.f109.ntmps d109 [] [vI i1, vP p1 o1] h Q = R109 i1 p1 o1 h Q) hR)
abbrev o112_3 : Op := .call { callee := (.builtin .copy), args := #[(.tmp 12), (.tmp 24)], argTypes := #[40, 40] }
noncomputable def d112 : DCode := up ⟨[(6, .c (.one false [.int .u32])), (7, .l [.ptr]), (10, .l [.slice]), (11, .l [qi]), (25, .c (.one false [qi]))], [], []⟩ (low Tryz.prog (fun _ => false) (Tryz.f112.body.getD .skip))
theorem low112 : low Tryz.prog (fun _ => false) (Tryz.f112.body.getD .skip) = some (eC d112) := by kernel_rfl
def R112 (i1 : Int) (p1 : Nat) (o1 : Nat) (p2 : Nat) (o2 : Nat) (h : PHeap) (Q : Value → PHeap → Prop) : Prop :=
 Tri Tryz.prog 113 [vI i1] h fun v_1 h_1 =>
 ∃ (i2 : Int), v_1 = .int .u32 i2 ∧
 ∃ (p3 o3 : Nat), h_1.cell p1 o1 = some (vP p3 o3) ∧
 ∃ (a1 : OA) (n1 k1 : Nat), h_1.cell p3 (o3 + 6) = some (vL a1 n1 k1) ∧
 ∃ (i3 : Int), h_1.cell p2 o2 = some (vI i3) ∧
 (okA a1 n1 k1 ∧ 0 ≤ i3 ∧ i3 ≤ ((n1 : Nat) : Int) ∧ ((n1 : Nat) : Int) ≤ k1) ∧ ∀ (a2 : OA), SlA a1 a2 (i3).toNat k1 1 →
 ∀ (b1 : Nat), h_1 b1 = none → ∀ (h_2 : PHeap), h_2 = h_1.put b1 (.cells ⟨[vU (IntKind.u8.wrap (i2)), vU (IntKind.u8.wrap ((Int.fdiv i2 256))), vU (IntKind.u8.wrap ((Int.fdiv i2 65536))), vU (IntKind.u8.wrap ((Int.fdiv i2 16777216)))]⟩ 5) →
 (h_2.cell p2 o2 = some (vI i3)) ∧
 (h_2.cell p3 (o3 + 6) = some (vL a1 n1 k1)) ∧
 (h_2.cell p1 o1 = some (vP p3 o3)) ∧
 Raw Tryz.prog (execOp (rho [(12, vL a2 (((n1 : Nat) : Int).toNat - (i3).toNat) (k1 - (i3).toNat)), (24, vL (ad b1 0) 4 4)]) (mkO o112_3 3)) h_2 fun v_2 h_3 =>
 ∃ (i4 : Int), v_2 = vI i4 ∧
 (h_3.cell p2 o2 = some (vI i3)) ∧
 (h_3.cell p3 (o3 + 6) = some (vL a1 n1 k1)) ∧
 (h_3.cell p1 o1 = some (vP p3 o3)) ∧
 Q (vT []) h_3
theorem T112 {i1 : Int} {p1 : Nat} {o1 : Nat} {p2 : Nat} {o2 : Nat} {h : PHeap} {Q : Value → PHeap → Prop} (hR : R112 i1 p1 o1 p2 o2 h Q) : Tri Tryz.prog 112 [vI i1, vP p1 o1, vP p2 o2] h Q :=
 tri_of_dn mixed Tryz.func112 rfl (by kernel_rfl) low112 (rs := []) (by kernel_rfl) rfl (Eq.mpr (by kernel_rfl : dnF Tryz.prog Tryz.f112.ntmps d112 [] [vI i1, vP p1 o1, vP p2 o2] h Q = R112 i1 p1 o1 p2 o2 h Q) hR)
noncomputable def d115 : DCode := up ⟨[(4, .l [.ptr]), (8, .l [.slice]), (9, .l [qi])], [12], []⟩ (low Tryz.prog (fun _ => false) (Tryz.f115.body.getD .skip))
theorem low115 : low Tryz.prog (fun _ => false) (Tryz.f115.body.getD .skip) = some (eC d115) := by kernel_rfl
def R115 (i1 : Int) (p1 : Nat) (o1 : Nat) (p2 : Nat) (o2 : Nat) (h : PHeap) (Q : Value → PHeap → Prop) : Prop :=
 ∃ (p3 o3 : Nat), h.cell p1 o1 = some (vP p3 o3) ∧
 ∃ (a1 : OA) (n1 k1 : Nat), h.cell p3 (o3 + 1) = some (vL a1 n1 k1) ∧
 ∃ (i2 : Int), h.cell p2 o2 = some (vI i2) ∧
 ∃ (b1 o4 : Nat), a1 = some ⟨b1, o4, none⟩ ∧ (0 ≤ i2 ∧ i2 < n1) ∧
 ∃ (l1 : List Value) (t1 : TypeId) (z1 : Nat × Nat), h b1 = some (.cells ⟨l1⟩ t1 z1) ∧ (((o4 + (i2).toNat * 4) + 3) + 1 ≤ l1.length ∧ z1.2 ≤ ((o4 + (i2).toNat * 4) + 3)) ∧
 ∀ (h_1 : PHeap), h_1 = h.put b1 (.cells ⟨splice l1 ((o4 + (i2).toNat * 4) + 3) [vI i1]⟩ t1 z1) →
 Q (vT []) h_1
theorem T115 {i1 : Int} {p1 : Nat} {o1 : Nat} {p2 : Nat} {o2 : Nat} {h : PHeap} {Q : Value → PHeap → Prop} (hR : R115 i1 p1 o1 p2 o2 h Q) : Tri Tryz.prog 115 [vI i1, vP p1 o1, vP p2 o2] h Q :=
 tri_of_dn mixed Tryz.func115 rfl (by kernel_rfl) low115 (rs := []) (by kernel_rfl) rfl (Eq.mpr (by kernel_rfl : dnF Tryz.prog Tryz.f115.ntmps d115 [] [vI i1, vP p1 o1, vP p2 o2] h Q = R115 i1 p1 o1 p2 o2 h Q) hR)
noncomputable def d113 : DCode := up ⟨[], [], []⟩ (low Tryz.prog (fun _ => false) (Tryz.f113.body.getD .skip))
theorem low113 : low Tryz.prog (fun _ => false) (Tryz.f113.body.getD .skip) = some (eC d113) := by kernel_rfl
def R113 (i1 : Int) (h : PHeap) (Q : Value → PHeap → Prop) : Prop :=
 Q (.int .u32 (IntKind.u32.wrap (i1))) h
theorem T113 {i1 : Int} {h : PHeap} {Q : Value → PHeap → Prop} (hR : R113 i1 h Q) : Tri Tryz.prog 113 [vI i1] h Q :=
 tri_of_dn mixed Tryz.func113 rfl (by kernel_rfl) low113 (rs := [.tmp 2]) (by kernel_rfl) rfl (Eq.mpr (by kernel_rfl : dnF Tryz.prog Tryz.f113.ntmps d113 [.tmp 2] [vI i1] h Q = R113 i1 h Q) hR)
noncomputable def d76 : DCode := up ⟨[], [7], []⟩ (low Tryz.prog (fun _ => false) (Tryz.f76.body.getD .skip))
theorem low76 : low Tryz.prog (fun _ => false) (Tryz.f76.body.getD .skip) = some (eC d76) := by kernel_rfl
def R76 (p1 : Nat) (o1 : Nat) (a1 : OA) (n1 : Nat) (k1 : Nat) (h : PHeap) (Q : Value → PHeap → Prop) : Prop :=
 ∃ (l1 : List Value) (t1 : TypeId) (z1 : Nat × Nat), h p1 = some (.cells ⟨l1⟩ t1 z1) ∧ ((o1 + 7) + 1 ≤ l1.length ∧ z1.2 ≤ (o1 + 7)) ∧
 ∀ (h_1 : PHeap), h_1 = h.put p1 (.cells ⟨splice l1 (o1 + 7) [vB false]⟩ t1 z1) →
 Q (vI 0) h_1
theorem T76 {p1 : Nat} {o1 : Nat} {a1 : OA} {n1 : Nat} {k1 : Nat} {h : PHeap} {Q : Value → PHeap → Prop} (hR : R76 p1 o1 a1 n1 k1 h Q) : Tri Tryz.prog 76 [vP p1 o1, vL a1 n1 k1] h Q :=
 tri_of_dn mixed Tryz.func76 rfl (by kernel_rfl) low76 (rs := [.tmp 4]) (by kernel_rfl) rfl (Eq.mpr (by kernel_rfl : dnF Tryz.prog Tryz.f76.ntmps d76 [.tmp 4] [vP p1 o1, vL a1 n1 k1] h Q = R76 p1 o1 a1 n1 k1 h Q) hR)
noncomputable def d77 : DCode := up ⟨[], [7], []⟩ (low Tryz.prog (fun _ => false) (Tryz.f77.body.getD .skip))
theorem low77 : low Tryz.prog (fun _ => false) (Tryz.f77.body.getD .skip) = some (eC d77) := by kernel_rfl
def R77 (p1 : Nat) (o1 : Nat) (a1 : OA) (n1 : Nat) (k1 : Nat) (h : PHeap) (Q : Value → PHeap → Prop) : Prop :=
 ∃ (l1 : List Value) (t1 : TypeId) (z1 : Nat × Nat), h p1 = some (.cells ⟨l1⟩ t1 z1) ∧ ((o1 + 7) + 1 ≤ l1.length ∧ z1.2 ≤ (o1 + 7)) ∧
 ∀ (h_1 : PHeap), h_1 = h.put p1 (.cells ⟨splice l1 (o1 + 7) [vB true]⟩ t1 z1) →
 Q (vI 0) h_1
theorem T77 {p1 : Nat} {o1 : Nat} {a1 : OA} {n1 : Nat} {k1 : Nat} {h : PHeap} {Q : Value → PHeap → Prop} (hR : R77 p1 o1 a1 n1 k1 h Q) : Tri Tryz.prog 77 [vP p1 o1, vL a1 n1 k1] h Q :=
 tri_of_dn mixed Tryz.func77 rfl (by kernel_rfl) low77 (rs := [.tmp 4]) (by kernel_rfl) rfl (Eq.mpr (by kernel_rfl : dnF Tryz.prog Tryz.f77.ntmps d77 [.tmp 4] [vP p1 o1, vL a1 n1 k1] h Q = R77 p1 o1 a1 n1 k1 h Q) hR)
noncomputable def d78 : DCode := up ⟨[(10, .l [.ptr]), (14, .l [.str]), (16, .c (.tup [(false, [qi]), (false, [qi])])), (22, .l [.ptr]), (27, .c (.tup []))], [24], []⟩ (low Tryz.prog (fun d => Nat.beq d 2) (Tryz.f78.body.getD .skip))
theorem low78 : low Tryz.prog (fun d => Nat.beq d 2) (Tryz.f78.body.getD .skip) = some (eC d78) := by kernel_rfl
def R78 (p1 : Nat) (o1 : Nat) (a1 : OA) (n1 : Nat) (k1 : Nat) (h : PHeap) (Q : Value → PHeap → Prop) : Prop :=
 ∀ (b1 : Nat), h b1 = none → ∀ (h_1 : PHeap), h_1 = h.put b1 (.cells ⟨[vP p1 o1]⟩ 68) →
 ∃ (p2 o2 : Nat), h_1.cell b1 0 = some (vP p2 o2) ∧
 ∃ (b2 o3 : Nat), a1 = some ⟨b2, o3, none⟩ ∧ (0 ≤ (0 : Int) ∧ (0 : Int) < n1) ∧
 ∃ (l1 : Bs), h_1.cell b2 (o3 + 1) = some (vS l1) ∧
 Tri Tryz.prog 110 [vP p2 o2, vS l1, vI (-4611686018427387904), vI 4611686018427387904, vF 109 [] [vP b1 0]] h_1 fun v_1 h_2 =>
 ∃ (i1 i2 : Int), v_1 = vT [vI i1, vI i2] ∧
 br (i2 != 0)
 (Q (vI i2) h_2)
 (∃ (p3 o4 : Nat), h_2.cell b1 0 = some (vP p3 o4) ∧
 ∃ (l2 : List Value) (t1 : TypeId) (z1 : Nat × Nat), h_2 p3 = some (.cells ⟨l2⟩ t1 z1) ∧ ((o4 + 8) + 1 ≤ l2.length ∧ z1.2 ≤ (o4 + 8)) ∧
 ∀ (h_3 : PHeap), h_3 = h_2.put p3 (.cells ⟨splice l2 (o4 + 8) [vB true]⟩ t1 z1) →
 Tri Tryz.prog 109 [vI i1, vP b1 0] h_3 fun v_2 h_4 =>
 v_2 = vT [] ∧
 Q (vI 0) h_4)
theorem T78 {p1 : Nat} {o1 : Nat} {a1 : OA} {n1 : Nat} {k1 : Nat} {h : PHeap} {Q : Value → PHeap → Prop} (hR : R78 p1 o1 a1 n1 k1 h Q) : Tri Tryz.prog 78 [vP p1 o1, vL a1 n1 k1] h Q :=
 tri_of_dn mixed Tryz.func78 rfl (by kernel_rfl) low78 (rs := [.tmp 4]) (by kernel_rfl) rfl (Eq.mpr (by kernel_rfl : dnF Tryz.prog Tryz.f78.ntmps d78 [.tmp 4] [vP p1 o1, vL a1 n1 k1] h Q = R78 p1 o1 a1 n1 k1 h Q) hR)
noncomputable def d79 : DCode := up ⟨[(11, .l [.str]), (12, .c (.tup [(false, [qi]), (false, [qi])]))], [20, 25], []⟩ (low Tryz.prog (fun _ => false) (Tryz.f79.body.getD .skip))
theorem low79 : low Tryz.prog (fun _ => false) (Tryz.f79.body.getD .skip) = some (eC d79) := by kernel_rfl
def R79 (p1 : Nat) (o1 : Nat) (a1 : OA) (n1 : Nat) (k1 : Nat) (h : PHeap) (Q : Value → PHeap → Prop) : Prop :=
 ∃ (b1 o2 : Nat), a1 = some ⟨b1, o2, none⟩ ∧ (0 ≤ (0 : Int) ∧ (0 : Int) < n1) ∧
 ∃ (l1 : Bs), h.cell b1 (o2 + 1) = some (vS l1) ∧
 Tri Tryz.prog 111 [vS l1, vI 0, vI 4096] h fun v_1 h_1 =>
 ∃ (i1 i2 : Int), v_1 = vT [vI i1, vI i2] ∧
 br (i2 != 0)
 (Q (vI i2) h_1)
 (∃ (l2 : List Value) (t1 : TypeId) (z1 : Nat × Nat), h_1 p1 = some (.cells ⟨l2⟩ t1 z1) ∧ ((o1 + 9) + 1 ≤ l2.length ∧ z1.2 ≤ (o1 + 9)) ∧
 ∀ (h_2 : PHeap), h_2 = h_1.put p1 (.cells ⟨splice l2 (o1 + 9) [vB true]⟩ t1 z1) →
 ∃ (l3 : List Value) (t2 : TypeId) (z2 : Nat × Nat), h_2 p1 = some (.cells ⟨l3⟩ t2 z2) ∧ ((o1 + 3) + 1 ≤ l3.length ∧ z2.2 ≤ (o1 + 3)) ∧
 ∀ (h_3 : PHeap), h_3 = h_2.put p1 (.cells ⟨splice l3 (o1 + 3) [vI i1]⟩ t2 z2) →
 Q (vI 0) h_3)
theorem T79 {p1 : Nat} {o1 : Nat} {a1 : OA} {n1 : Nat} {k1 : Nat} {h : PHeap} {Q : Value → PHeap → Prop} (hR : R79 p1 o1 a1 n1 k1 h Q) : Tri Tryz.prog 79 [vP p1 o1, vL a1 n1 k1] h Q :=
 tri_of_dn mixed Tryz.func79 rfl (by kernel_rfl) low79 (rs := [.tmp 4]) (by kernel_rfl) rfl (Eq.mpr (by kernel_rfl : dnF Tryz.prog Tryz.f79.ntmps d79 [.tmp 4] [vP p1 o1, vL a1 n1 k1] h Q = R79 p1 o1 a1 n1 k1 h Q) hR)
abbrev o80_1 : Op := .call { callee := (.builtin .append), args := #[(.tmp 26), (.tmp 27)], argTypes := #[40, 40] }
noncomputable def d80 : DCode := up ⟨[(16, .l [qi, .str]), (17, .l [.ptr]), (20, .l [.slice]), (22, .l [.ptr]), (23, .l [.ptr]), (26, .l [.slice]), (28, .c (.one false [.slice])), (33, .l [.ptr]), (35, .l [.str]), (37, .c (.tup [(false, [qi]), (false, [qi])])), (45, .c (.tup []))], [7, 30], [(14, 40, [(13, qi)], [])]⟩ (low Tryz.prog (fun d => Nat.beq d 2 || Nat.beq d 7) (Tryz.f80.body.getD .skip))
theorem low80 : low Tryz.prog (fun d => Nat.beq d 2 || Nat.beq d 7) (Tryz.f80.body.getD .skip) = some (eC d80) := by kernel_rfl
def R80 (p1 : Nat) (o1 : Nat) (a1 : OA) (n1 : Nat) (k1 : Nat) (h : PHeap) (Q : Value → PHeap → Prop) : Prop :=
 ∀ (b1 : Nat), h b1 = none → ∀ (h_1 : PHeap), h_1 = h.put b1 (.cells ⟨[vP p1 o1]⟩ 68) →
 ∃ (I_1 : Nat → Int → PHeap → Prop), (∃ (m2 : Nat), I_1 m2 (0 : Int) h_1) ∧
 ∀ (m1 : Nat) (i1 : Int) (h_2 : PHeap), I_1 m1 i1 h_2 →
 br (decide (i1 < ((n1 : Nat) : Int)))
 (∃ (b2 o2 : Nat), a1 = some ⟨b2, o2, none⟩ ∧ (0 ≤ i1 ∧ i1 < n1) ∧
 ∃ (i2 : Int) (l1 : Bs), h_2.row b2 (o2 + (i1).toNat * 2) [vI i2, vS l1] ∧
 ∃ (p2 o3 : Nat), h_2.cell b1 0 = some (vP p2 o3) ∧
 ∃ (a2 : OA) (n2 k2 : Nat), h_2.cell p2 (o3 + 6) = some (vL a2 n2 k2) ∧
 ∀ (b3 : Nat), h_2 b3 = none → ∀ (h_3 : PHeap), h_3 = h_2.put b3 (.cells ⟨[vI 0]⟩ 3) →
 ∃ (l2 : List Value) (t1 : TypeId) (z1 : Nat × Nat), h_3 b3 = some (.cells ⟨l2⟩ t1 z1) ∧ (0 + 1 ≤ l2.length ∧ z1.2 ≤ 0) ∧
 ∀ (h_4 : PHeap), h_4 = h_3.put b3 (.cells ⟨splice l2 0 [vI ((n2 : Nat) : Int)]⟩ t1 z1) →
 ∃ (p3 o4 : Nat), h_4.cell b1 0 = some (vP p3 o4) ∧
 ∃ (p4 o5 : Nat), h_4.cell b1 0 = some (vP p4 o5) ∧
 ∃ (a3 : OA) (n3 k3 : Nat), h_4.cell p4 (o5 + 6) = some (vL a3 n3 k3) ∧
 ∀ (b4 : Nat), h_4 b4 = none → ∀ (h_5 : PHeap), h_5 = h_4.put b4 (.cells ⟨[vU 0, vU 0, vU 0, vU 0]⟩ 5) →
 (h_5.cell p4 (o5 + 6) = some (vL a3 n3 k3)) ∧
 (h_5.cell b1 0 = some (vP p4 o5)) ∧
 (h_5.cell b1 0 = some (vP p3 o4)) ∧
 Raw Tryz.prog (execOp (rho [(26, vL a3 n3 k3), (27, vL (ad b4 0) 4 4)]) (mkO o80_1 40)) h_5 fun v_1 h_6 =>
 ∃ (a4 : OA) (n4 k4 : Nat), v_1 = vL a4 n4 k4 ∧
 (h_6.cell b1 0 = some (vP p4 o5)) ∧
 (h_6.cell b1 0 = some (vP p3 o4)) ∧
 ∃ (l3 : List Value) (t2 : TypeId) (z2 : Nat × Nat), h_6 p3 = some (.cells ⟨l3⟩ t2 z2) ∧ ((o4 + 6) + 1 ≤ l3.length ∧ z2.2 ≤ (o4 + 6)) ∧
 ∀ (h_7 : PHeap), h_7 = h_6.put p3 (.cells ⟨splice l3 (o4 + 6) [vL a4 n4 k4]⟩ t2 z2) →
 ∃ (p5 o6 : Nat), h_7.cell b1 0 = some (vP p5 o6) ∧
 Tri Tryz.prog 110 [vP p5 o6, vS l1, vI (-2147483648), vI 4294967295, vF 112 [] [vP b1 0, vP b3 0]] h_7 fun v_2 h_8 =>
 ∃ (i3 i4 : Int), v_2 = vT [vI i3, vI i4] ∧
 br (i4 != 0)
 (Q (vI i4) h_8)
 (Tri Tryz.prog 112 [vI i3, vP b1 0, vP b3 0] h_8 fun v_3 h_9 =>
 v_3 = vT [] ∧
 ∃ (m3 : Nat), m3 < m1 ∧ I_1 m3 (IntKind.i64.wrap (i1 + 1)) h_9 ∧
 True))
 (Q (vI 0) h_2)
theorem T80 {p1 : Nat} {o1 : Nat} {a1 : OA} {n1 : Nat} {k1 : Nat} {h : PHeap} {Q : Value → PHeap → Prop} (hR : R80 p1 o1 a1 n1 k1 h Q) : Tri Tryz.prog 80 [vP p1 o1, vL a1 n1 k1] h Q :=
 tri_of_dn mixed Tryz.func80 rfl (by kernel_rfl) low80 (rs := [.tmp 4]) (by kernel_rfl) rfl (Eq.mpr (by kernel_rfl : dnF Tryz.prog Tryz.f80.ntmps d80 [.tmp 4] [vP p1 o1, vL a1 n1 k1] h Q = R80 p1 o1 a1 n1 k1 h Q) hR)
abbrev o81_4 : Op := .call { callee := (.builtin .append), args := #[(.tmp 28), (.tmp 31)], argTypes := #[40, 40] }
noncomputable def d81 : DCode := up ⟨[(14, .l [qi, .str]), (17, .l [.str]), (18, .c (.tup [(false, [qi]), (false, [qi])])), (28, .l [.slice]), (32, .c (.one false [.slice]))], [34], [(12, 29, [(11, qi)], [])]⟩ (low Tryz.prog (fun _ => false) (Tryz.f81.body.getD .skip))
theorem low81 : low Tryz.prog (fun _ => false) (Tryz.f81.body.getD .skip) = some (eC d81) := by kernel_rfl
def R81 (p1 : Nat) (o1 : Nat) (a1 : OA) (n1 : Nat) (k1 : Nat) (h : PHeap) (Q : Value → PHeap → Prop) : Prop :=
 ∃ (I_1 : Nat → Int → PHeap → Prop), (∃ (m2 : Nat), I_1 m2 (0 : Int) h) ∧
 ∀ (m1 : Nat) (i1 : Int) (h_1 : PHeap), I_1 m1 i1 h_1 →
 br (decide (i1 < ((n1 : Nat) : Int)))
 (∃ (b1 o2 : Nat), a1 = some ⟨b1, o2, none⟩ ∧ (0 ≤ i1 ∧ i1 < n1) ∧
 ∃ (i2 : Int) (l1 : Bs), h_1.row b1 (o2 + (i1).toNat * 2) [vI i2, vS l1] ∧
 Tri Tryz.prog 111 [vS l1, vI (-128), vI 255] h_1 fun v_1 h_2 =>
 ∃ (i3 i4 : Int), v_1 = vT [vI i3, vI i4] ∧
 br (i4 != 0)
 (Q (vI i4) h_2)
 (∃ (a2 : OA) (n2 k2 : Nat), h_2.cell p1 (o1 + 6) = some (vL a2 n2 k2) ∧
 ∀ (b2 : Nat), h_2 b2 = none → ∀ (h_3 : PHeap), h_3 = h_2.put b2 (.cells ⟨[vU (IntKind.u8.wrap (i3))]⟩ 5) →
 Raw Tryz.prog (execOp (rho [(28, vL a2 n2 k2), (31, vL (ad b2 0) 1 1)]) (mkO o81_4 40)) h_3 fun v_2 h_4 =>
 ∃ (a3 : OA) (n3 k3 : Nat), v_2 = vL a3 n3 k3 ∧
 ∃ (l2 : List Value) (t1 : TypeId) (z1 : Nat × Nat), h_4 p1 = some (.cells ⟨l2⟩ t1 z1) ∧ ((o1 + 6) + 1 ≤ l2.length ∧ z1.2 ≤ (o1 + 6)) ∧
 ∀ (h_5 : PHeap), h_5 = h_4.put p1 (.cells ⟨splice l2 (o1 + 6) [vL a3 n3 k3]⟩ t1 z1) →
 ∃ (m3 : Nat), m3 < m1 ∧ I_1 m3 (IntKind.i64.wrap (i1 + 1)) h_5 ∧
 True))
 (Q (vI 0) h_1)
theorem T81 {p1 : Nat} {o1 : Nat} {a1 : OA} {n1 : Nat} {k1 : Nat} {h : PHeap} {Q : Value → PHeap → Prop} (hR : R81 p1 o1 a1 n1 k1 h Q) : Tri Tryz.prog 81 [vP p1 o1, vL a1 n1 k1] h Q :=
 tri_of_dn mixed Tryz.func81 rfl (by kernel_rfl) low81 (rs := [.tmp 4]) (by kernel_rfl) rfl (Eq.mpr (by kernel_rfl : dnF Tryz.prog Tryz.f81.ntmps d81 [.tmp 4] [vP p1 o1, vL a1 n1 k1] h Q = R81 p1 o1 a1 n1 k1 h Q) hR)
abbrev o82_0 : Op := .call { callee := (.builtin .append), args := #[(.tmp 9), (.tmp 13)], argTypes := #[40, 9] }
noncomputable def d82 : DCode := up ⟨[(9, .l [.slice]), (13, .l [.str]), (14, .c (.one false [.slice]))], [16], []⟩ (low Tryz.prog (fun _ => false) (Tryz.f82.body.getD .skip))
theorem low82 : low Tryz.prog (fun _ => false) (Tryz.f82.body.getD .skip) = some (eC d82) := by kernel_rfl
def R82 (p1 : Nat) (o1 : Nat) (a1 : OA) (n1 : Nat) (k1 : Nat) (h : PHeap) (Q : Value → PHeap → Prop) : Prop :=
 ∃ (a2 : OA) (n2 k2 : Nat), h.cell p1 (o1 + 6) = some (vL a2 n2 k2) ∧
 ∃ (b1 o2 : Nat), a1 = some ⟨b1, o2, none⟩ ∧ (0 ≤ (0 : Int) ∧ (0 : Int) < n1) ∧
 ∃ (l1 : Bs), h.cell b1 (o2 + 1) = some (vS l1) ∧
 Raw Tryz.prog (execOp (rho [(9, vL a2 n2 k2), (13, vS l1)]) (mkO o82_0 40)) h fun v_1 h_1 =>
 ∃ (a3 : OA) (n3 k3 : Nat), v_1 = vL a3 n3 k3 ∧
 ∃ (l2 : List Value) (t1 : TypeId) (z1 : Nat × Nat), h_1 p1 = some (.cells ⟨l2⟩ t1 z1) ∧ ((o1 + 6) + 1 ≤ l2.length ∧ z1.2 ≤ (o1 + 6)) ∧
 ∀ (h_2 : PHeap), h_2 = h_1.put p1 (.cells ⟨splice l2 (o1 + 6) [vL a3 n3 k3]⟩ t1 z1) →
 Q (vI 0) h_2
theorem T82 {p1 : Nat} {o1 : Nat} {a1 : OA} {n1 : Nat} {k1 : Nat} {h : PHeap} {Q : Value → PHeap → Prop} (hR : R82 p1 o1 a1 n1 k1 h Q) : Tri Tryz.prog 82 [vP p1 o1, vL a1 n1 k1] h Q :=
 tri_of_dn mixed Tryz.func82 rfl (by kernel_rfl) low82 (rs := [.tmp 4]) (by kernel_rfl) rfl (Eq.mpr (by kernel_rfl : dnF Tryz.prog Tryz.f82.ntmps d82 [.tmp 4] [vP p1 o1, vL a1 n1 k1] h Q = R82 p1 o1 a1 n1 k1 h Q) hR)
abbrev o83_3 : Op := .call { callee := (.builtin .append), args := #[(.tmp 22), (.tmp 23)], argTypes := #[40, 3] }
noncomputable def d83 : DCode := up ⟨[(11, .l [.str]), (12, .c (.tup [(false, [qi]), (false, [qi])])), (22, .l [.slice]), (24, .c (.one false [.slice]))], [26], []⟩ (low Tryz.prog (fun _ => false) (Tryz.f83.body.getD .skip))
theorem low83 : low Tryz.prog (fun _ => false) (Tryz.f83.body.getD .skip) = some (eC d83) := by kernel_rfl
def R83 (p1 : Nat) (o1 : Nat) (a1 : OA) (n1 : Nat) (k1 : Nat) (h : PHeap) (Q : Value → PHeap → Prop) : Prop :=
 ∃ (b1 o2 : Nat), a1 = some ⟨b1, o2, none⟩ ∧ (0 ≤ (0 : Int) ∧ (0 : Int) < n1) ∧
 ∃ (l1 : Bs), h.cell b1 (o2 + 1) = some (vS l1) ∧
 Tri Tryz.prog 111 [vS l1, vI 0, vI 4096] h fun v_1 h_1 =>
 ∃ (i1 i2 : Int), v_1 = vT [vI i1, vI i2] ∧
 br (i2 != 0)
 (Q (vI i2) h_1)
 (∃ (a2 : OA) (n2 k2 : Nat), h_1.cell p1 (o1 + 6) = some (vL a2 n2 k2) ∧
 Raw Tryz.prog (execOp (rho [(22, vL a2 n2 k2), (23, vI i1)]) (mkO o83_3 40)) h_1 fun v_2 h_2 =>
 ∃ (a3 : OA) (n3 k3 : Nat), v_2 = vL a3 n3 k3 ∧
 ∃ (l2 : List Value) (t1 : TypeId) (z1 : Nat × Nat), h_2 p1 = some (.cells ⟨l2⟩ t1 z1) ∧ ((o1 + 6) + 1 ≤ l2.length ∧ z1.2 ≤ (o1 + 6)) ∧
 ∀ (h_3 : PHeap), h_3 = h_2.put p1 (.cells ⟨splice l2 (o1 + 6) [vL a3 n3 k3]⟩ t1 z1) →
 Q (vI 0) h_3)
theorem T83 {p1 : Nat} {o1 : Nat} {a1 : OA} {n1 : Nat} {k1 : Nat} {h : PHeap} {Q : Value → PHeap → Prop} (hR : R83 p1 o1 a1 n1 k1 h Q) : Tri Tryz.prog 83 [vP p1 o1, vL a1 n1 k1] h Q :=
 tri_of_dn mixed Tryz.func83 rfl (by kernel_rfl) low83 (rs := [.tmp 4]) (by kernel_rfl) rfl (Eq.mpr (by kernel_rfl : dnF Tryz.prog Tryz.f83.ntmps d83 [.tmp 4] [vP p1 o1, vL a1 n1 k1] h Q = R83 p1 o1 a1 n1 k1 h Q) hR)
end Go.Proofs.D
namespace Go.Proofs.D
open Go Go.Den Go.As
set_option maxRecDepth 100000
theorem u32_wrap (n : Int) : IntKind.u32.wrap n = n % 4294967296 := by
 simp [IntKind.wrap, IntKind.bits, IntKind.signed]
theorem u8_wrap (n : Int) : IntKind.u8.wrap n = n % 256 := by
 simp [IntKind.wrap, IntKind.bits, IntKind.signed]
attribute [local irreducible] IntKind.wrap Tri
section
variable {e k : Nat} {h0 h : PHeap} {a : OA} {n c : Nat} {css : List (List Value)}
theorem LM.open (hM : LM e k h0 h a n c css) (hn : 0 < n) : ∃ b rest, a = ad b 0 ∧ h b = some (.cells ⟨css.flatten ++ rest⟩ e (0, 0)) ∧ rest.length = (c - n) * k ∧ n ≤ c ∧ css.flatten.length = n * k := by
 rcases hM.row.2 with ⟨_, h1⟩ | ⟨b, cap, rest, h1, h2, h3, h4⟩
 · omega
 · injection h1 with h1 _ h5
   subst h5
   exact ⟨b, rest, h1, h2, h3, h4, hM.row.1⟩
theorem LM.write {b : Nat} {rest : List Value} {css' : List (List Value)} (hM : LM e k h0 h (ad b 0) n c css) (hb : h b = some (.cells ⟨css.flatten ++ rest⟩ e (0, 0))) (hr : rest.length = (c - n) * k) (hc : n ≤ c) (hn : 0 < n) (hl : css'.length = n) (each : ∀ cs ∈ css', cs.length = k) :
 LM e k h0 (h.put b (.cells ⟨css'.flatten ++ rest⟩ e (0, 0))) (ad b 0) n c css' := by
 have hf : css'.flatten.length = n * k := by
  rw [← hl]
  clear hl
  induction css' with
  | nil => simp
  | cons x l ih => rw [List.flatten_cons, List.length_append, ih fun y hy => each y (List.mem_cons_of_mem _ hy), each x (List.mem_cons_self ..), List.length_cons, Nat.add_mul]; omega
 refine ⟨fun q hq => ?_, hl, fun j cs hj => each cs (List.mem_of_getElem? hj), ⟨hf, .inr ⟨b, c, rest, rfl, put_same _ _ _, hr, hc⟩⟩, fun h => by omega⟩
 injection hq with hq; injection hq with hq; subst hq
 exact ⟨(hM.own b rfl).1, by rw [put_same]; exact fun e => by cases e⟩
theorem raw_copy {t elem ty : TypeId} {b o dl dc s sc : Nat} {cur cs : List Value} {et : TypeId} {ρ : Operand → Value} {cl : Call} {x y : Operand} (hcl : cl.callee = .builtin .copy) (hca : cl.args = #[x, y]) (hts : cl.argTypes = #[t, t])
 (hu : Tryz.prog.underlying t = some (.slice elem)) (hsz : (Tryz.prog.info? elem).map (·.size) = some 1) (hx : ρ x = vL (ad b o) dl dc) (hy : ρ y = vL (ad s 0) cs.length sc) (hb : h b = some (.cells ⟨cur⟩ et (0, 0))) (hs : h.row s 0 cs) (hn : cs.length ≤ dl) (hfit : o + cs.length ≤ cur.length)
 (h1 : allOne cs = true) : Raw Tryz.prog (execOp ρ (mkO (.call cl) ty)) h fun v h' => v = vI (cs.length : Int) ∧ h' = h.put b (.cells ⟨splice cur o cs⟩ et (0, 0)) := by
 intro w hsub
 have hrun := run_copy_row (P := Tryz.prog) w t t ty elem b o dl dc ⟨s, 0, none⟩ cs.length sc ⟨cur⟩ et cs hu hsz (hsub _ _ hb) (Nat.min_eq_left hn).symm (fun j v hj => hsub.row hs j v hj) (by simpa using hfit) (allOne_mem h1)
 have hexec : (execOp ρ (mkO (.call cl) ty)).run Tryz.prog w = ((Builtin.copy_ #[t, t] ty #[vL (ad b o) dl dc, vL (ad s 0) cs.length sc]).run Tryz.prog w).andThen fun v w' => .ok (.value v) w' := by
  simp [execOp, mkO, resolve, hcl, hca, hts, hx, hy, invoke, builtin]
 rw [hexec, hrun]
 refine ⟨_, _, _, h.put b (.cells ⟨splice cur o cs⟩ et (0, 0)), rfl, .inl rfl, ⟨rfl, rfl⟩, ?_, ?_⟩
 · intro k o' hk
   simp only [PHeap.put] at hk
   split at hk
   · rename_i e1; subst e1; cases hk
     exact setRow_heap _ _ _ _ _ _ (hsub _ _ hb)
   · rename_i e1
     rw [setRow_other _ _ _ _ e1]; exact hsub _ _ hk
 · refine ⟨rfl, rfl, rfl, by rw [size_setRow]; exact Nat.le_refl _, fun k hk hn => ?_⟩
   have : k ≠ b := fun e => by subst e; rw [hb] at hn; cases hn
   exact ⟨by simp only [PHeap.put]; rw [if_neg this]; exact hn, setRow_other _ _ _ _ this⟩
end
theorem flatten_modify (k : Nat) : ∀ (css : List (List Value)) (j i : Nat) (v : Value) (rest : List Value), (∀ cs ∈ css, cs.length = k) → j < css.length → i < k → splice (css.flatten ++ rest) (j * k + i) [v] = (css.modify j fun cs => splice cs i [v]).flatten ++ rest
 | [], j, _, _, _, _, hj, _ => by simp at hj
 | c :: css, 0, i, v, rest, hl, _, hi => by
   have hc := hl c (List.mem_cons_self ..)
   rw [Nat.zero_mul, Nat.zero_add, List.modify_zero_cons, List.flatten_cons, List.flatten_cons]
   simp only [splice, List.length_cons, List.length_nil]
   rw [List.append_assoc c css.flatten rest, List.take_append_of_le_length (by omega), List.drop_append_of_le_length (by omega)]
   simp
 | c :: css, j + 1, i, v, rest, hl, hj, hi => by
   have hc := hl c (List.mem_cons_self ..)
   have ih := flatten_modify k css j i v rest (fun x hx => hl x (List.mem_cons_of_mem _ hx)) (by simpa using hj) hi
   rw [List.modify_succ_cons, List.flatten_cons, List.flatten_cons, List.append_assoc c css.flatten rest, List.append_assoc c, ← ih]
   simp only [splice, List.length_cons, List.length_nil]
   have e1 : (j + 1) * k + i = c.length + (j * k + i) := by rw [hc, Nat.add_mul]; omega
   rw [e1, List.take_append, List.take_of_length_le (by omega), Nat.add_sub_cancel_left, show c.length + (j * k + i) + (0 + 1) = c.length + (j * k + i + (0 + 1)) by omega, List.drop_append, List.drop_of_length_le (by omega), Nat.add_sub_cancel_left]
   simp
theorem inL_setC : ∀ (l : List Ins) (j : Nat) (n : Int), (inL l).modify j (fun cs => splice cs 3 [vI n]) = inL (setC l j n)
 | [], j, n => by cases j <;> rfl
 | x :: l, 0, n => rfl
 | x :: l, j + 1, n => by
   have := inL_setC l j n
   unfold inL setC at *
   rw [List.map_cons, List.modify_succ_cons, List.modify_succ_cons, List.map_cons, this]
theorem decB_range {d : Bytes} {m : Nat} (h : decB d = some m) : m < 10000000000 := by
 unfold decB at h
 split at h
 · cases h
 · rename_i hc
   injection h with h
   subst h
   have h2 : d.all digitB = true := by
    cases e : d.all digitB with
    | true => rfl
    | false => exact absurd (.inr (.inr e)) hc
   rw [← numV_dec h2]
   exact numV_lt10 h2 (by omega)
theorem number_range {t : Bytes} {n : Int} (h : numberS t = some n) : -10000000000 < n ∧ n < 10000000000 := by
 unfold numberS at h
 split at h
 · rename_i d
   split at h
   · cases h
   · rename_i hc
     injection h with h
     have h2 : d.all hexB = true := by
      cases e : d.all hexB with
      | true => rfl
      | false => exact absurd (.inr (.inr e)) hc
     have := numV_lt16 h2 (by omega)
     rw [numV_hex] at this
     omega
 · rename_i d
   cases hd : decB d with
   | none => rw [hd] at h; cases h
   | some m =>
     rw [hd] at h
     have := decB_range hd
     have h : -(m : Int) = n := by simpa using h
     omega
 · rename_i d _ _
   cases hd : decB t with
   | none => rw [hd] at h; cases h
   | some m =>
     rw [hd] at h
     have := decB_range hd
     have h : (m : Int) = n := by simpa using h
     omega
section
variable (h : PHeap)
def litV (r : As.R Int) : Value := match r with
 | .error e => vT [vI 0, vI (e : Int)]
 | .ok n => vT [vI n, vI 0]
theorem literal_t (t : Bytes) (low high : Int) (hl : t.length ≤ 1000000) : Tri Tryz.prog 111 [vS t, vI low, vI high] h fun v h' => v = litV (literalS t low high) ∧ Ext h h' := by
 refine T111 ?_
 unfold R111
 refine Tri.mono (number_t h t hl) ?_
 rintro _ h1 ⟨rfl, hx⟩
 unfold numVal literalS
 cases numberS t with
 | none => exact ⟨_, _, rfl, br_pos rfl ⟨rfl, hx⟩⟩
 | some n =>
   refine ⟨_, _, rfl, br_neg rfl (br_split (fun e => ⟨?_, hx⟩) fun e1 => br_split (fun e => ⟨?_, hx⟩) fun e2 => ⟨?_, hx⟩)⟩
   · have := of_decide_eq_true e
     simp only; rw [if_pos (.inl this)]; rfl
   · have := of_decide_eq_true e
     simp only; rw [if_pos (.inr this)]; rfl
   · have := of_decide_eq_false e1
     have := of_decide_eq_false e2
     simp only; rw [if_neg (by omega)]; rfl
theorem und72 : Tryz.prog.underlying 72 = some (.slice 78) := rfl
theorem elem78 : ElemT 78 2 := ⟨_, _, rfl, rfl, rfl, rfl, by decide⟩
theorem und22 : Tryz.prog.underlying 22 = some (.slice 58) := rfl
theorem elem58 : ElemT 58 4 := ⟨_, _, rfl, rfl, rfl, rfl, by decide⟩
def ValP (hb : PHeap) (p mS : Nat) (a : As.St) (r : As.R (Int × List Us)) (v : Value) (h' : PHeap) : Prop :=
 match r with
 | .error e => v = vT [vI 0, vI (e : Int)] ∧ e ≠ 0 ∧ ∃ hb', Ext hb hb' ∧ AS hb' h' p mS a
 | .ok (n, us) => v = vT [vI n, vI 0] ∧ ∃ hb', Ext hb hb' ∧ AS hb' h' p mS { a with uses := a.uses ++ us }
theorem value_t {hb : PHeap} {p mS : Nat} {a : As.St} {h : PHeap} {t : Bytes} {low high : Int} {kind idx f : Nat} {y : List Value} (hA : AS hb h p mS a) (hl : t.length ≤ 1000000) (hU : a.uses.length ≤ 8000000) (hP : PutAt hb p kind idx f y) (lowR highR : Int)
 (hlow : low = (if kind = 2 then -4611686018427387904 else lowR)) (hhigh : high = (if kind = 2 then 4611686018427387904 else highR)) (h2 : kind = 2 → lowR = -9999999999 ∧ highR = 9999999999) :
 Tri Tryz.prog 110 [vP p 0, vS t, vI low, vI high, vF f [] y] h fun v h' => ValP hb p mS a (valueS a.line t kind idx lowR highR) v h' := by
 refine T110 ?_
 unfold R110
 intro b1 hb1 h1 hh1 b2 hb2 h2' hh2 b3 hb3 h3 hh3 b4 hb4 h4 hh4 b5 hb5 h5 hh5
 have x1 := Put.ext hh1 hb1
 have x2 := Put.ext hh2 hb2
 have x3 := Put.ext hh3 hb3
 have x4 := Put.ext hh4 hb4
 have x5 := Put.ext hh5 hb5
 have x25 := ((x2.trans x3).trans x4).trans x5
 have hc1 : h5 b1 = some (.cells ⟨[vP p 0]⟩ 68 (0, 0)) := x25 _ _ (Put.at hh1)
 have hc2 : h5 b2 = some (.cells ⟨[vS t]⟩ 9 (0, 0)) := ((x3.trans x4).trans x5) _ _ (Put.at hh2)
 have hc3 : h5 b3 = some (.cells ⟨[vI low]⟩ 3 (0, 0)) := (x4.trans x5) _ _ (Put.at hh3)
 have hc4 : h5 b4 = some (.cells ⟨[vI high]⟩ 3 (0, 0)) := x5 _ _ (Put.at hh4)
 have hc5 : h5 b5 = some (.cells ⟨[vF f [] y]⟩ 150 (0, 0)) := Put.at hh5
 have hx5 := x1.trans x25
 have n1 : h b1 = none := hb1
 have n2 : h b2 = none := x1.dom _ hb2
 have n3 : h b3 = none := (x1.trans x2).dom _ hb3
 have n4 : h b4 = none := ((x1.trans x2).trans x3).dom _ hb4
 have n5 : h b5 = none := (((x1.trans x2).trans x3).trans x4).dom _ hb5
 clear hh1 hh2 hh3 hh4 hh5 x1 x2 x3 x4 x5 x25 hb1 hb2 hb3 hb4 hb5 h1 h2' h3 h4
 refine ⟨_, cell_of hc2 0, ?_⟩
 refine Tri.mono (number_t h5 t hl) ?_
 rintro _ h6 ⟨rfl, hx6⟩
 have c1 : h6.cell b1 0 = some (vP p 0) := cell_of (hx6 _ _ hc1) 0
 have c2 : h6.cell b2 0 = some (vS t) := cell_of (hx6 _ _ hc2) 0
 have c3 : h6.cell b3 0 = some (vI low) := cell_of (hx6 _ _ hc3) 0
 have c4 : h6.cell b4 0 = some (vI high) := cell_of (hx6 _ _ hc4) 0
 unfold numVal
 cases hnum : numberS t with
 | some n =>
   have hn := number_range hnum
   refine ⟨_, _, rfl, br_pos rfl ⟨_, c3, ?_⟩⟩
   have hA6 := hA.grow (hx5.trans hx6)
   have hval : valueS a.line t kind idx lowR highR = if n < lowR ∨ highR < n then .error 2 else .ok (n, []) := by unfold valueS; rw [hnum]
   have err : (n < lowR ∨ highR < n) → ValP hb p mS a (valueS a.line t kind idx lowR highR) (vT [vI 0, vI 2]) h6 := fun hc => by
    rw [hval, if_pos hc]
    exact ⟨rfl, by decide, hb, Ext.refl _, hA6⟩
   refine br_split (fun e => err (.inl ?_)) fun e1 => ⟨_, c4, br_split (fun e => err (.inr ?_)) fun e2 => ?_⟩
   · have := of_decide_eq_true e
     rw [hlow] at this
     split at this
     · omega
     · exact this
   · have := of_decide_eq_true e
     rw [hhigh] at this
     split at this
     · omega
     · exact this
   · have g1 := of_decide_eq_false e1
     have g2 := of_decide_eq_false e2
     have : ¬ (n < lowR ∨ highR < n) := by
      by_cases hk : kind = 2
      · have := h2 hk; omega
      · rw [hlow, if_neg hk] at g1
        rw [hhigh, if_neg hk] at g2
        omega
     rw [hval, if_neg this]
     refine ⟨rfl, hb, Ext.refl _, ?_⟩
     simp only [List.append_nil]
     exact hA6
 | none =>
   refine ⟨_, _, rfl, br_neg rfl ⟨_, c2, ?_⟩⟩
   refine Tri.mono (label_t h6 t) ?_
   rintro _ h6 ⟨rfl, rfl⟩
   refine ⟨_, rfl, br_split (fun e => ?_) fun e => ?_⟩
   · rw [show valueS a.line t kind idx lowR highR = .error 3 by unfold valueS; rw [hnum]; simp only; rw [if_neg (by rw [not_f e]; decide)]]
     exact ⟨rfl, by decide, hb, Ext.refl _, hA.grow (hx5.trans hx6)⟩
   · have hval : valueS a.line t kind idx lowR highR = .ok (0, [⟨a.line, kind, idx, lowR, highR, t⟩]) := by unfold valueS; rw [hnum]; simp only; rw [if_pos (not_t e)]
     obtain ⟨hb', hbx, hA', hin⟩ := hA.rebase (hx5.trans hx6)
     have d1 := hin b1 _ n1 (hx6 _ _ hc1)
     have d2 := hin b2 _ n2 (hx6 _ _ hc2)
     have d3 := hin b3 _ n3 (hx6 _ _ hc3)
     have d4 := hin b4 _ n4 (hx6 _ _ hc4)
     have d5 := hin b5 _ n5 (hx6 _ _ hc5)
     obtain ⟨K, hK⟩ := hA'
     have p12 : h6.cell p 12 = some (vL K.ua a.uses.length K.uc) := by rw [PA_cell hK.obj]; rfl
     have p11 : h6.cell p 11 = some (vI (a.line : Int)) := by rw [PA_cell hK.obj]; rfl
     refine ⟨_, _, c1, _, _, c1, _, _, _, (by rw [Nat.zero_add]; exact p12), _, _, c1, _, (by rw [Nat.zero_add]; exact p11), ?_⟩
     intro b6 hb6 h8 hh8
     have x8 := Put.ext hh8 hb6
     have hK8 := hK.grow x8
     refine ⟨by rw [Nat.zero_add]; exact cell_ext (fun ob => x8 p ob) p11, cell_ext (fun ob => x8 b1 ob) c1, by rw [Nat.zero_add]; exact cell_ext (fun ob => x8 p ob) p12, cell_ext (fun ob => x8 b1 ob) c1, cell_ext (fun ob => x8 b1 ob) c1, ?_⟩
     refine Raw.mono (LM.push und72 elem78 rfl rfl rfl rfl rfl hK.ext hK.uses hb6 hh8 rfl rfl (by omega)) ?_
     rintro _ h9 ⟨b7, cap, rfl, hx9, hM9, hg⟩
     have hp9 : h9 p = h8 p := hg.ne (hK8.uses) hK8.obj (notE_cells (by decide) _ _)
     have p11' : h9.cell p 11 = some (vI (a.line : Int)) := by rw [cell_eq hp9]; exact cell_ext (fun ob => x8 p ob) p11
     have c1' : h9.cell b1 0 = some (vP p 0) := cell_ext (fun ob hob => hx9 _ _ (by rw [d1]; rw [hx6 _ _ hc1] at hob; exact hob)) c1
     refine ⟨_, _, _, rfl, by rw [Nat.zero_add]; exact p11', c1', c1', c1', _, _, _, by rw [hp9]; exact hK8.obj, ⟨by simp, Nat.zero_le _⟩, ?_⟩
     rintro h10 rfl
     rw [hval]
     refine ⟨rfl, hb', hbx, ?_⟩
     have hU8 : UsesAt hb' p (a.uses ++ [⟨a.line, kind, idx, lowR, highR, t⟩]) (K.ul ++ [[vI (a.line : Int), vF 142 [] [vP b1 0, vP b2 0, vP b3 0, vP b4 0, vP b5 0]]]) := by
      refine hK.useAt.snoc ⟨b1, b2, b3, b4, b5, f, y, rfl, cell_of d1 0, cell_of d2 0, ?_, ?_, cell_of d5 0, hP.ext hbx⟩
      · rw [cell_of d3 0]; unfold lowM; rw [hlow]; rfl
      · rw [cell_of d4 0]; unfold highM; rw [hhigh]; rfl
     have hne78 : NotE 78 (PA mS K.ca a.p.code.length K.cc a.p.zero a.p.entry K.da a.p.data.length K.dc a.inData a.hasEntry a.hasZero K.mb a.line K.ua a.uses.length K.uc) := notE_cells (by decide) _ _
     have hmb : K.mb ≠ p := fun e => by
      have := hK.labs
      rw [e, hK.obj] at this; cases this
     have hobj9 : h9 p = some (PA mS K.ca a.p.code.length K.cc a.p.zero a.p.entry K.da a.p.data.length K.dc a.inData a.hasEntry a.hasZero K.mb a.line K.ua a.uses.length K.uc) := by rw [hp9]; exact hK8.obj
     refine ⟨⟨K.ca, K.cc, K.da, K.dc, ad b7 0, cap, K.mb, K.ul ++ [[vI (a.line : Int), vF 142 [] [vP b1 0, vP b2 0, vP b3 0, vP b4 0, vP b5 0]]]⟩, ?_⟩
     refine ⟨fun q o hq => ?_, hK.new, ?_, ?_, ?_, ?_, hU8, hK.mnew, ?_⟩
     · rw [put_ne fun e => by subst e; rw [hK.new] at hq; cases hq]; exact hx9 _ _ hq
     · rw [put_same]; simp [PA, splice]
     · exact (hK8.code.other hK8.uses (by decide) hg).put hobj9 (notE_cells (by decide) _ _)
     · exact (hK8.data.other hK8.uses (by decide) hg).put hobj9 (notE_cells (by decide) _ _)
     · have := hM9.put (o' := PA mS K.ca a.p.code.length K.cc a.p.zero a.p.entry K.da a.p.data.length K.dc a.inData a.hasEntry a.hasZero K.mb a.line (ad b7 0) (a.uses.length + 1) cap) hobj9 hne78
       simp only [List.length_append, List.length_cons, List.length_nil]
       exact this
     · rw [put_ne hmb, hg.ne hK8.uses hK8.labs (notE_map _ _)]; exact hK8.labs
end
end Go.Proofs.D
namespace Go.Proofs.D
open Go Go.Den Go.As
set_option maxRecDepth 100000
theorem word_bytes (n : Int) : [IntKind.u8.wrap (IntKind.u32.wrap n), IntKind.u8.wrap (Int.fdiv (IntKind.u32.wrap n) 256), IntKind.u8.wrap (Int.fdiv (IntKind.u32.wrap n) 65536), IntKind.u8.wrap (Int.fdiv (IntKind.u32.wrap n) 16777216)] = (wordOf n).map fun c => (c.toNat : Int) := by
 have h0 : 0 ≤ n % 4294967296 := Int.emod_nonneg _ (by decide)
 unfold wordOf
 simp only [u8_wrap, u32_wrap, List.map_cons, List.map_nil, UInt8.toNat_ofNat']
 have hd : ∀ k : Int, 0 ≤ k → Int.fdiv (n % 4294967296) k = (n % 4294967296) / k := fun k hk => Int.fdiv_eq_ediv_of_nonneg _ hk
 rw [hd 256 (by decide), hd 65536 (by decide), hd 16777216 (by decide)]
 refine congr (congrArg List.cons ?_) (congr (congrArg List.cons ?_) (congr (congrArg List.cons ?_) (congrArg (fun x => [x]) ?_))) <;> omega
attribute [local irreducible] IntKind.wrap Tri
section
variable {hb h : PHeap} {p mS : Nat} {a : As.St} {K : AK}
theorem notP (e : Nat) (he : 74 ≠ e) {ca : OA} {cn cc : Nat} {zero entry : Int} {da : OA} {dn dc : Nat} {ind he' hz : Bool} {mb : Nat} {line : Int} {ua : OA} {un uc : Nat} : NotE e (PA mS ca cn cc zero entry da dn dc ind he' hz mb line ua un uc) := notE_cells he _ _
theorem ASK.mbp (hA : ASK hb h p mS a K) : K.mb ≠ p := fun e => by
 have := hA.labs
 rw [e, hA.obj] at this; cases this
theorem ASK.appData {h9 : PHeap} {b m cap : Nat} {l : Bytes} {o : Obj} (hA : ASK hb h p mS a K) (hm : l.length = m) (hx9 : Ext hb h9) (hM9 : LM 5 1 hb h9 (ad b 0) (a.p.data.length + m) cap (bL a.p.data ++ bL l)) (hg : Grows K.da h h9 b)
 (ho : o = PA mS K.ca a.p.code.length K.cc a.p.zero a.p.entry (ad b 0) (a.p.data.length + m) cap a.inData a.hasEntry a.hasZero K.mb a.line K.ua a.uses.length K.uc) :
 h9 p = h p ∧ ASK hb (h9.put p o) p mS { a with p := { a.p with data := a.p.data ++ l } } { K with da := ad b 0, dc := cap } := by
 subst ho; subst hm
 have hp9 : h9 p = h p := hg.ne hA.data hA.obj (notP 5 (by decide))
 have hobj9 : h9 p = some (PA mS K.ca a.p.code.length K.cc a.p.zero a.p.entry K.da a.p.data.length K.dc a.inData a.hasEntry a.hasZero K.mb a.line K.ua a.uses.length K.uc) := by rw [hp9]; exact hA.obj
 refine ⟨hp9, fun q o hq => ?_, hA.new, ?_, ?_, ?_, ?_, hA.useAt, hA.mnew, ?_⟩
 · rw [put_ne fun e => by subst e; rw [hA.new] at hq; cases hq]; exact hx9 _ _ hq
 · rw [put_same]; simp
 · exact (hA.code.other hA.data (by decide) hg).put hobj9 (notP 58 (by decide))
 · simp only [List.length_append]
   rw [bL_app]
   exact hM9.put hobj9 (notP 5 (by decide))
 · exact (hA.uses.other hA.data (by decide) hg).put hobj9 (notP 78 (by decide))
 · rw [put_ne hA.mbp, hg.ne hA.data hA.labs (notE_map _ _)]; exact hA.labs
theorem ASK.appCode {h9 : PHeap} {b cap : Nat} {x : Ins} {o : Obj} (hA : ASK hb h p mS a K) (hx9 : Ext hb h9) (hM9 : LM 58 4 hb h9 (ad b 0) (a.p.code.length + 1) cap (inL a.p.code ++ [insC x])) (hg : Grows K.ca h h9 b)
 (ho : o = PA mS (ad b 0) (a.p.code.length + 1) cap a.p.zero a.p.entry K.da a.p.data.length K.dc a.inData a.hasEntry a.hasZero K.mb a.line K.ua a.uses.length K.uc) :
 h9 p = h p ∧ ASK hb (h9.put p o) p mS { a with p := { a.p with code := a.p.code ++ [x] } } { K with ca := ad b 0, cc := cap } := by
 subst ho
 have hp9 : h9 p = h p := hg.ne hA.code hA.obj (notP 58 (by decide))
 have hobj9 : h9 p = some (PA mS K.ca a.p.code.length K.cc a.p.zero a.p.entry K.da a.p.data.length K.dc a.inData a.hasEntry a.hasZero K.mb a.line K.ua a.uses.length K.uc) := by rw [hp9]; exact hA.obj
 refine ⟨hp9, fun q o hq => ?_, hA.new, ?_, ?_, ?_, ?_, hA.useAt, hA.mnew, ?_⟩
 · rw [put_ne fun e => by subst e; rw [hA.new] at hq; cases hq]; exact hx9 _ _ hq
 · rw [put_same]; simp
 · have e : inL (a.p.code ++ [x]) = inL a.p.code ++ [insC x] := by simp [inL]
   simp only [List.length_append, List.length_cons, List.length_nil]
   rw [e]
   exact hM9.put hobj9 (notP 58 (by decide))
 · exact (hA.data.other hA.code (by decide) hg).put hobj9 (notP 5 (by decide))
 · exact (hA.uses.other hA.code (by decide) hg).put hobj9 (notP 78 (by decide))
 · rw [put_ne hA.mbp, hg.ne hA.code hA.labs (notE_map _ _)]; exact hA.labs
theorem put109_k {c : Nat} {n : Int} (hA : ASK hb h p mS a K) (hc : hb.cell c 0 = some (vP p 0)) : Tri Tryz.prog 109 [vI n, vP c 0] h fun v h' => v = vT [] ∧ ASK hb h' p mS { a with p := { a.p with entry := n } } K := by
 refine T109 ?_
 unfold R109
 refine ⟨_, _, cell_ext (fun ob => hA.ext c ob) hc, _, _, _, hA.obj, ⟨by simp, Nat.zero_le _⟩, ?_⟩
 rintro _ rfl
 exact ⟨rfl, hA.set (a' := { a with p := { a.p with entry := n } }) rfl rfl rfl rfl rfl⟩
theorem put115_k {c d idx : Nat} {n : Int} (hA : ASK hb h p mS a K) (hc : hb.cell c 0 = some (vP p 0)) (hd : hb.cell d 0 = some (vI (idx : Int))) (hi : idx < a.p.code.length) :
 Tri Tryz.prog 115 [vI n, vP c 0, vP d 0] h fun v h' => v = vT [] ∧ ASK hb h' p mS { a with p := { a.p with code := setC a.p.code idx n } } K := by
 obtain ⟨b, rest, hca, hbk, hr, hcc, hfl⟩ := hA.code.open (by omega)
 refine T115 ?_
 unfold R115
 refine ⟨_, _, cell_ext (fun ob => hA.ext c ob) hc, _, _, _, (by rw [PA_cell hA.obj]; rfl), _, cell_ext (fun ob => hA.ext d ob) hd, b, 0, hca, ⟨by omega, by omega⟩, _, _, _, hbk, ⟨?_, Nat.zero_le _⟩, ?_⟩
 · rw [Int.toNat_natCast, List.length_append, hfl]
   have : (idx + 1) * 4 ≤ a.p.code.length * 4 := Nat.mul_le_mul_right _ hi
   omega
 rintro _ rfl
 have hM := hA.code
 have each : ∀ cs ∈ inL a.p.code, cs.length = 4 := fun cs hcs => by obtain ⟨x, _, rfl⟩ := List.mem_map.1 hcs; rfl
 have hsp := flatten_modify 4 (inL a.p.code) idx 3 (vI n) rest each (by simpa [inL] using hi) (by decide)
 rw [Int.toNat_natCast, Nat.zero_add, hsp, inL_setC]
 have hl2 : (setC a.p.code idx n).length = a.p.code.length := by simp [setC]
 have hM2 : LM 58 4 hb (h.put b (.cells ⟨(inL (setC a.p.code idx n)).flatten ++ rest⟩ 58 (0, 0))) K.ca a.p.code.length K.cc (inL (setC a.p.code idx n)) := by
  rw [hca] at hM ⊢
  exact hM.write hbk hr hcc (by omega) (by rw [inL, List.length_map, hl2]) (fun cs hcs => by obtain ⟨x, _, rfl⟩ := List.mem_map.1 hcs; rfl)
 have hbp : b ≠ p := hM.ne hA.obj (notP 58 (by decide)) b hca
 have hbm : b ≠ K.mb := hM.ne hA.labs (notE_map _ _) b hca
 refine ⟨rfl, fun q o hq => ?_, hA.new, ?_, ?_, ?_, ?_, hA.useAt, hA.mnew, ?_⟩
 · rw [put_ne fun e => by subst e; rw [(hM.own q hca).1] at hq; cases hq]; exact hA.ext _ _ hq
 · rw [put_ne (Ne.symm hbp)]; simp only [hl2]; exact hA.obj
 · simp only [hl2]; exact hM2
 · exact hA.data.put hbk (notE_cells (by decide) _ _)
 · exact hA.uses.put hbk (notE_cells (by decide) _ _)
 · rw [put_ne (Ne.symm hbm)]; exact hA.labs
theorem unsigned_t (n : Int) : Tri Tryz.prog 113 [vI n] h fun v h' => v = .int .u32 (IntKind.u32.wrap n) ∧ h' = h := by
 refine T113 ?_
 unfold R113
 exact ⟨rfl, rfl⟩
theorem vU_word (n : Int) : [vU (IntKind.u8.wrap (IntKind.u32.wrap n)), vU (IntKind.u8.wrap (Int.fdiv (IntKind.u32.wrap n) 256)), vU (IntKind.u8.wrap (Int.fdiv (IntKind.u32.wrap n) 65536)), vU (IntKind.u8.wrap (Int.fdiv (IntKind.u32.wrap n) 16777216))] = (wordOf n).map byteV := by
 have := congrArg (List.map vU) (word_bytes n)
 rw [List.map_map] at this
 exact this
theorem wordOf_len (n : Int) : (wordOf n).length = 4 := rfl
theorem put112_k {c d idx : Nat} {n : Int} (hA : ASK hb h p mS a K) (hc : hb.cell c 0 = some (vP p 0)) (hd : hb.cell d 0 = some (vI (idx : Int))) (hi : idx + 4 ≤ a.p.data.length) :
 Tri Tryz.prog 112 [vI n, vP c 0, vP d 0] h fun v h' => v = vT [] ∧ ASK hb h' p mS { a with p := { a.p with data := putW a.p.data idx n } } K := by
 obtain ⟨b, rest, hda, hbk, hr, hcc, hfl⟩ := hA.data.open (by omega)
 have hM := hA.data
 refine T112 ?_
 unfold R112
 refine Tri.mono (unsigned_t n) ?_
 rintro _ h ⟨rfl, rfl⟩
 refine ⟨_, rfl, _, _, cell_ext (fun ob => hA.ext c ob) hc, _, _, _, (by rw [PA_cell hA.obj]; rfl), _, cell_ext (fun ob => hA.ext d ob) hd, ⟨.inl ⟨b, 0, hda⟩, by omega, by omega, by omega⟩, ?_⟩
 intro a2 hs2 b1 hb1 h2 hh2
 have x2 := Put.ext hh2 hb1
 have hA2 := hA.grow x2
 obtain ⟨o', ha2, ho'⟩ := hs2.1 b 0 hda
 have ho' := ho' (.inl (by omega))
 rw [Int.toNat_natCast, Nat.zero_add, Nat.mul_one] at ho'
 have ho' := ho'.symm
 subst ho'
 rw [vU_word] at hh2
 refine ⟨cell_ext (fun ob => x2 d ob) (cell_ext (fun ob => hA.ext d ob) hd), (by rw [PA_cell hA2.obj]; rfl), cell_ext (fun ob => x2 c ob) (cell_ext (fun ob => hA.ext c ob) hc), ?_⟩
 have hbk2 := x2 _ _ hbk
 refine Raw.mono (raw_copy (dl := ((a.p.data.length : Int).toNat - ((idx : Nat) : Int).toNat)) (dc := K.dc - ((idx : Nat) : Int).toNat) (sc := 4) (b := b) (o := ((idx : Nat) : Int).toNat) (s := b1) (cs := (wordOf n).map byteV) rfl rfl rfl und40 rfl (by rw [ha2]; rfl) rfl hbk2 (row_lit (Put.at hh2) fun j v hj => by rw [Nat.zero_add]; exact hj) (by simp [wordOf_len]; omega) (by simp [wordOf_len, hfl]; omega) rfl) ?_
 rintro _ h3 ⟨rfl, rfl⟩
 have hM2 := hA2.data
 have hl2 : (putW a.p.data idx n).length = a.p.data.length := by simp [putW, wordOf_len]; omega
 have hcur : splice ((bL a.p.data).flatten ++ rest) ((idx : Nat) : Int).toNat ((wordOf n).map byteV) = (bL (putW a.p.data idx n)).flatten ++ rest := by
  rw [bL_flat, bL_flat, Int.toNat_natCast]
  unfold splice putW
  simp only [List.length_map, wordOf_len]
  rw [List.take_append_of_le_length (by simp; omega), List.drop_append_of_le_length (by simp; omega)]
  simp
 rw [hcur]
 have hM3 : LM 5 1 hb (h2.put b (.cells ⟨(bL (putW a.p.data idx n)).flatten ++ rest⟩ 5 (0, 0))) K.da a.p.data.length K.dc (bL (putW a.p.data idx n)) := by
  rw [hda] at hM2 ⊢
  exact hM2.write hbk2 hr hcc (by omega) (by rw [bL, List.length_map, hl2]) (fun cs hcs => by obtain ⟨x, _, rfl⟩ := List.mem_map.1 hcs; rfl)
 have hbp : b ≠ p := hM2.ne hA2.obj (notP 5 (by decide)) b hda
 have hbm : b ≠ K.mb := hM2.ne hA2.labs (notE_map _ _) b hda
 have hE : Ext hb (h2.put b (.cells ⟨(bL (putW a.p.data idx n)).flatten ++ rest⟩ 5 (0, 0))) := fun q o hq => by
  rw [put_ne fun e => by subst e; rw [(hM2.own q hda).1] at hq; cases hq]; exact hA2.ext _ _ hq
 have hobj3 : (h2.put b (.cells ⟨(bL (putW a.p.data idx n)).flatten ++ rest⟩ 5 (0, 0))) p = some (PA mS K.ca a.p.code.length K.cc a.p.zero a.p.entry K.da a.p.data.length K.dc a.inData a.hasEntry a.hasZero K.mb a.line K.ua a.uses.length K.uc) := by
  rw [put_ne (Ne.symm hbp)]; exact hA2.obj
 refine ⟨_, rfl, cell_ext (fun ob => hE d ob) hd, (by rw [PA_cell hobj3]; rfl), cell_ext (fun ob => hE c ob) hc, rfl, hE, hA.new, ?_, ?_, ?_, ?_, hA.useAt, hA.mnew, ?_⟩
 · simp only [hl2]; exact hobj3
 · exact hA2.code.put hbk2 (notE_cells (by decide) _ _)
 · simp only [hl2]; exact hM3
 · exact hA2.uses.put hbk2 (notE_cells (by decide) _ _)
 · rw [put_ne (Ne.symm hbm)]; exact hA2.labs
theorem put109_t {c : Nat} {n : Int} (hA : AS hb h p mS a) (hc : hb.cell c 0 = some (vP p 0)) : Tri Tryz.prog 109 [vI n, vP c 0] h fun v h' => v = vT [] ∧ AS hb h' p mS { a with p := { a.p with entry := n } } := by
 obtain ⟨K, hA⟩ := hA
 exact Tri.mono (put109_k hA hc) fun v h' hh => ⟨hh.1, K, hh.2⟩
theorem put115_t {c d idx : Nat} {n : Int} (hA : AS hb h p mS a) (hc : hb.cell c 0 = some (vP p 0)) (hd : hb.cell d 0 = some (vI (idx : Int))) (hi : idx < a.p.code.length) :
 Tri Tryz.prog 115 [vI n, vP c 0, vP d 0] h fun v h' => v = vT [] ∧ AS hb h' p mS { a with p := { a.p with code := setC a.p.code idx n } } := by
 obtain ⟨K, hA⟩ := hA
 exact Tri.mono (put115_k hA hc hd hi) fun v h' hh => ⟨hh.1, K, hh.2⟩
theorem put112_t {c d idx : Nat} {n : Int} (hA : AS hb h p mS a) (hc : hb.cell c 0 = some (vP p 0)) (hd : hb.cell d 0 = some (vI (idx : Int))) (hi : idx + 4 ≤ a.p.data.length) :
 Tri Tryz.prog 112 [vI n, vP c 0, vP d 0] h fun v h' => v = vT [] ∧ AS hb h' p mS { a with p := { a.p with data := putW a.p.data idx n } } := by
 obtain ⟨K, hA⟩ := hA
 exact Tri.mono (put112_k hA hc hd hi) fun v h' hh => ⟨hh.1, K, hh.2⟩
end
end Go.Proofs.D
namespace Go.Proofs.D
open Go Go.Den
set_option maxRecDepth 100000
set_option maxHeartbeats 4000000
noncomputable def d155 : DCode := up ⟨[(24, .c (.one false [qi])), (35, .c (.one false [qi])), (63, .c (.one false [.bool]))], [], [(15, 25, [(2, qi), (4, qi)], []), (54, 22, [(2, qi), (6, qi)], [])]⟩ (low Tryz.prog (fun _ => false) (Tryz.f155.body.getD .skip))
theorem low155 : low Tryz.prog (fun _ => false) (Tryz.f155.body.getD .skip) = some (eC d155) := by kernel_rfl
def R155 (l1 : Bs) (h : PHeap) (Q : Value → PHeap → Prop) : Prop :=
 br (decide ((l1.length : Int) > 2))
 ((0 ≤ (0 : Int) ∧ (0 : Int) ≤ 2 ∧ 2 ≤ (l1.length : Int)) ∧
 br (((l1.drop 0).take (2 - 0)) == [48, 120])
 (∃ (I_1 : Nat → Int → Int → PHeap → Prop), (∃ (m2 : Nat), I_1 m2 (0 : Int) (2 : Int) h) ∧
 ∀ (m1 : Nat) (i1 : Int) (i2 : Int) (h_1 : PHeap), I_1 m1 i1 i2 h_1 →
 br (decide (i2 < (l1.length : Int)))
 (0 ≤ i2 ∧ ∃ (c1 : UInt8), (l1)[(i2).toNat]? = some c1 ∧
 Tri Tryz.prog 173 [vU (c1.toNat : Int)] h_1 fun v_1 h_2 =>
 ∃ (i3 : Int), v_1 = vI i3 ∧
 br (decide (i3 < 0))
 (Q (vT [vI 0, vB false]) h_2)
 (br (decide (i2 ≥ 10))
 (Q (vT [vI 0, vB false]) h_2)
 (0 ≤ i2 ∧ ∃ (c2 : UInt8), (l1)[(i2).toNat]? = some c2 ∧
 Tri Tryz.prog 173 [vU (c2.toNat : Int)] h_2 fun v_2 h_3 =>
 ∃ (i4 : Int), v_2 = vI i4 ∧
 ∃ (m3 : Nat), m3 < m1 ∧ I_1 m3 (IntKind.i64.wrap ((IntKind.i64.wrap (16 * i1)) + i4)) (IntKind.i64.wrap (i2 + 1)) h_3 ∧
 True)))
 (Q (vT [vI i1, vB true]) h_1))
 (br (!(l1 == []))
 (0 ≤ (0 : Int) ∧ ∃ (c3 : UInt8), (l1)[0]? = some c3 ∧
 br ((c3.toNat : Int) == 45)
 ((0 ≤ (1 : Int) ∧ (1 : Int) ≤ (l1.length : Int) ∧ (l1.length : Int) ≤ (l1.length : Int)) ∧
 br (((l1.drop 1).take ((l1.length : Int).toNat - 1)) == [])
 (Q (vT [vI 0, vB false]) h)
 (br (decide (((((l1.drop 1).take ((l1.length : Int).toNat - 1))).length : Int) > 10))
 (Q (vT [vI 0, vB false]) h)
 (∃ (I_2 : Nat → Int → Int → PHeap → Prop), (∃ (m5 : Nat), I_2 m5 (0 : Int) (0 : Int) h) ∧
 ∀ (m4 : Nat) (i5 : Int) (i6 : Int) (h_4 : PHeap), I_2 m4 i5 i6 h_4 →
 br (decide (i6 < ((((l1.drop 1).take ((l1.length : Int).toNat - 1))).length : Int)))
 (0 ≤ i6 ∧ ∃ (c4 : UInt8), (((l1.drop 1).take ((l1.length : Int).toNat - 1)))[(i6).toNat]? = some c4 ∧
 Tri Tryz.prog 56 [vU (c4.toNat : Int)] h_4 fun v_3 h_5 =>
 ∃ (c5 : Bool), v_3 = vB c5 ∧
 br (!c5)
 (Q (vT [vI 0, vB false]) h_5)
 (0 ≤ i6 ∧ ∃ (c6 : UInt8), (((l1.drop 1).take ((l1.length : Int).toNat - 1)))[(i6).toNat]? = some c6 ∧
 ∃ (m6 : Nat), m6 < m4 ∧ I_2 m6 (IntKind.i64.wrap ((IntKind.i64.wrap (10 * i5)) + (IntKind.i64.wrap ((IntKind.u8.wrap ((c6.toNat : Int) - 48)))))) (IntKind.i64.wrap (i6 + 1)) h_5 ∧
 True))
 (Q (vT [vI (IntKind.i64.wrap ((-1) * i5)), vB true]) h_4))))
 (br (l1 == [])
 (Q (vT [vI 0, vB false]) h)
 (br (decide ((l1.length : Int) > 10))
 (Q (vT [vI 0, vB false]) h)
 (∃ (I_3 : Nat → Int → Int → PHeap → Prop), (∃ (m8 : Nat), I_3 m8 (0 : Int) (0 : Int) h) ∧
 ∀ (m7 : Nat) (i7 : Int) (i8 : Int) (h_6 : PHeap), I_3 m7 i7 i8 h_6 →
 br (decide (i8 < (l1.length : Int)))
 (0 ≤ i8 ∧ ∃ (c7 : UInt8), (l1)[(i8).toNat]? = some c7 ∧
 Tri Tryz.prog 56 [vU (c7.toNat : Int)] h_6 fun v_4 h_7 =>
 ∃ (c8 : Bool), v_4 = vB c8 ∧
 br (!c8)
 (Q (vT [vI 0, vB false]) h_7)
 (0 ≤ i8 ∧ ∃ (c9 : UInt8), (l1)[(i8).toNat]? = some c9 ∧
 ∃ (m9 : Nat), m9 < m7 ∧ I_3 m9 (IntKind.i64.wrap ((IntKind.i64.wrap (10 * i7)) + (IntKind.i64.wrap ((IntKind.u8.wrap ((c9.toNat : Int) - 48)))))) (IntKind.i64.wrap (i8 + 1)) h_7 ∧
 True))
 (Q (vT [vI (IntKind.i64.wrap (1 * i7)), vB true]) h_6)))))
 (br (l1 == [])
 (Q (vT [vI 0, vB false]) h)
 (br (decide ((l1.length : Int) > 10))
 (Q (vT [vI 0, vB false]) h)
 (∃ (I_4 : Nat → Int → Int → PHeap → Prop), (∃ (m11 : Nat), I_4 m11 (0 : Int) (0 : Int) h) ∧
 ∀ (m10 : Nat) (i9 : Int) (i10 : Int) (h_8 : PHeap), I_4 m10 i9 i10 h_8 →
 br (decide (i10 < (l1.length : Int)))
 (0 ≤ i10 ∧ ∃ (c10 : UInt8), (l1)[(i10).toNat]? = some c10 ∧
 Tri Tryz.prog 56 [vU (c10.toNat : Int)] h_8 fun v_5 h_9 =>
 ∃ (c11 : Bool), v_5 = vB c11 ∧
 br (!c11)
 (Q (vT [vI 0, vB false]) h_9)
 (0 ≤ i10 ∧ ∃ (c12 : UInt8), (l1)[(i10).toNat]? = some c12 ∧
 ∃ (m12 : Nat), m12 < m10 ∧ I_4 m12 (IntKind.i64.wrap ((IntKind.i64.wrap (10 * i9)) + (IntKind.i64.wrap ((IntKind.u8.wrap ((c12.toNat : Int) - 48)))))) (IntKind.i64.wrap (i10 + 1)) h_9 ∧
 True))
 (Q (vT [vI (IntKind.i64.wrap (1 * i9)), vB true]) h_8))))))
 (br (!(l1 == []))
 (0 ≤ (0 : Int) ∧ ∃ (c13 : UInt8), (l1)[0]? = some c13 ∧
 br ((c13.toNat : Int) == 45)
 ((0 ≤ (1 : Int) ∧ (1 : Int) ≤ (l1.length : Int) ∧ (l1.length : Int) ≤ (l1.length : Int)) ∧
 br (((l1.drop 1).take ((l1.length : Int).toNat - 1)) == [])
 (Q (vT [vI 0, vB false]) h)
 (br (decide (((((l1.drop 1).take ((l1.length : Int).toNat - 1))).length : Int) > 10))
 (Q (vT [vI 0, vB false]) h)
 (∃ (I_5 : Nat → Int → Int → PHeap → Prop), (∃ (m14 : Nat), I_5 m14 (0 : Int) (0 : Int) h) ∧
 ∀ (m13 : Nat) (i11 : Int) (i12 : Int) (h_10 : PHeap), I_5 m13 i11 i12 h_10 →
 br (decide (i12 < ((((l1.drop 1).take ((l1.length : Int).toNat - 1))).length : Int)))
 (0 ≤ i12 ∧ ∃ (c14 : UInt8), (((l1.drop 1).take ((l1.length : Int).toNat - 1)))[(i12).toNat]? = some c14 ∧
 Tri Tryz.prog 56 [vU (c14.toNat : Int)] h_10 fun v_6 h_11 =>
 ∃ (c15 : Bool), v_6 = vB c15 ∧
 br (!c15)
 (Q (vT [vI 0, vB false]) h_11)
 (0 ≤ i12 ∧ ∃ (c16 : UInt8), (((l1.drop 1).take ((l1.length : Int).toNat - 1)))[(i12).toNat]? = some c16 ∧
 ∃ (m15 : Nat), m15 < m13 ∧ I_5 m15 (IntKind.i64.wrap ((IntKind.i64.wrap (10 * i11)) + (IntKind.i64.wrap ((IntKind.u8.wrap ((c16.toNat : Int) - 48)))))) (IntKind.i64.wrap (i12 + 1)) h_11 ∧
 True))
 (Q (vT [vI (IntKind.i64.wrap ((-1) * i11)), vB true]) h_10))))
 (br (l1 == [])
 (Q (vT [vI 0, vB false]) h)
 (br (decide ((l1.length : Int) > 10))
 (Q (vT [vI 0, vB false]) h)
 (∃ (I_6 : Nat → Int → Int → PHeap → Prop), (∃ (m17 : Nat), I_6 m17 (0 : Int) (0 : Int) h) ∧
 ∀ (m16 : Nat) (i13 : Int) (i14 : Int) (h_12 : PHeap), I_6 m16 i13 i14 h_12 →
 br (decide (i14 < (l1.length : Int)))
 (0 ≤ i14 ∧ ∃ (c17 : UInt8), (l1)[(i14).toNat]? = some c17 ∧
 Tri Tryz.prog 56 [vU (c17.toNat : Int)] h_12 fun v_7 h_13 =>
 ∃ (c18 : Bool), v_7 = vB c18 ∧
 br (!c18)
 (Q (vT [vI 0, vB false]) h_13)
 (0 ≤ i14 ∧ ∃ (c19 : UInt8), (l1)[(i14).toNat]? = some c19 ∧
 ∃ (m18 : Nat), m18 < m16 ∧ I_6 m18 (IntKind.i64.wrap ((IntKind.i64.wrap (10 * i13)) + (IntKind.i64.wrap ((IntKind.u8.wrap ((c19.toNat : Int) - 48)))))) (IntKind.i64.wrap (i14 + 1)) h_13 ∧
 True))
 (Q (vT [vI (IntKind.i64.wrap (1 * i13)), vB true]) h_12)))))
 (br (l1 == [])
 (Q (vT [vI 0, vB false]) h)
 (br (decide ((l1.length : Int) > 10))
 (Q (vT [vI 0, vB false]) h)
 (∃ (I_7 : Nat → Int → Int → PHeap → Prop), (∃ (m20 : Nat), I_7 m20 (0 : Int) (0 : Int) h) ∧
 ∀ (m19 : Nat) (i15 : Int) (i16 : Int) (h_14 : PHeap), I_7 m19 i15 i16 h_14 →
 br (decide (i16 < (l1.length : Int)))
 (0 ≤ i16 ∧ ∃ (c20 : UInt8), (l1)[(i16).toNat]? = some c20 ∧
 Tri Tryz.prog 56 [vU (c20.toNat : Int)] h_14 fun v_8 h_15 =>
 ∃ (c21 : Bool), v_8 = vB c21 ∧
 br (!c21)
 (Q (vT [vI 0, vB false]) h_15)
 (0 ≤ i16 ∧ ∃ (c22 : UInt8), (l1)[(i16).toNat]? = some c22 ∧
 ∃ (m21 : Nat), m21 < m19 ∧ I_7 m21 (IntKind.i64.wrap ((IntKind.i64.wrap (10 * i15)) + (IntKind.i64.wrap ((IntKind.u8.wrap ((c22.toNat : Int) - 48)))))) (IntKind.i64.wrap (i16 + 1)) h_15 ∧
 True))
 (Q (vT [vI (IntKind.i64.wrap (1 * i15)), vB true]) h_14)))))
theorem T155 {l1 : Bs} {h : PHeap} {Q : Value → PHeap → Prop} (hR : R155 l1 h Q) : Tri Tryz.prog 155 [vS l1] h Q :=
 tri_of_dn mixed Tryz.func155 rfl (by kernel_rfl) low155 (rs := [.tmp 2, .tmp 3]) (by kernel_rfl) rfl (Eq.mpr (by kernel_rfl : dnF Tryz.prog Tryz.f155.ntmps d155 [.tmp 2, .tmp 3] [vS l1] h Q = R155 l1 h Q) hR)
noncomputable def d136 : DCode := up ⟨[(12, .l [.str]), (13, .c (.tup [(false, [qi]), (false, [.bool])]))], [], []⟩ (low Tryz.prog (fun _ => false) (Tryz.f136.body.getD .skip))
theorem low136 : low Tryz.prog (fun _ => false) (Tryz.f136.body.getD .skip) = some (eC d136) := by kernel_rfl
def R136 (i1 : Int) (l1 : Bs) (i2 : Int) (i3 : Int) (h : PHeap) (Q : Value → PHeap → Prop) : Prop :=
 Tri Tryz.prog 155 [vS l1] h fun v_1 h_1 =>
 ∃ (i4 : Int) (c1 : Bool), v_1 = vT [vI i4, vB c1] ∧
 br (!c1)
 (Q (vT [vI 0, vI 3]) h_1)
 (br (decide (i4 < i2))
 (Q (vT [vI 0, vI 2]) h_1)
 (br (decide (i4 > i3))
 (Q (vT [vI 0, vI 2]) h_1)
 (Q (vT [vI i4, vI 0]) h_1)))
theorem T136 {i1 : Int} {l1 : Bs} {i2 : Int} {i3 : Int} {h : PHeap} {Q : Value → PHeap → Prop} (hR : R136 i1 l1 i2 i3 h Q) : Tri Tryz.prog 136 [vA [vU i1, vS l1], vI i2, vI i3] h Q :=
 tri_of_dn mixed Tryz.func136 rfl (by kernel_rfl) low136 (rs := [.tmp 6, .tmp 7]) (by kernel_rfl) rfl (Eq.mpr (by kernel_rfl : dnF Tryz.prog Tryz.f136.ntmps d136 [.tmp 6, .tmp 7] [vA [vU i1, vS l1], vI i2, vI i3] h Q = R136 i1 l1 i2 i3 h Q) hR)
noncomputable def d137 : DCode := up ⟨[(19, .l [.str]), (20, .c (.tup [(false, [qi]), (false, [.bool])])), (25, .l [.int .u8]), (44, .l [.str]), (45, .c (.one false [.bool])), (48, .l [qi]), (54, .l [.str])], [], []⟩ (low Tryz.prog (fun _ => false) (Tryz.f137.body.getD .skip))
theorem low137 : low Tryz.prog (fun _ => false) (Tryz.f137.body.getD .skip) = some (eC d137) := by kernel_rfl
def R137 (a1 : OA) (n1 : Nat) (k1 : Nat) (l1 : Bs) (i1 : Int) (i2 : Int) (a2 : OA) (n2 : Nat) (k2 : Nat) (c1 : Bool) (c2 : Bool) (c3 : Bool) (a3 : OA) (n3 : Nat) (k3 : Nat) (i3 : Int) (i4 : Int) (l2 : Bs) (i5 : Int) (i6 : Int) (i7 : Int) (i8 : Int) (h : PHeap) (Q : Value → PHeap → Prop) : Prop :=
 Tri Tryz.prog 155 [vS l2] h fun v_1 h_1 =>
 ∃ (i9 : Int) (c4 : Bool), v_1 = vT [vI i9, vB c4] ∧
 br (i4 == 115)
 (Q (vT [vI 0, vL none 0 0, vI 30]) h_1)
 (br c4
 (br (decide (i9 < i7))
 (Q (vT [vI 0, vL none 0 0, vI 2]) h_1)
 (br (decide (i9 > i8))
 (Q (vT [vI 0, vL none 0 0, vI 2]) h_1)
 (br c4
 (Q (vT [vI i9, vL none 0 0, vI 0]) h_1)
 (Tri Tryz.prog 28 [vS l2] h_1 fun v_2 h_2 =>
 ∃ (c5 : Bool), v_2 = vB c5 ∧
 br (!c5)
 (Q (vT [vI 0, vL none 0 0, vI 3]) h_2)
 (∀ (b1 : Nat), h_2 b1 = none → ∀ (h_3 : PHeap), h_3 = h_2.put b1 (.cells ⟨[vI i3, vI i5, vI i6, vI i7, vI i8, vS l2]⟩ 145) →
 (tv [vS l2]) ∧
 (tv [vI i3]) ∧
 Q (vT [vI 0, vL (ad b1 0) 1 1, vI 0]) h_3)))))
 (br c4
 (Q (vT [vI i9, vL none 0 0, vI 0]) h_1)
 (Tri Tryz.prog 28 [vS l2] h_1 fun v_3 h_4 =>
 ∃ (c6 : Bool), v_3 = vB c6 ∧
 br (!c6)
 (Q (vT [vI 0, vL none 0 0, vI 3]) h_4)
 (∀ (b2 : Nat), h_4 b2 = none → ∀ (h_5 : PHeap), h_5 = h_4.put b2 (.cells ⟨[vI i3, vI i5, vI i6, vI i7, vI i8, vS l2]⟩ 145) →
 (tv [vS l2]) ∧
 (tv [vI i3]) ∧
 Q (vT [vI 0, vL (ad b2 0) 1 1, vI 0]) h_5))))
theorem T137 {a1 : OA} {n1 : Nat} {k1 : Nat} {l1 : Bs} {i1 : Int} {i2 : Int} {a2 : OA} {n2 : Nat} {k2 : Nat} {c1 : Bool} {c2 : Bool} {c3 : Bool} {a3 : OA} {n3 : Nat} {k3 : Nat} {i3 : Int} {i4 : Int} {l2 : Bs} {i5 : Int} {i6 : Int} {i7 : Int} {i8 : Int} {h : PHeap} {Q : Value → PHeap → Prop} (hR : R137 a1 n1 k1 l1 i1 i2 a2 n2 k2 c1 c2 c3 a3 n3 k3 i3 i4 l2 i5 i6 i7 i8 h Q) : Tri Tryz.prog 137 [vA [vL a1 n1 k1, vS l1, vI i1, vI i2, vL a2 n2 k2, vB c1, vB c2, vB c3, vL a3 n3 k3, vI i3], vA [vU i4, vS l2], vI i5, vI i6, vI i7, vI i8] h Q :=
 tri_of_dn mixed Tryz.func137 rfl (by kernel_rfl) low137 (rs := [.tmp 12, .tmp 13, .tmp 14]) (by kernel_rfl) rfl (Eq.mpr (by kernel_rfl : dnF Tryz.prog Tryz.f137.ntmps d137 [.tmp 12, .tmp 13, .tmp 14] [vA [vL a1 n1 k1, vS l1, vI i1, vI i2, vL a2 n2 k2, vB c1, vB c2, vB c3, vL a3 n3 k3, vI i3], vA [vU i4, vS l2], vI i5, vI i6, vI i7, vI i8] h Q = R137 a1 n1 k1 l1 i1 i2 a2 n2 k2 c1 c2 c3 a3 n3 k3 i3 i4 l2 i5 i6 i7 i8 h Q) hR)
noncomputable def d97 : DCode := up ⟨[], [], []⟩ (low Tryz.prog (fun _ => false) (Tryz.f97.body.getD .skip))
theorem low97 : low Tryz.prog (fun _ => false) (Tryz.f97.body.getD .skip) = some (eC d97) := by kernel_rfl
def R97 (i1 : Int) (h : PHeap) (Q : Value → PHeap → Prop) : Prop :=
 ∀ (b1 : Nat), h b1 = none → ∀ (h_1 : PHeap), h_1 = h.put b1 (.cells ⟨[vU (IntKind.u8.wrap ((IntKind.u32.wrap (i1)))), vU (IntKind.u8.wrap ((Int.fdiv (IntKind.u32.wrap (i1)) 256))), vU (IntKind.u8.wrap ((Int.fdiv (IntKind.u32.wrap (i1)) 65536))), vU (IntKind.u8.wrap ((Int.fdiv (IntKind.u32.wrap (i1)) 16777216)))]⟩ 5) →
 ∃ (l1 : Bs), BytesAt h_1 (ad b1 0) 4 l1 ∧
 Q (vS l1) h_1
theorem T97 {i1 : Int} {h : PHeap} {Q : Value → PHeap → Prop} (hR : R97 i1 h Q) : Tri Tryz.prog 97 [vI i1] h Q :=
 tri_of_dn mixed Tryz.func97 rfl (by kernel_rfl) low97 (rs := [.tmp 2]) (by kernel_rfl) rfl (Eq.mpr (by kernel_rfl : dnF Tryz.prog Tryz.f97.ntmps d97 [.tmp 2] [vI i1] h Q = R97 i1 h Q) hR)
noncomputable def d133 : DCode := up ⟨[(6, .c (.one false [.slice])), (16, .l [.str])], [], [(7, 16, [(5, qi)], [])]⟩ (low Tryz.prog (fun _ => false) (Tryz.f133.body.getD .skip))
theorem low133 : low Tryz.prog (fun _ => false) (Tryz.f133.body.getD .skip) = some (eC d133) := by kernel_rfl
def R133 (l1 : Bs) (h : PHeap) (Q : Value → PHeap → Prop) : Prop :=
 Tri Tryz.prog 106 [] h fun v_1 h_1 =>
 ∃ (a1 : OA) (n1 k1 : Nat), v_1 = vL a1 n1 k1 ∧
 ∃ (I_1 : Nat → Int → PHeap → Prop), (∃ (m2 : Nat), I_1 m2 (0 : Int) h_1) ∧
 ∀ (m1 : Nat) (i1 : Int) (h_2 : PHeap), I_1 m1 i1 h_2 →
 br (decide (i1 < ((n1 : Nat) : Int)))
 (∃ (b1 o1 : Nat), a1 = some ⟨b1, o1, none⟩ ∧ (0 ≤ i1 ∧ i1 < n1) ∧
 ∃ (l2 : Bs), h_2.cell b1 (o1 + (i1).toNat * 1) = some (vS l2) ∧
 br (l2 == l1)
 (Q (vT [vI i1, vB true]) h_2)
 (∃ (m3 : Nat), m3 < m1 ∧ I_1 m3 (IntKind.i64.wrap (i1 + 1)) h_2 ∧
 True))
 (Q (vT [vI 0, vB false]) h_2)
theorem T133 {l1 : Bs} {h : PHeap} {Q : Value → PHeap → Prop} (hR : R133 l1 h Q) : Tri Tryz.prog 133 [vS l1] h Q :=
 tri_of_dn mixed Tryz.func133 rfl (by kernel_rfl) low133 (rs := [.tmp 2, .tmp 3]) (by kernel_rfl) rfl (Eq.mpr (by kernel_rfl : dnF Tryz.prog Tryz.f133.ntmps d133 [.tmp 2, .tmp 3] [vS l1] h Q = R133 l1 h Q) hR)
end Go.Proofs.D
namespace Go.Proofs.D
open Go Go.Den
set_option maxRecDepth 100000
set_option maxHeartbeats 4000000
noncomputable def d106 : DCode := up ⟨[], [], []⟩ (low Tryz.prog (fun _ => false) (Tryz.f106.body.getD .skip))
theorem low106 : low Tryz.prog (fun _ => false) (Tryz.f106.body.getD .skip) = some (eC d106) := by kernel_rfl
def R106 (h : PHeap) (Q : Value → PHeap → Prop) : Prop :=
 ∀ (b1 : Nat), h b1 = none → ∀ (h_1 : PHeap), h_1 = h.put b1 (.cells ⟨[vS [104, 97, 108, 116], vS [109, 111, 118, 101], vS [115, 101, 116], vS [104, 105, 103, 104], vS [97, 100, 100], vS [115, 117, 98], vS [109, 117, 108], vS [100, 105, 118], vS [109, 111, 100], vS [97, 110, 100], vS [111, 114], vS [120, 111, 114], vS [115, 104, 108], vS [115, 104, 114], vS [108, 101, 115, 115], vS [101, 113, 117, 97, 108], vS [97, 100, 100, 105], vS [108, 111, 97, 100], vS [115, 116, 111, 114, 101], vS [108, 111, 97, 100, 98], vS [115, 116, 111, 114, 101, 98], vS [106, 117, 109, 112], vS [106, 117, 109, 112, 122], vS [106, 117, 109, 112, 110, 122], vS [99, 97, 108, 108], vS [98, 97, 99, 107], vS [116, 114, 97, 112]]⟩ 9) →
 Q (vL (ad b1 0) 27 27) h_1
theorem T106 {h : PHeap} {Q : Value → PHeap → Prop} (hR : R106  h Q) : Tri Tryz.prog 106 [] h Q :=
 tri_of_dn mixed Tryz.func106 rfl (by kernel_rfl) low106 (rs := [.tmp 0]) (by kernel_rfl) rfl (Eq.mpr (by kernel_rfl : dnF Tryz.prog Tryz.f106.ntmps d106 [.tmp 0] [] h Q = R106  h Q) hR)
end Go.Proofs.D
namespace Go.As
theorem hexV_app (a : Bytes) (c : UInt8) : hexV (a ++ [c]) = 16 * hexV a + hexN c := by simp [hexV, List.foldl_append]
theorem hexN_lt' {c : UInt8} (h : hexB c = true) : hexN c < 16 := by
 have hl : ∀ n : Fin 256, hexB (UInt8.ofNat n.val) = true → hexN (UInt8.ofNat n.val) < 16 := by decide +kernel
 have := hl ⟨c.toNat, c.toNat_lt⟩
 simp only [UInt8.ofNat_toNat] at this
 exact this h
theorem snoc_ind {P : Bytes → Prop} (h0 : P []) (h1 : ∀ l c, P l → P (l ++ [c])) : ∀ l, P l := fun l => by
 have : ∀ l : Bytes, P l.reverse := fun l => by
  induction l with
  | nil => exact h0
  | cons c l ih => rw [List.reverse_cons]; exact h1 _ _ ih
 have h := this l.reverse
 rwa [List.reverse_reverse] at h
theorem hexV_lt (l : Bytes) : l.all hexB = true → hexV l < 16 ^ l.length := by
 refine snoc_ind (P := fun l => l.all hexB = true → hexV l < 16 ^ l.length) (fun _ => by simp [hexV]) (fun l c ih h => ?_) l
 rw [List.all_append, Bool.and_eq_true] at h
 have h1 := ih h.1
 have h2 : hexN c < 16 := hexN_lt' (by simpa using h.2)
 rw [hexV_app, List.length_append, List.length_singleton, Nat.pow_succ]
 omega
theorem digit_lt {c : UInt8} (h : digitB c = true) : 48 ≤ c.toNat ∧ c.toNat - 48 < 10 := by
 unfold digitB at h
 simp only [Bool.and_eq_true, decide_eq_true_eq] at h
 omega
theorem decN_lt (l : Bytes) : l.all digitB = true → decN l < 10 ^ l.length := by
 refine snoc_ind (P := fun l => l.all digitB = true → decN l < 10 ^ l.length) (fun _ => by simp [decN]) (fun l c ih h => ?_) l
 rw [List.all_append, Bool.and_eq_true] at h
 have h1 := ih h.1
 have h2 := digit_lt (c := c) (by simpa using h.2)
 rw [decN_app, List.length_append, List.length_singleton, Nat.pow_succ]
 omega
theorem numberS_hex (h : Bytes) : numberS (48 :: 120 :: h) = if h.length < 1 ∨ 8 < h.length ∨ h.all hexB = false then none else some (hexV h : Int) := rfl
theorem numberS_neg (d : Bytes) : numberS (45 :: d) = (decB d).map fun n => -(n : Int) := rfl
theorem numberS_dec {s : Bytes} (h1 : ∀ h, s ≠ 48 :: 120 :: h) (h2 : ∀ d, s ≠ 45 :: d) : numberS s = (decB s).map fun n => (n : Int) := by
 unfold numberS
 split
 · rename_i h; exact absurd rfl (h1 h)
 · rename_i d; exact absurd rfl (h2 d)
 · rfl
end Go.As
namespace Go.Proofs.D
open Go Go.Den Go.As
set_option maxRecDepth 100000
attribute [local irreducible] IntKind.wrap Tri
def dec155 (l : Bs) (sg : Int) (h0 : PHeap) (Q : Value → PHeap → Prop) : Prop :=
 br (l == [])
 (Q (vT [vI 0, vB false]) h0)
 (br (decide ((l.length : Int) > 10))
 (Q (vT [vI 0, vB false]) h0)
 (∃ (I_7 : Nat → Int → Int → PHeap → Prop), (∃ (m20 : Nat), I_7 m20 (0 : Int) (0 : Int) h0) ∧
 ∀ (m19 : Nat) (i15 : Int) (i16 : Int) (h_14 : PHeap), I_7 m19 i15 i16 h_14 →
 br (decide (i16 < (l.length : Int)))
 (0 ≤ i16 ∧ ∃ (c20 : UInt8), (l)[(i16).toNat]? = some c20 ∧
 Tri Tryz.prog 56 [vU (c20.toNat : Int)] h_14 fun v_8 h_15 =>
 ∃ (c21 : Bool), v_8 = vB c21 ∧
 br (!c21)
 (Q (vT [vI 0, vB false]) h_15)
 (0 ≤ i16 ∧ ∃ (c22 : UInt8), (l)[(i16).toNat]? = some c22 ∧
 ∃ (m21 : Nat), m21 < m19 ∧ I_7 m21 (IntKind.i64.wrap ((IntKind.i64.wrap (10 * i15)) + (IntKind.i64.wrap ((IntKind.u8.wrap ((c22.toNat : Int) - 48)))))) (IntKind.i64.wrap (i16 + 1)) h_15 ∧
 True))
 (Q (vT [vI (IntKind.i64.wrap (sg * i15)), vB true]) h_14)))
section
variable {h : PHeap}
def numV' (o : Option Int) : Value := match o with
 | some n => vT [vI n, vB true]
 | none => vT [vI 0, vB false]
theorem digit_wrap {c : UInt8} (h : digitB c = true) : IntKind.i64.wrap (IntKind.u8.wrap ((c.toNat : Int) - 48)) = ((c.toNat - 48 : Nat) : Int) := by
 have key : ∀ n : Fin 256, digitB (UInt8.ofNat n.val) = true → IntKind.i64.wrap (IntKind.u8.wrap ((n.val : Int) - 48)) = ((n.val - 48 : Nat) : Int) := by decide +kernel
 have := key ⟨c.toNat, c.toNat_lt⟩
 simp only [UInt8.ofNat_toNat] at this
 exact this h
theorem dec155_t {l : Bs} {sg : Int} (hs : sg = 1 ∨ sg = -1) (hl : l.length ≤ 1000000) : dec155 l sg h fun v h' => v = numV' ((decB l).map fun n => sg * (n : Int)) ∧ h' = h := by
 unfold dec155
 have bad : decB l = none → vT [vI 0, vB false] = numV' ((decB l).map fun n => sg * (n : Int)) ∧ h = h := fun hh => by rw [hh]; exact ⟨rfl, rfl⟩
 refine br_split (fun e => bad ?_) fun e => br_split (fun e1 => bad ?_) fun e1 => ?_
 · have e : l = [] := by simpa using e
   subst e; rfl
 · have e1 := of_decide_eq_true e1
   unfold decB; rw [if_pos (.inr (.inl (by omega)))]
 have e : l ≠ [] := by simpa using e
 have e1 := of_decide_eq_false e1
 have hl1 : 1 ≤ l.length := List.length_pos_iff.2 e
 refine ⟨fun m n i h' => ∃ j : Nat, i = (j : Int) ∧ j + m = l.length ∧ h' = h ∧ n = (decN (l.take j) : Int) ∧ (l.take j).all digitB = true, ⟨l.length, 0, rfl, by omega, rfl, rfl, rfl⟩, ?_⟩
 rintro m _ _ h1 ⟨j, rfl, hjm, rfl, rfl, hall⟩
 have hb : decN (l.take j) < 10000000000 := by
  have h1 := decN_lt _ hall
  have h2 : (l.take j).length ≤ 10 := by rw [List.length_take]; omega
  have h3 := Nat.pow_le_pow_right (n := 10) (by omega) h2
  omega
 refine br_split (fun e2 => ?_) fun e2 => ?_
 · have hlt : j < l.length := by have := of_decide_eq_true e2; omega
   have hg : l[j]? = some l[j] := by simp [hlt]
   have htk := List.take_append_getElem hlt
   have hmem := List.getElem_mem hlt
   generalize l[j] = c at *
   refine ⟨by omega, c, by rw [Int.toNat_natCast]; exact hg, ?_⟩
   refine Tri.mono (rdigit_t h1 c) ?_
   rintro _ h2 ⟨rfl, rfl⟩
   refine ⟨_, rfl, br_split (fun e3 => bad ?_) fun e3 => ⟨by omega, c, by rw [Int.toNat_natCast]; exact hg, ?_⟩⟩
   · have hf : l.all digitB = false := by
      rw [List.all_eq_false]
      exact ⟨c, hmem, by rw [not_f e3]; decide⟩
     unfold decB
     rw [if_pos (.inr (.inr hf))]
   · have e3 := not_t e3
     have hd := digit_lt e3
     rw [digit_wrap e3, wrap64 (n := 10 * _) (by omega) (by omega)]
     refine ⟨m - 1, by omega, ⟨j + 1, by rw [wrap64 (by omega) (by omega)]; omega, by omega, rfl, ?_, ?_⟩, trivial⟩
     · rw [← htk, decN_app, wrap64 (by omega) (by omega)]; omega
     · rw [← htk, List.all_append, hall]; simp [e3]
 · have hj : j = l.length := by have := of_decide_eq_false e2; omega
   subst hj
   rw [List.take_length] at hall hb ⊢
   have : decB l = some (decN l) := by
    unfold decB; rw [if_neg (by rw [hall]; rintro (h | h | h) <;> first | omega | cases h)]
   rw [this]
   refine ⟨?_, rfl⟩
   have : IntKind.i64.wrap (sg * (decN l : Int)) = sg * (decN l : Int) := by
    rcases hs with rfl | rfl <;> exact wrap64 (by omega) (by omega)
   rw [this]; rfl
theorem rnumber_t (s : Bytes) (hl : s.length ≤ 1000000) : Tri Tryz.prog 155 [vS s] h fun v h' => v = numV' (numberS s) ∧ h' = h := by
 refine T155 ?_
 unfold R155
 have neg : ∀ (d : Bytes), s = 45 :: d → ((0 : Int) ≤ 1 ∧ (1 : Int) ≤ (s.length : Int) ∧ (s.length : Int) ≤ (s.length : Int)) ∧ dec155 ((s.drop 1).take ((s.length : Int).toNat - 1)) (-1) h fun v h' => v = numV' (numberS s) ∧ h' = h := fun d hd => by
  have hdl : (s.drop 1).take ((s.length : Int).toNat - 1) = d := by rw [hd]; simp
  rw [hdl]
  refine ⟨⟨by omega, by rw [hd]; simp; omega, Int.le_refl _⟩, ?_⟩
  have := dec155_t (h := h) (l := d) (sg := -1) (.inr rfl) (by rw [hd] at hl; simp at hl; omega)
  rw [hd, numberS_neg]
  have e : ((decB d).map fun n => -1 * (n : Int)) = (decB d).map fun n => -(n : Int) := by
   cases decB d <;> simp
  rw [e] at this
  exact this
 have pos : (∀ h, s ≠ 48 :: 120 :: h) → (∀ d, s ≠ 45 :: d) → dec155 s 1 h fun v h' => v = numV' (numberS s) ∧ h' = h := fun g1 g2 => by
  have := dec155_t (h := h) (l := s) (sg := 1) (.inl rfl) hl
  rw [numberS_dec g1 g2]
  have e : ((decB s).map fun n => 1 * (n : Int)) = (decB s).map fun n => (n : Int) := by
   cases decB s <;> simp
  rw [e] at this
  exact this
 have short : s = [48, 120] → dec155 s 1 h fun v h' => v = numV' (numberS s) ∧ h' = h := fun g => by
  have := dec155_t (h := h) (l := s) (sg := 1) (.inl rfl) hl
  rw [g] at this ⊢
  exact this
 have sign : (∀ h, s = 48 :: 120 :: h → h = []) → br (!(s == []))
  (0 ≤ (0 : Int) ∧ ∃ (c3 : UInt8), (s)[0]? = some c3 ∧ br ((c3.toNat : Int) == 45)
   (((0 : Int) ≤ 1 ∧ (1 : Int) ≤ (s.length : Int) ∧ (s.length : Int) ≤ (s.length : Int)) ∧ dec155 ((s.drop 1).take ((s.length : Int).toNat - 1)) (-1) h fun v h' => v = numV' (numberS s) ∧ h' = h)
   (dec155 s 1 h fun v h' => v = numV' (numberS s) ∧ h' = h))
  (dec155 s 1 h fun v h' => v = numV' (numberS s) ∧ h' = h) := fun hx => by
  match hs : s with
  | [] => exact br_neg rfl (pos (fun h e => by cases e) (fun d e => by cases e))
  | c :: t =>
    refine br_pos rfl ⟨Int.le_refl _, c, rfl, br_split (fun e => ?_) fun e => ?_⟩
    · obtain rfl : c = 45 := u8_is e
      exact neg t rfl
    · have c45 : c ≠ 45 := u8_not (d := 45) e
      by_cases hh : c :: t = [48, 120]
      · exact short hh
      · refine pos (fun h e => hh ?_) (fun d e => ?_)
        · rw [e, hx h e]
        · injection e with e _; exact c45 e
 refine br_split (fun e => ⟨⟨Int.le_refl _, by omega, by have := of_decide_eq_true e; omega⟩, br_split (fun e1 => ?_) fun e1 => ?_⟩) fun e => ?_
 · have e := of_decide_eq_true e
   have e1 : (s.drop 0).take (2 - 0) = [48, 120] := by simpa using e1
   obtain ⟨t, ht⟩ : ∃ t, s = 48 :: 120 :: t := by
    match s, e1, e with
    | a :: b :: t, e1, _ => simp at e1; exact ⟨t, by rw [e1.1, e1.2]⟩
    | [a], e1, e => simp at e
    | [], e1, e => simp at e
   have htl : t.length + 2 = s.length := by rw [ht]; rfl
   have bad : (8 < t.length ∨ t.all hexB = false) → vT [vI 0, vB false] = numV' (numberS s) := fun hh => by
    rw [ht, numberS_hex, if_pos (.inr hh)]; rfl
   refine ⟨fun m n i h' => ∃ j : Nat, i = ((j + 2 : Nat) : Int) ∧ j + m = t.length ∧ j ≤ 8 ∧ h' = h ∧ n = (hexV (t.take j) : Int) ∧ (t.take j).all hexB = true, ⟨t.length, 0, rfl, by omega, by omega, rfl, rfl, rfl⟩, ?_⟩
   rintro m _ _ h1 ⟨j, rfl, hjm, hj8, rfl, rfl, hall⟩
   have hb : hexV (t.take j) < 4294967296 := by
    have h1 := hexV_lt _ hall
    have h2 : (t.take j).length ≤ 8 := by rw [List.length_take]; omega
    have h3 := Nat.pow_le_pow_right (n := 16) (by omega) h2
    omega
   refine br_split (fun e2 => ?_) fun e2 => ?_
   · have hlt : j < t.length := by have := of_decide_eq_true e2; omega
     have hg : t[j]? = some t[j] := by simp [hlt]
     have htk := List.take_append_getElem hlt
     have hmem := List.getElem_mem hlt
     generalize t[j] = c at *
     have hg' : s[(((j + 2 : Nat) : Int)).toNat]? = some c := by rw [Int.toNat_natCast, ht]; exact hg
     refine ⟨by omega, c, hg', ?_⟩
     refine Tri.mono (rhex_t h1 c) ?_
     rintro _ h2 ⟨rfl, rfl⟩
     have hhe : decide (hexI c < 0) = !hexB c := by
      unfold hexI
      cases hc : hexB c
      · rfl
      · simp
     refine ⟨_, rfl, ?_⟩
     rw [hhe]
     refine br_split (fun e3 => ⟨bad (.inr ?_), rfl⟩) fun e3 => br_split (fun e4 => ⟨bad (.inl ?_), rfl⟩) fun e4 => ⟨by omega, c, hg', ?_⟩
     · rw [List.all_eq_false]
       exact ⟨c, hmem, by rw [not_f e3]; decide⟩
     · have := of_decide_eq_true e4; omega
     · have e3 := not_t e3
       have e4 := of_decide_eq_false e4
       have hx := hexN_lt' e3
       refine Tri.mono (rhex_t h2 c) ?_
       rintro _ h3 ⟨rfl, rfl⟩
       have hxi : hexI c = (hexN c : Int) := by unfold hexI; rw [if_pos e3]
       rw [hxi, wrap64 (n := 16 * _) (by omega) (by omega)]
       refine ⟨_, rfl, m - 1, by omega, ⟨j + 1, by rw [wrap64 (by omega) (by omega)]; omega, by omega, by omega, rfl, ?_, ?_⟩, trivial⟩
       · rw [← htk, hexV_app, wrap64 (by omega) (by omega)]; omega
       · rw [← htk, List.all_append, hall]; simp [e3]
   · have hj : j = t.length := by have := of_decide_eq_false e2; omega
     subst hj
     rw [List.take_length] at hall ⊢
     rw [ht, numberS_hex, if_neg (by rw [hall]; rintro (h | h | h) <;> first | omega | cases h)]
     exact ⟨rfl, rfl⟩
 · have e1 : (s.drop 0).take (2 - 0) ≠ [48, 120] := by simpa using e1
   exact sign fun t ht => absurd (by rw [ht]; rfl) e1
 · have e := of_decide_eq_false e
   refine sign fun t ht => ?_
   rw [ht] at e
   cases t with
   | nil => rfl
   | cons _ _ => simp only [List.length_cons] at e; omega
def rlitV (r : As.R Int) : Value := match r with
 | .ok n => vT [vI n, vI 0]
 | .error e => vT [vI 0, vI (e : Int)]
theorem rliteral_t (k : Int) (s : Bytes) (lo hi : Int) (hl : s.length ≤ 1000000) : Tri Tryz.prog 136 [vA [vU k, vS s], vI lo, vI hi] h fun v h' => v = rlitV (literalS s lo hi) ∧ h' = h := by
 refine T136 ?_
 unfold R136
 refine Tri.mono (rnumber_t s hl) ?_
 rintro _ h1 ⟨rfl, rfl⟩
 unfold literalS numV'
 cases numberS s with
 | none => exact ⟨0, false, rfl, br_pos rfl ⟨rfl, rfl⟩⟩
 | some n =>
   refine ⟨n, true, rfl, br_neg rfl (br_split (fun e => ⟨?_, rfl⟩) fun e => br_split (fun e1 => ⟨?_, rfl⟩) fun e1 => ⟨?_, rfl⟩)⟩
   · simp only; rw [if_pos (.inl (of_decide_eq_true e))]; rfl
   · simp only; rw [if_pos (.inr (of_decide_eq_true e1))]; rfl
   · have e := of_decide_eq_false e
     have e1 := of_decide_eq_false e1
     simp only; rw [if_neg (by omega)]; rfl
def usC (u : Us) : List Value := [vI u.line, vI u.kind, vI u.idx, vI u.low, vI u.high, vS u.name]
def UsR (h : PHeap) (a : OA) (us : List Us) : Prop := us = [] ∨ ∃ b o, a = ad b o ∧ ∀ j u, us[j]? = some u → h.row b (o + j * 6) (usC u)
theorem UsR.ext {h h' : PHeap} {a : OA} {us : List Us} (x : Ext h h') (hu : UsR h a us) : UsR h' a us := by
 rcases hu with hu | ⟨b, o, h1, h2⟩
 · exact .inl hu
 · exact .inr ⟨b, o, h1, fun j u hj => row_ext (fun ob => x b ob) (h2 j u hj)⟩
def RValP (h : PHeap) (r : As.R (Int × List Us)) (v : Value) (h' : PHeap) : Prop := Ext h h' ∧ match r with
 | .error e => v = vT [vI 0, vL none 0 0, vI (e : Int)]
 | .ok (n, us) => ∃ a, v = vT [vI n, vL a us.length us.length, vI 0] ∧ UsR h' a us ∧ okA a us.length us.length
theorem rvalue_t {a1 : OA} {n1 k1 : Nat} {l1 : Bs} {i1 i2 : Int} {a2 : OA} {n2 k2 : Nat} {c1 c2 c3 : Bool} {a3 : OA} {n3 k3 line : Nat} {s : Bytes} {kind idx : Nat} {lo hi : Int} (hl : s.length ≤ 1000000) {j1 j2 j3 : Int} (g1 : j1 = (line : Int)) (g2 : j2 = (kind : Int)) (g3 : j3 = (idx : Int)) :
 Tri Tryz.prog 137 [vA [vL a1 n1 k1, vS l1, vI i1, vI i2, vL a2 n2 k2, vB c1, vB c2, vB c3, vL a3 n3 k3, vI j1], vA [vU 119, vS s], vI j2, vI j3, vI lo, vI hi] h fun v h' => RValP h (valueS line s kind idx lo hi) v h' := by
 subst g1; subst g2; subst g3
 refine T137 ?_
 unfold R137
 refine Tri.mono (rnumber_t s hl) ?_
 rintro _ h1 ⟨rfl, rfl⟩
 have label : numberS s = none → Tri Tryz.prog 28 [vS s] h1 fun v_3 h_4 =>
  ∃ (c6 : Bool), v_3 = vB c6 ∧
  br (!c6)
  (RValP h1 (valueS line s kind idx lo hi) (vT [vI 0, vL none 0 0, vI 3]) h_4)
  (∀ (b2 : Nat), h_4 b2 = none → ∀ (h_5 : PHeap), h_5 = h_4.put b2 (.cells ⟨[vI (line : Int), vI (kind : Int), vI (idx : Int), vI lo, vI hi, vS s]⟩ 145) →
  (tv [vS s]) ∧ (tv [vI (line : Int)]) ∧
  RValP h1 (valueS line s kind idx lo hi) (vT [vI 0, vL (ad b2 0) 1 1, vI 0]) h_5) := fun hn => by
  refine Tri.mono (rlabel_t h1 s) ?_
  rintro _ h2 ⟨rfl, rfl⟩
  have hv : valueS line s kind idx lo hi = if isLabel s then .ok (0, [⟨line, kind, idx, lo, hi, s⟩]) else .error 3 := by unfold valueS; rw [hn]
  rw [hv]
  refine ⟨_, rfl, br_split (fun e => ?_) fun e => ?_⟩
  · rw [if_neg (by rw [not_f e]; decide)]
    exact ⟨Ext.refl _, rfl⟩
  · rw [if_pos (not_t e)]
    intro b hb h3 hh3
    refine ⟨rfl, rfl, Put.ext hh3 hb, _, rfl, .inr ⟨b, 0, rfl, fun j u hj => ?_⟩, .inl ⟨b, 0, rfl⟩⟩
    cases j with
    | zero =>
      simp at hj; subst hj
      exact row_lit (Put.at hh3) fun j v hj => by simpa [usC] using hj
    | succ j => simp at hj
 unfold numV'
 cases hn : numberS s with
 | none => exact ⟨0, false, rfl, br_neg rfl (br_neg rfl (br_neg rfl (label hn)))⟩
 | some n =>
   have hv : valueS line s kind idx lo hi = if n < lo ∨ hi < n then .error 2 else .ok (n, []) := by unfold valueS; rw [hn]
   rw [hv]
   refine ⟨n, true, rfl, br_neg rfl (br_pos rfl (br_split (fun e => ?_) fun e => br_split (fun e1 => ?_) fun e1 => br_pos rfl ?_))⟩
   · rw [if_pos (.inl (of_decide_eq_true e))]; exact ⟨Ext.refl _, rfl⟩
   · rw [if_pos (.inr (of_decide_eq_true e1))]; exact ⟨Ext.refl _, rfl⟩
   · have e := of_decide_eq_false e
     have e1 := of_decide_eq_false e1
     rw [if_neg (by omega)]
     exact ⟨Ext.refl _, none, rfl, .inl rfl, .inr ⟨rfl, rfl, rfl⟩⟩
theorem rword97_t (n : Int) : Tri Tryz.prog 97 [vI n] h fun v h' => v = vS (wordOf n) ∧ Ext h h' := by
 refine T97 ?_
 unfold R97
 intro b hb h1 hh1
 refine ⟨wordOf n, .inr ⟨b, 0, rfl, rfl, ?_⟩, rfl, Put.ext hh1 hb⟩
 refine row_lit (Put.at hh1) fun j v hj => ?_
 rw [Nat.zero_add, vU_word]
 exact hj
theorem rfind_t (s : Bytes) : Tri Tryz.prog 133 [vS s] h fun v h' => Ext h h' ∧ match wordsB.findIdx? (· == s) with
 | some op => v = vT [vI (op : Int), vB true]
 | none => v = vT [vI 0, vB false] := by
 refine T133 ?_
 unfold R133
 refine T106 ?_
 unfold R106
 intro b hb1 h1 hh1
 have x1 := Put.ext hh1 hb1
 have hb : ∀ (j : Nat) (w : Bs), wordsB[j]? = some w → h1.cell b j = some (vS w) := fun j w hj => by
  rw [cell_of (Put.at hh1)]
  show (wordsB.map vS)[j]? = some (vS w)
  rw [List.getElem?_map, hj]; rfl
 refine ⟨_, _, _, rfl, ?_⟩
 refine ⟨fun m i h' => ∃ j : Nat, i = (j : Int) ∧ j + m = 27 ∧ h' = h1 ∧ wordsB.findIdx? (· == s) = ((wordsB.drop j).findIdx? (· == s)).map (· + j), ⟨27, 0, rfl, rfl, rfl, by simp⟩, ?_⟩
 rintro m _ h2 ⟨j, rfl, hjm, rfl, hf⟩
 refine br_split (fun e => ?_) fun e => ?_
 · have hlt : j < 27 := by have := of_decide_eq_true e; omega
   have hlt' : j < wordsB.length := hlt
   have hg : wordsB[j]? = some wordsB[j] := by simp [hlt']
   rw [List.drop_eq_getElem_cons hlt', List.findIdx?_cons] at hf
   generalize wordsB[j] = w at *
   refine ⟨b, 0, rfl, ⟨by omega, by omega⟩, w, by rw [Int.toNat_natCast, Nat.zero_add, Nat.mul_one]; exact hb j w hg, br_split (fun e1 => ?_) fun e1 => ?_⟩
   · rw [if_pos e1] at hf
     rw [hf]
     refine ⟨x1, ?_⟩
     simp
   · rw [if_neg (by rw [e1]; decide)] at hf
     refine ⟨m - 1, by omega, ⟨j + 1, by rw [wrap64 (by omega) (by omega)]; omega, by omega, rfl, ?_⟩, trivial⟩
     rw [hf, Option.map_map]
     congr 1
     funext x
     simp only [Function.comp]
     omega
 · have hj : j = 27 := by have := of_decide_eq_false e; omega
   subst hj
   have hd : wordsB.drop 27 = [] := rfl
   rw [hd] at hf
   rw [hf]
   exact ⟨x1, rfl⟩
end
end Go.Proofs.D
namespace Go.Proofs.D
open Go Go.Den
set_option maxRecDepth 100000
set_option maxHeartbeats 4000000
abbrev o95_5 : Op := .call { callee := (.builtin .append), args := #[(.tmp 30), (.tmp 36)], argTypes := #[52, 52] }
abbrev o95_9 : Op := .call { callee := (.builtin .append), args := #[(.tmp 51), (.tmp 56)], argTypes := #[138, 138] }
abbrev o95_22 : Op := .call { callee := (.builtin .append), args := #[(.tmp 107), (.tmp 112)], argTypes := #[138, 138] }
noncomputable def d95 : DCode := up ⟨[(18, .l [.int .u8]), (27, .l [.int .u8]), (35, .l [.str]), (37, .c (.one false [.slice])), (49, .l [.int .u8]), (55, .l [.int .u8, .str]), (57, .c (.one false [.slice])), (70, .l [.int .u8]), (77, .l [.int .u8]), (95, .l [.int .u8]), (111, .l [.int .u8, .str]), (113, .c (.one false [.slice]))], [], [(8, 34, [(2, .slice), (5, qi)], []), (60, 59, [(2, .slice), (3, .slice), (6, qi)], [])]⟩ (low Tryz.prog (fun _ => false) (Tryz.f95.body.getD .skip))
theorem low95 : low Tryz.prog (fun _ => false) (Tryz.f95.body.getD .skip) = some (eC d95) := by kernel_rfl
def R95 (a1 : OA) (n1 : Nat) (k1 : Nat) (h : PHeap) (Q : Value → PHeap → Prop) : Prop :=
 ∃ (I_1 : Nat → OA → Nat → Nat → Int → PHeap → Prop), (∃ (m2 : Nat), I_1 m2 none 0 0 (0 : Int) h) ∧
 ∀ (m1 : Nat) (a2 : OA) (n2 : Nat) (k2 : Nat) (i1 : Int) (h_1 : PHeap), I_1 m1 a2 n2 k2 i1 h_1 →
 br (decide ((IntKind.i64.wrap (i1 + 1)) < ((n1 : Nat) : Int)))
 (∃ (b1 o1 : Nat), a1 = some ⟨b1, o1, none⟩ ∧ (0 ≤ i1 ∧ i1 < n1) ∧
 ∃ (i2 : Int), h_1.cell b1 (o1 + (i1).toNat * 2) = some (vU i2) ∧
 br (i2 == 119)
 (∃ (b2 o2 : Nat), a1 = some ⟨b2, o2, none⟩ ∧ (0 ≤ (IntKind.i64.wrap (i1 + 1)) ∧ (IntKind.i64.wrap (i1 + 1)) < n1) ∧
 ∃ (i3 : Int), h_1.cell b2 (o2 + (IntKind.i64.wrap (i1 + 1)).toNat * 2) = some (vU i3) ∧
 br (i3 == 58)
 (∃ (b3 o3 : Nat), a1 = some ⟨b3, o3, none⟩ ∧ (0 ≤ i1 ∧ i1 < n1) ∧
 ∃ (l1 : Bs), h_1.cell b3 ((o3 + (i1).toNat * 2) + 1) = some (vS l1) ∧
 ∀ (b4 : Nat), h_1 b4 = none → ∀ (h_2 : PHeap), h_2 = h_1.put b4 (.cells ⟨[vS l1]⟩ 9) →
 Raw Tryz.prog (execOp (rho [(30, vL a2 n2 k2), (36, vL (ad b4 0) 1 1)]) (mkO o95_5 52)) h_2 fun v_1 h_3 =>
 ∃ (a3 : OA) (n3 k3 : Nat), v_1 = vL a3 n3 k3 ∧
 ∃ (m3 : Nat), m3 < m1 ∧ I_1 m3 a3 n3 k3 (IntKind.i64.wrap (i1 + 2)) h_3 ∧
 True)
 (br (i1 == ((n1 : Nat) : Int))
 (Q (vT [vL a2 n2 k2, vL none 0 0, vB true]) h_1)
 (∃ (b5 o4 : Nat), a1 = some ⟨b5, o4, none⟩ ∧ (0 ≤ i1 ∧ i1 < n1) ∧
 ∃ (i4 : Int), h_1.cell b5 (o4 + (i1).toNat * 2) = some (vU i4) ∧
 br (i4 != 119)
 (Q (vT [vL none 0 0, vL none 0 0, vB false]) h_1)
 (∃ (b6 o5 : Nat), a1 = some ⟨b6, o5, none⟩ ∧ (0 ≤ i1 ∧ i1 < n1) ∧
 ∃ (i5 : Int) (l2 : Bs), h_1.row b6 (o5 + (i1).toNat * 2) [vU i5, vS l2] ∧
 ∀ (b7 : Nat), h_1 b7 = none → ∀ (h_4 : PHeap), h_4 = h_1.put b7 (.cells ⟨[vU i5, vS l2]⟩ 180) →
 Raw Tryz.prog (execOp (rho [(51, vL none 0 0), (56, vL (ad b7 0) 1 1)]) (mkO o95_9 138)) h_4 fun v_2 h_5 =>
 ∃ (a4 : OA) (n4 k4 : Nat), v_2 = vL a4 n4 k4 ∧
 ∃ (I_2 : Nat → OA → Nat → Nat → OA → Nat → Nat → Int → PHeap → Prop), (∃ (m5 : Nat), I_2 m5 a2 n2 k2 a4 n4 k4 (IntKind.i64.wrap (i1 + 1)) h_5) ∧
 ∀ (m4 : Nat) (a5 : OA) (n5 : Nat) (k5 : Nat) (a6 : OA) (n6 : Nat) (k6 : Nat) (i6 : Int) (h_6 : PHeap), I_2 m4 a5 n5 k5 a6 n6 k6 i6 h_6 →
 br (decide (i6 < ((n1 : Nat) : Int)))
 (∃ (b8 o6 : Nat), a1 = some ⟨b8, o6, none⟩ ∧ (0 ≤ i6 ∧ i6 < n1) ∧
 ∃ (i7 : Int), h_6.cell b8 (o6 + (i6).toNat * 2) = some (vU i7) ∧
 br (i7 == 119)
 (br (!(true == ((Int.tmod (IntKind.i64.wrap (i6 - i1)) 2) == 1)))
 (Q (vT [vL none 0 0, vL none 0 0, vB false]) h_6)
 (∃ (b9 o7 : Nat), a1 = some ⟨b9, o7, none⟩ ∧ (0 ≤ i6 ∧ i6 < n1) ∧
 ∃ (i8 : Int) (l3 : Bs), h_6.row b9 (o7 + (i6).toNat * 2) [vU i8, vS l3] ∧
 ∀ (b10 : Nat), h_6 b10 = none → ∀ (h_7 : PHeap), h_7 = h_6.put b10 (.cells ⟨[vU i8, vS l3]⟩ 180) →
 Raw Tryz.prog (execOp (rho [(107, vL a6 n6 k6), (112, vL (ad b10 0) 1 1)]) (mkO o95_22 138)) h_7 fun v_3 h_8 =>
 ∃ (a7 : OA) (n7 k7 : Nat), v_3 = vL a7 n7 k7 ∧
 ∃ (m6 : Nat), m6 < m4 ∧ I_2 m6 a5 n5 k5 a7 n7 k7 (IntKind.i64.wrap (i6 + 1)) h_8 ∧
 True))
 (∃ (b11 o8 : Nat), a1 = some ⟨b11, o8, none⟩ ∧ (0 ≤ i6 ∧ i6 < n1) ∧
 ∃ (i9 : Int), h_6.cell b11 (o8 + (i6).toNat * 2) = some (vU i9) ∧
 br (!((i9 == 115) == ((Int.tmod (IntKind.i64.wrap (i6 - i1)) 2) == 1)))
 (Q (vT [vL none 0 0, vL none 0 0, vB false]) h_6)
 (br (!(i9 == 115))
 (∃ (b12 o9 : Nat), a1 = some ⟨b12, o9, none⟩ ∧ (0 ≤ i6 ∧ i6 < n1) ∧
 ∃ (i10 : Int), h_6.cell b12 (o9 + (i6).toNat * 2) = some (vU i10) ∧
 br (i10 != 44)
 (Q (vT [vL none 0 0, vL none 0 0, vB false]) h_6)
 (br (i6 == (IntKind.i64.wrap (((n1 : Nat) : Int) - 1)))
 (Q (vT [vL none 0 0, vL none 0 0, vB false]) h_6)
 (br (i9 == 115)
 (∃ (b13 o10 : Nat), a1 = some ⟨b13, o10, none⟩ ∧ (0 ≤ i6 ∧ i6 < n1) ∧
 ∃ (i11 : Int) (l4 : Bs), h_6.row b13 (o10 + (i6).toNat * 2) [vU i11, vS l4] ∧
 ∀ (b14 : Nat), h_6 b14 = none → ∀ (h_9 : PHeap), h_9 = h_6.put b14 (.cells ⟨[vU i11, vS l4]⟩ 180) →
 Raw Tryz.prog (execOp (rho [(107, vL a6 n6 k6), (112, vL (ad b14 0) 1 1)]) (mkO o95_22 138)) h_9 fun v_4 h_10 =>
 ∃ (a8 : OA) (n8 k8 : Nat), v_4 = vL a8 n8 k8 ∧
 ∃ (m7 : Nat), m7 < m4 ∧ I_2 m7 a5 n5 k5 a8 n8 k8 (IntKind.i64.wrap (i6 + 1)) h_10 ∧
 True)
 (∃ (m8 : Nat), m8 < m4 ∧ I_2 m8 a5 n5 k5 a6 n6 k6 (IntKind.i64.wrap (i6 + 1)) h_6 ∧
 True))))
 (br (i9 == 115)
 (∃ (b15 o11 : Nat), a1 = some ⟨b15, o11, none⟩ ∧ (0 ≤ i6 ∧ i6 < n1) ∧
 ∃ (i12 : Int) (l5 : Bs), h_6.row b15 (o11 + (i6).toNat * 2) [vU i12, vS l5] ∧
 ∀ (b16 : Nat), h_6 b16 = none → ∀ (h_11 : PHeap), h_11 = h_6.put b16 (.cells ⟨[vU i12, vS l5]⟩ 180) →
 Raw Tryz.prog (execOp (rho [(107, vL a6 n6 k6), (112, vL (ad b16 0) 1 1)]) (mkO o95_22 138)) h_11 fun v_5 h_12 =>
 ∃ (a9 : OA) (n9 k9 : Nat), v_5 = vL a9 n9 k9 ∧
 ∃ (m9 : Nat), m9 < m4 ∧ I_2 m9 a5 n5 k5 a9 n9 k9 (IntKind.i64.wrap (i6 + 1)) h_12 ∧
 True)
 (∃ (m10 : Nat), m10 < m4 ∧ I_2 m10 a5 n5 k5 a6 n6 k6 (IntKind.i64.wrap (i6 + 1)) h_6 ∧
 True)))))
 (Q (vT [vL a5 n5 k5, vL a6 n6 k6, vB true]) h_6)))))
 (br (i1 == ((n1 : Nat) : Int))
 (Q (vT [vL a2 n2 k2, vL none 0 0, vB true]) h_1)
 (∃ (b17 o12 : Nat), a1 = some ⟨b17, o12, none⟩ ∧ (0 ≤ i1 ∧ i1 < n1) ∧
 ∃ (i13 : Int), h_1.cell b17 (o12 + (i1).toNat * 2) = some (vU i13) ∧
 br (i13 != 119)
 (Q (vT [vL none 0 0, vL none 0 0, vB false]) h_1)
 (∃ (b18 o13 : Nat), a1 = some ⟨b18, o13, none⟩ ∧ (0 ≤ i1 ∧ i1 < n1) ∧
 ∃ (i14 : Int) (l6 : Bs), h_1.row b18 (o13 + (i1).toNat * 2) [vU i14, vS l6] ∧
 ∀ (b19 : Nat), h_1 b19 = none → ∀ (h_13 : PHeap), h_13 = h_1.put b19 (.cells ⟨[vU i14, vS l6]⟩ 180) →
 Raw Tryz.prog (execOp (rho [(51, vL none 0 0), (56, vL (ad b19 0) 1 1)]) (mkO o95_9 138)) h_13 fun v_6 h_14 =>
 ∃ (a10 : OA) (n10 k10 : Nat), v_6 = vL a10 n10 k10 ∧
 ∃ (I_3 : Nat → OA → Nat → Nat → OA → Nat → Nat → Int → PHeap → Prop), (∃ (m12 : Nat), I_3 m12 a2 n2 k2 a10 n10 k10 (IntKind.i64.wrap (i1 + 1)) h_14) ∧
 ∀ (m11 : Nat) (a11 : OA) (n11 : Nat) (k11 : Nat) (a12 : OA) (n12 : Nat) (k12 : Nat) (i15 : Int) (h_15 : PHeap), I_3 m11 a11 n11 k11 a12 n12 k12 i15 h_15 →
 br (decide (i15 < ((n1 : Nat) : Int)))
 (∃ (b20 o14 : Nat), a1 = some ⟨b20, o14, none⟩ ∧ (0 ≤ i15 ∧ i15 < n1) ∧
 ∃ (i16 : Int), h_15.cell b20 (o14 + (i15).toNat * 2) = some (vU i16) ∧
 br (i16 == 119)
 (br (!(true == ((Int.tmod (IntKind.i64.wrap (i15 - i1)) 2) == 1)))
 (Q (vT [vL none 0 0, vL none 0 0, vB false]) h_15)
 (∃ (b21 o15 : Nat), a1 = some ⟨b21, o15, none⟩ ∧ (0 ≤ i15 ∧ i15 < n1) ∧
 ∃ (i17 : Int) (l7 : Bs), h_15.row b21 (o15 + (i15).toNat * 2) [vU i17, vS l7] ∧
 ∀ (b22 : Nat), h_15 b22 = none → ∀ (h_16 : PHeap), h_16 = h_15.put b22 (.cells ⟨[vU i17, vS l7]⟩ 180) →
 Raw Tryz.prog (execOp (rho [(107, vL a12 n12 k12), (112, vL (ad b22 0) 1 1)]) (mkO o95_22 138)) h_16 fun v_7 h_17 =>
 ∃ (a13 : OA) (n13 k13 : Nat), v_7 = vL a13 n13 k13 ∧
 ∃ (m13 : Nat), m13 < m11 ∧ I_3 m13 a11 n11 k11 a13 n13 k13 (IntKind.i64.wrap (i15 + 1)) h_17 ∧
 True))
 (∃ (b23 o16 : Nat), a1 = some ⟨b23, o16, none⟩ ∧ (0 ≤ i15 ∧ i15 < n1) ∧
 ∃ (i18 : Int), h_15.cell b23 (o16 + (i15).toNat * 2) = some (vU i18) ∧
 br (!((i18 == 115) == ((Int.tmod (IntKind.i64.wrap (i15 - i1)) 2) == 1)))
 (Q (vT [vL none 0 0, vL none 0 0, vB false]) h_15)
 (br (!(i18 == 115))
 (∃ (b24 o17 : Nat), a1 = some ⟨b24, o17, none⟩ ∧ (0 ≤ i15 ∧ i15 < n1) ∧
 ∃ (i19 : Int), h_15.cell b24 (o17 + (i15).toNat * 2) = some (vU i19) ∧
 br (i19 != 44)
 (Q (vT [vL none 0 0, vL none 0 0, vB false]) h_15)
 (br (i15 == (IntKind.i64.wrap (((n1 : Nat) : Int) - 1)))
 (Q (vT [vL none 0 0, vL none 0 0, vB false]) h_15)
 (br (i18 == 115)
 (∃ (b25 o18 : Nat), a1 = some ⟨b25, o18, none⟩ ∧ (0 ≤ i15 ∧ i15 < n1) ∧
 ∃ (i20 : Int) (l8 : Bs), h_15.row b25 (o18 + (i15).toNat * 2) [vU i20, vS l8] ∧
 ∀ (b26 : Nat), h_15 b26 = none → ∀ (h_18 : PHeap), h_18 = h_15.put b26 (.cells ⟨[vU i20, vS l8]⟩ 180) →
 Raw Tryz.prog (execOp (rho [(107, vL a12 n12 k12), (112, vL (ad b26 0) 1 1)]) (mkO o95_22 138)) h_18 fun v_8 h_19 =>
 ∃ (a14 : OA) (n14 k14 : Nat), v_8 = vL a14 n14 k14 ∧
 ∃ (m14 : Nat), m14 < m11 ∧ I_3 m14 a11 n11 k11 a14 n14 k14 (IntKind.i64.wrap (i15 + 1)) h_19 ∧
 True)
 (∃ (m15 : Nat), m15 < m11 ∧ I_3 m15 a11 n11 k11 a12 n12 k12 (IntKind.i64.wrap (i15 + 1)) h_15 ∧
 True))))
 (br (i18 == 115)
 (∃ (b27 o19 : Nat), a1 = some ⟨b27, o19, none⟩ ∧ (0 ≤ i15 ∧ i15 < n1) ∧
 ∃ (i21 : Int) (l9 : Bs), h_15.row b27 (o19 + (i15).toNat * 2) [vU i21, vS l9] ∧
 ∀ (b28 : Nat), h_15 b28 = none → ∀ (h_20 : PHeap), h_20 = h_15.put b28 (.cells ⟨[vU i21, vS l9]⟩ 180) →
 Raw Tryz.prog (execOp (rho [(107, vL a12 n12 k12), (112, vL (ad b28 0) 1 1)]) (mkO o95_22 138)) h_20 fun v_9 h_21 =>
 ∃ (a15 : OA) (n15 k15 : Nat), v_9 = vL a15 n15 k15 ∧
 ∃ (m16 : Nat), m16 < m11 ∧ I_3 m16 a11 n11 k11 a15 n15 k15 (IntKind.i64.wrap (i15 + 1)) h_21 ∧
 True)
 (∃ (m17 : Nat), m17 < m11 ∧ I_3 m17 a11 n11 k11 a12 n12 k12 (IntKind.i64.wrap (i15 + 1)) h_15 ∧
 True)))))
 (Q (vT [vL a11 n11 k11, vL a12 n12 k12, vB true]) h_15)))))
 (br (i1 == ((n1 : Nat) : Int))
 (Q (vT [vL a2 n2 k2, vL none 0 0, vB true]) h_1)
 (∃ (b29 o20 : Nat), a1 = some ⟨b29, o20, none⟩ ∧ (0 ≤ i1 ∧ i1 < n1) ∧
 ∃ (i22 : Int), h_1.cell b29 (o20 + (i1).toNat * 2) = some (vU i22) ∧
 br (i22 != 119)
 (Q (vT [vL none 0 0, vL none 0 0, vB false]) h_1)
 (∃ (b30 o21 : Nat), a1 = some ⟨b30, o21, none⟩ ∧ (0 ≤ i1 ∧ i1 < n1) ∧
 ∃ (i23 : Int) (l10 : Bs), h_1.row b30 (o21 + (i1).toNat * 2) [vU i23, vS l10] ∧
 ∀ (b31 : Nat), h_1 b31 = none → ∀ (h_22 : PHeap), h_22 = h_1.put b31 (.cells ⟨[vU i23, vS l10]⟩ 180) →
 Raw Tryz.prog (execOp (rho [(51, vL none 0 0), (56, vL (ad b31 0) 1 1)]) (mkO o95_9 138)) h_22 fun v_10 h_23 =>
 ∃ (a16 : OA) (n16 k16 : Nat), v_10 = vL a16 n16 k16 ∧
 ∃ (I_4 : Nat → OA → Nat → Nat → OA → Nat → Nat → Int → PHeap → Prop), (∃ (m19 : Nat), I_4 m19 a2 n2 k2 a16 n16 k16 (IntKind.i64.wrap (i1 + 1)) h_23) ∧
 ∀ (m18 : Nat) (a17 : OA) (n17 : Nat) (k17 : Nat) (a18 : OA) (n18 : Nat) (k18 : Nat) (i24 : Int) (h_24 : PHeap), I_4 m18 a17 n17 k17 a18 n18 k18 i24 h_24 →
 br (decide (i24 < ((n1 : Nat) : Int)))
 (∃ (b32 o22 : Nat), a1 = some ⟨b32, o22, none⟩ ∧ (0 ≤ i24 ∧ i24 < n1) ∧
 ∃ (i25 : Int), h_24.cell b32 (o22 + (i24).toNat * 2) = some (vU i25) ∧
 br (i25 == 119)
 (br (!(true == ((Int.tmod (IntKind.i64.wrap (i24 - i1)) 2) == 1)))
 (Q (vT [vL none 0 0, vL none 0 0, vB false]) h_24)
 (∃ (b33 o23 : Nat), a1 = some ⟨b33, o23, none⟩ ∧ (0 ≤ i24 ∧ i24 < n1) ∧
 ∃ (i26 : Int) (l11 : Bs), h_24.row b33 (o23 + (i24).toNat * 2) [vU i26, vS l11] ∧
 ∀ (b34 : Nat), h_24 b34 = none → ∀ (h_25 : PHeap), h_25 = h_24.put b34 (.cells ⟨[vU i26, vS l11]⟩ 180) →
 Raw Tryz.prog (execOp (rho [(107, vL a18 n18 k18), (112, vL (ad b34 0) 1 1)]) (mkO o95_22 138)) h_25 fun v_11 h_26 =>
 ∃ (a19 : OA) (n19 k19 : Nat), v_11 = vL a19 n19 k19 ∧
 ∃ (m20 : Nat), m20 < m18 ∧ I_4 m20 a17 n17 k17 a19 n19 k19 (IntKind.i64.wrap (i24 + 1)) h_26 ∧
 True))
 (∃ (b35 o24 : Nat), a1 = some ⟨b35, o24, none⟩ ∧ (0 ≤ i24 ∧ i24 < n1) ∧
 ∃ (i27 : Int), h_24.cell b35 (o24 + (i24).toNat * 2) = some (vU i27) ∧
 br (!((i27 == 115) == ((Int.tmod (IntKind.i64.wrap (i24 - i1)) 2) == 1)))
 (Q (vT [vL none 0 0, vL none 0 0, vB false]) h_24)
 (br (!(i27 == 115))
 (∃ (b36 o25 : Nat), a1 = some ⟨b36, o25, none⟩ ∧ (0 ≤ i24 ∧ i24 < n1) ∧
 ∃ (i28 : Int), h_24.cell b36 (o25 + (i24).toNat * 2) = some (vU i28) ∧
 br (i28 != 44)
 (Q (vT [vL none 0 0, vL none 0 0, vB false]) h_24)
 (br (i24 == (IntKind.i64.wrap (((n1 : Nat) : Int) - 1)))
 (Q (vT [vL none 0 0, vL none 0 0, vB false]) h_24)
 (br (i27 == 115)
 (∃ (b37 o26 : Nat), a1 = some ⟨b37, o26, none⟩ ∧ (0 ≤ i24 ∧ i24 < n1) ∧
 ∃ (i29 : Int) (l12 : Bs), h_24.row b37 (o26 + (i24).toNat * 2) [vU i29, vS l12] ∧
 ∀ (b38 : Nat), h_24 b38 = none → ∀ (h_27 : PHeap), h_27 = h_24.put b38 (.cells ⟨[vU i29, vS l12]⟩ 180) →
 Raw Tryz.prog (execOp (rho [(107, vL a18 n18 k18), (112, vL (ad b38 0) 1 1)]) (mkO o95_22 138)) h_27 fun v_12 h_28 =>
 ∃ (a20 : OA) (n20 k20 : Nat), v_12 = vL a20 n20 k20 ∧
 ∃ (m21 : Nat), m21 < m18 ∧ I_4 m21 a17 n17 k17 a20 n20 k20 (IntKind.i64.wrap (i24 + 1)) h_28 ∧
 True)
 (∃ (m22 : Nat), m22 < m18 ∧ I_4 m22 a17 n17 k17 a18 n18 k18 (IntKind.i64.wrap (i24 + 1)) h_24 ∧
 True))))
 (br (i27 == 115)
 (∃ (b39 o27 : Nat), a1 = some ⟨b39, o27, none⟩ ∧ (0 ≤ i24 ∧ i24 < n1) ∧
 ∃ (i30 : Int) (l13 : Bs), h_24.row b39 (o27 + (i24).toNat * 2) [vU i30, vS l13] ∧
 ∀ (b40 : Nat), h_24 b40 = none → ∀ (h_29 : PHeap), h_29 = h_24.put b40 (.cells ⟨[vU i30, vS l13]⟩ 180) →
 Raw Tryz.prog (execOp (rho [(107, vL a18 n18 k18), (112, vL (ad b40 0) 1 1)]) (mkO o95_22 138)) h_29 fun v_13 h_30 =>
 ∃ (a21 : OA) (n21 k21 : Nat), v_13 = vL a21 n21 k21 ∧
 ∃ (m23 : Nat), m23 < m18 ∧ I_4 m23 a17 n17 k17 a21 n21 k21 (IntKind.i64.wrap (i24 + 1)) h_30 ∧
 True)
 (∃ (m24 : Nat), m24 < m18 ∧ I_4 m24 a17 n17 k17 a18 n18 k18 (IntKind.i64.wrap (i24 + 1)) h_24 ∧
 True)))))
 (Q (vT [vL a17 n17 k17, vL a18 n18 k18, vB true]) h_24))))
theorem T95 {a1 : OA} {n1 : Nat} {k1 : Nat} {h : PHeap} {Q : Value → PHeap → Prop} (hR : R95 a1 n1 k1 h Q) : Tri Tryz.prog 95 [vL a1 n1 k1] h Q :=
 tri_of_dn mixed Tryz.func95 rfl (by kernel_rfl) low95 (rs := [.tmp 2, .tmp 3, .tmp 4]) (by kernel_rfl) rfl (Eq.mpr (by kernel_rfl : dnF Tryz.prog Tryz.f95.ntmps d95 [.tmp 2, .tmp 3, .tmp 4] [vL a1 n1 k1] h Q = R95 a1 n1 k1 h Q) hR)
end Go.Proofs.D
namespace Go.Proofs.D
open Go Go.Den Go.As
set_option maxRecDepth 100000
attribute [local irreducible] IntKind.wrap Tri
def tail95 (a1 : OA) (n1 : Nat) (a2 : OA) (n2 k2 : Nat) (i1 : Int) (h0 : PHeap) (Q : Value → PHeap → Prop) : Prop :=
 br (i1 == ((n1 : Nat) : Int))
 (Q (vT [vL a2 n2 k2, vL none 0 0, vB true]) h0)
 (∃ (b29 o20 : Nat), a1 = some ⟨b29, o20, none⟩ ∧ (0 ≤ i1 ∧ i1 < n1) ∧
 ∃ (i22 : Int), h0.cell b29 (o20 + (i1).toNat * 2) = some (vU i22) ∧
 br (i22 != 119)
 (Q (vT [vL none 0 0, vL none 0 0, vB false]) h0)
 (∃ (b30 o21 : Nat), a1 = some ⟨b30, o21, none⟩ ∧ (0 ≤ i1 ∧ i1 < n1) ∧
 ∃ (i23 : Int) (l10 : Bs), h0.row b30 (o21 + (i1).toNat * 2) [vU i23, vS l10] ∧
 ∀ (b31 : Nat), h0 b31 = none → ∀ (h_22 : PHeap), h_22 = h0.put b31 (.cells ⟨[vU i23, vS l10]⟩ 180) →
 Raw Tryz.prog (execOp (rho [(51, vL none 0 0), (56, vL (ad b31 0) 1 1)]) (mkO o95_9 138)) h_22 fun v_10 h_23 =>
 ∃ (a16 : OA) (n16 k16 : Nat), v_10 = vL a16 n16 k16 ∧
 ∃ (I_4 : Nat → OA → Nat → Nat → OA → Nat → Nat → Int → PHeap → Prop), (∃ (m19 : Nat), I_4 m19 a2 n2 k2 a16 n16 k16 (IntKind.i64.wrap (i1 + 1)) h_23) ∧
 ∀ (m18 : Nat) (a17 : OA) (n17 : Nat) (k17 : Nat) (a18 : OA) (n18 : Nat) (k18 : Nat) (i24 : Int) (h_24 : PHeap), I_4 m18 a17 n17 k17 a18 n18 k18 i24 h_24 →
 br (decide (i24 < ((n1 : Nat) : Int)))
 (∃ (b32 o22 : Nat), a1 = some ⟨b32, o22, none⟩ ∧ (0 ≤ i24 ∧ i24 < n1) ∧
 ∃ (i25 : Int), h_24.cell b32 (o22 + (i24).toNat * 2) = some (vU i25) ∧
 br (i25 == 119)
 (br (!(true == ((Int.tmod (IntKind.i64.wrap (i24 - i1)) 2) == 1)))
 (Q (vT [vL none 0 0, vL none 0 0, vB false]) h_24)
 (∃ (b33 o23 : Nat), a1 = some ⟨b33, o23, none⟩ ∧ (0 ≤ i24 ∧ i24 < n1) ∧
 ∃ (i26 : Int) (l11 : Bs), h_24.row b33 (o23 + (i24).toNat * 2) [vU i26, vS l11] ∧
 ∀ (b34 : Nat), h_24 b34 = none → ∀ (h_25 : PHeap), h_25 = h_24.put b34 (.cells ⟨[vU i26, vS l11]⟩ 180) →
 Raw Tryz.prog (execOp (rho [(107, vL a18 n18 k18), (112, vL (ad b34 0) 1 1)]) (mkO o95_22 138)) h_25 fun v_11 h_26 =>
 ∃ (a19 : OA) (n19 k19 : Nat), v_11 = vL a19 n19 k19 ∧
 ∃ (m20 : Nat), m20 < m18 ∧ I_4 m20 a17 n17 k17 a19 n19 k19 (IntKind.i64.wrap (i24 + 1)) h_26 ∧
 True))
 (∃ (b35 o24 : Nat), a1 = some ⟨b35, o24, none⟩ ∧ (0 ≤ i24 ∧ i24 < n1) ∧
 ∃ (i27 : Int), h_24.cell b35 (o24 + (i24).toNat * 2) = some (vU i27) ∧
 br (!((i27 == 115) == ((Int.tmod (IntKind.i64.wrap (i24 - i1)) 2) == 1)))
 (Q (vT [vL none 0 0, vL none 0 0, vB false]) h_24)
 (br (!(i27 == 115))
 (∃ (b36 o25 : Nat), a1 = some ⟨b36, o25, none⟩ ∧ (0 ≤ i24 ∧ i24 < n1) ∧
 ∃ (i28 : Int), h_24.cell b36 (o25 + (i24).toNat * 2) = some (vU i28) ∧
 br (i28 != 44)
 (Q (vT [vL none 0 0, vL none 0 0, vB false]) h_24)
 (br (i24 == (IntKind.i64.wrap (((n1 : Nat) : Int) - 1)))
 (Q (vT [vL none 0 0, vL none 0 0, vB false]) h_24)
 (br (i27 == 115)
 (∃ (b37 o26 : Nat), a1 = some ⟨b37, o26, none⟩ ∧ (0 ≤ i24 ∧ i24 < n1) ∧
 ∃ (i29 : Int) (l12 : Bs), h_24.row b37 (o26 + (i24).toNat * 2) [vU i29, vS l12] ∧
 ∀ (b38 : Nat), h_24 b38 = none → ∀ (h_27 : PHeap), h_27 = h_24.put b38 (.cells ⟨[vU i29, vS l12]⟩ 180) →
 Raw Tryz.prog (execOp (rho [(107, vL a18 n18 k18), (112, vL (ad b38 0) 1 1)]) (mkO o95_22 138)) h_27 fun v_12 h_28 =>
 ∃ (a20 : OA) (n20 k20 : Nat), v_12 = vL a20 n20 k20 ∧
 ∃ (m21 : Nat), m21 < m18 ∧ I_4 m21 a17 n17 k17 a20 n20 k20 (IntKind.i64.wrap (i24 + 1)) h_28 ∧
 True)
 (∃ (m22 : Nat), m22 < m18 ∧ I_4 m22 a17 n17 k17 a18 n18 k18 (IntKind.i64.wrap (i24 + 1)) h_24 ∧
 True))))
 (br (i27 == 115)
 (∃ (b39 o27 : Nat), a1 = some ⟨b39, o27, none⟩ ∧ (0 ≤ i24 ∧ i24 < n1) ∧
 ∃ (i30 : Int) (l13 : Bs), h_24.row b39 (o27 + (i24).toNat * 2) [vU i30, vS l13] ∧
 ∀ (b40 : Nat), h_24 b40 = none → ∀ (h_29 : PHeap), h_29 = h_24.put b40 (.cells ⟨[vU i30, vS l13]⟩ 180) →
 Raw Tryz.prog (execOp (rho [(107, vL a18 n18 k18), (112, vL (ad b40 0) 1 1)]) (mkO o95_22 138)) h_29 fun v_13 h_30 =>
 ∃ (a21 : OA) (n21 k21 : Nat), v_13 = vL a21 n21 k21 ∧
 ∃ (m23 : Nat), m23 < m18 ∧ I_4 m23 a17 n17 k17 a21 n21 k21 (IntKind.i64.wrap (i24 + 1)) h_30 ∧
 True)
 (∃ (m24 : Nat), m24 < m18 ∧ I_4 m24 a17 n17 k17 a18 n18 k18 (IntKind.i64.wrap (i24 + 1)) h_24 ∧
 True)))))
 (Q (vT [vL a17 n17 k17, vL a18 n18 k18, vB true]) h_24)))
def RTkAt (h : PHeap) (a : OA) (ts : List Tk) : Prop := ts = [] ∨ ∃ b o, a = ad b o ∧ ∀ j t, ts[j]? = some t → h.row b (o + j * 2) (rtkC t)
def Kd (ts : List Tk) : Prop := ∀ t ∈ ts, t.kind = 1 ∨ t.kind = 2 ∨ t.kind = 3 ∨ t.kind = 4
section
variable {h h' : PHeap} {a : OA} {ts : List Tk}
theorem RTkAt.ext (x : Ext h h') (ht : RTkAt h a ts) : RTkAt h' a ts := by
 rcases ht with ht | ⟨b, o, ha, ht⟩
 · exact .inl ht
 · exact .inr ⟨b, o, ha, fun j t hj => row_ext (fun ob => x b ob) (ht j t hj)⟩
theorem RTkAt.get (ht : RTkAt h a ts) {j : Nat} {t : Tk} (hj : ts[j]? = some t) : ∃ b o, a = ad b o ∧ h.row b (o + j * 2) (rtkC t) := by
 rcases ht with ht | ⟨b, o, ha, ht⟩
 · rw [ht] at hj; simp at hj
 · exact ⟨b, o, ha, ht j t hj⟩
theorem LM.rtk {h0 : PHeap} {n k : Nat} (hM : LM 180 2 h0 h a n k (rtkL ts)) : RTkAt h a ts := by
 have hl := hM.len
 simp only [rtkL, List.length_map] at hl
 rcases hM.row.2 with ⟨h1, h2⟩ | ⟨b, cap, rest, h1, h2, _, _⟩
 · exact .inl (List.eq_nil_of_length_eq_zero (by omega))
 · injection h1 with h1 _ _
   refine .inr ⟨b, 0, h1, fun j t hj => ?_⟩
   have hcs : (rtkL ts)[j]? = some (rtkC t) := by simp [rtkL, hj]
   refine row_lit h2 fun i v hv => ?_
   have := flatten_row (k := 2) (css := rtkL ts) (j := j) (cs := rtkC t) (fun i c hc => hM.each i c hc) hcs i v hv
   rw [Nat.zero_add, List.getElem?_append_left (List.getElem?_eq_some_iff.1 this).1]
   exact this
theorem rk_w (k : Nat) : (rk k == 119) = decide (k = 1) := by
 unfold rk
 by_cases h1 : k = 1
 · subst h1; rfl
 · rw [if_neg h1]
   by_cases h2 : k = 2
   · subst h2; rfl
   · rw [if_neg h2]
     by_cases h3 : k = 3
     · subst h3; rfl
     · rw [if_neg h3]; simp [h1]
theorem rk_s (k : Nat) : (rk k == 115) = decide (k = 2) := by
 unfold rk
 by_cases h1 : k = 1
 · subst h1; rfl
 · rw [if_neg h1]
   by_cases h2 : k = 2
   · subst h2; rfl
   · rw [if_neg h2]
     by_cases h3 : k = 3
     · subst h3; rfl
     · rw [if_neg h3]; simp [h2]
theorem rk_c (k : Nat) : (rk k == 44) = decide (k = 3) := by
 unfold rk
 by_cases h1 : k = 1
 · subst h1; rfl
 · rw [if_neg h1]
   by_cases h2 : k = 2
   · subst h2; rfl
   · rw [if_neg h2]
     by_cases h3 : k = 3
     · subst h3; rfl
     · rw [if_neg h3]; simp [h3]
theorem rk_k {k : Nat} (hk : k = 1 ∨ k = 2 ∨ k = 3 ∨ k = 4) : (rk k == 58) = decide (k = 4) := by
 rcases hk with rfl | rfl | rfl | rfl <;> rfl
def SplP (h : PHeap) (ts : List Tk) (v : Value) (h' : PHeap) : Prop := Ext h h' ∧ match splitL ts with
 | none => v = vT [vL none 0 0, vL none 0 0, vB false]
 | some (ls, none) => ∃ a k, v = vT [vL a ls.length k, vL none 0 0, vB true] ∧ LM 9 1 h h' a ls.length k (sL ls)
 | some (ls, some (n, os)) => ∃ a k a' k', v = vT [vL a ls.length k, vL a' (os.length + 1) k', vB true] ∧ LM 9 1 h h' a ls.length k (sL ls) ∧ LM 180 2 h h' a' (os.length + 1) k' (rtkL (⟨1, n⟩ :: os))
theorem mod_odd {p : Nat} (hp : p ≤ 1000000) : (Int.tmod (IntKind.i64.wrap (((p + 1 : Nat) : Int))) 2 == 1) = decide (p % 2 = 0) := by
 rw [wrap64 (by omega) (by omega)]
 have : Int.tmod ((p + 1 : Nat) : Int) 2 = (((p + 1) % 2 : Nat) : Int) := by
  rw [Int.tmod_eq_emod_of_nonneg (by omega)]; omega
 rw [this]
 by_cases hh : p % 2 = 0
 · rw [decide_eq_true hh, show (p + 1) % 2 = 1 by omega]; rfl
 · rw [decide_eq_false hh, show (p + 1) % 2 = 0 by omega]; rfl
theorem tail_95 {a2 : OA} {k2 j : Nat} {ls0 : List Bytes} {h1 : PHeap} (hT : RTkAt h a ts) (hk : Kd ts) (hn : ts.length ≤ 1000000) (hj : j ≤ ts.length) (hx : Ext h h1) (hM : LM 9 1 h h1 a2 ls0.length k2 (sL ls0))
 (hu : splitL ts = (splitL (ts.drop j)).map fun x => (ls0 ++ x.1, x.2)) (hs : ∀ t u r, ts.drop j = t :: u :: r → t.kind = 1 → u.kind ≠ 4) :
 tail95 a ts.length a2 ls0.length k2 (j : Int) h1 (fun v h' => SplP h ts v h') := by
 unfold tail95
 refine br_split (fun e => ?_) fun e => ?_
 · have e : j = ts.length := by have : (j : Int) = (ts.length : Int) := by simpa using e
                                omega
   rw [e, List.drop_length] at hu
   unfold SplP
   rw [hu]
   simp only [splitL, Option.map_some, List.append_nil]
   exact ⟨hx, a2, k2, rfl, hM⟩
 have e : j < ts.length := by have : (j : Int) ≠ (ts.length : Int) := by simpa using e
                              omega
 have hg : ts[j]? = some ts[j] := by simp [e]
 have hdr := List.drop_eq_getElem_cons e
 generalize ts[j] = t at *
 obtain ⟨b, o, ha, hr⟩ := (hT.ext hx).get hg
 refine ⟨b, o, ha, ⟨by omega, by omega⟩, rk t.kind, by rw [Int.toNat_natCast]; exact hr.1, ?_⟩
 have hne : (rk t.kind != 119) = !decide (t.kind = 1) := by rw [bne, rk_w]
 rw [hne]
 have bad : ∀ h2, Ext h h2 → splitL (ts.drop j) = none → SplP h ts (vT [vL none 0 0, vL none 0 0, vB false]) h2 := fun h2 x2 hh => by
  rw [hh] at hu
  unfold SplP
  rw [hu]
  exact ⟨x2, rfl⟩
 refine br_split (fun e1 => bad h1 hx ?_) fun e1 => ?_
 · have e1 : t.kind ≠ 1 := by simpa using e1
   rw [hdr]; exact splitL_bad e1
 have e1 : t.kind = 1 := by simpa using e1
 have hcs : rtkC t = [vU (rk t.kind), vS t.text] := by unfold rtkC; rw [if_pos (by omega)]
 rw [hcs] at hr
 refine ⟨b, o, ha, ⟨by omega, by omega⟩, rk t.kind, t.text, by rw [Int.toNat_natCast]; exact hr, ?_⟩
 intro b2 hb2 h2 hh2
 refine Raw.mono (LM.push und138 elem180 rfl rfl rfl rfl rfl (Ext.refl h1) LM.nil hb2 hh2 rfl rfl (by omega)) ?_
 rintro _ h3 ⟨b3, cap, rfl, x3, hM3, g3⟩
 refine ⟨_, _, _, rfl, ?_⟩
 have hst : splitL (ts.drop j) = (operandsS (ts.drop (j + 1))).map fun x => ([], some (t.text, x)) := by
  rw [hdr]
  exact splitL_stmt e1 fun u r hur => hs t u r (by rw [hdr, hur]) e1
 have ht1 : t = ⟨1, t.text⟩ := by cases t; simp only at e1; subst e1; rfl
 have hll : (ts.drop (j + 1)).length + j + 1 = ts.length := by rw [List.length_drop]; omega
 have hgl : ∀ p, (ts.drop (j + 1))[p]? = ts[j + 1 + p]? := fun p => List.getElem?_drop
 have hkl : Kd (ts.drop (j + 1)) := fun x hx => hk x (List.mem_of_mem_drop hx)
 rw [operands_ops] at hst
 generalize hl : ts.drop (j + 1) = l at *
 have bad : ∀ h4, Ext h h4 → (opsG 0 l = none ∨ (0 < l.length ∧ l.length % 2 = 0)) → SplP h ts (vT [vL none 0 0, vL none 0 0, vB false]) h4 := fun h4 hx4 ho => by
  refine bad h4 hx4 ?_
  rw [hst]
  by_cases hc : 0 < l.length ∧ l.length % 2 = 0
  · rw [if_pos hc]; rfl
  · rw [if_neg hc, ho.resolve_right hc]; rfl
 have hM3' : LM 180 2 h1 h3 (ad b3 0) (0 + 1) cap (rtkL [t]) := by
  have : rtkL [t] = [[vU (rk t.kind), vS t.text]] := by rw [← hcs]; rfl
  rw [this]; exact hM3
 refine ⟨fun m a5 n5 k5 a6 n6 k6 i h' => ∃ (p : Nat) (os : List Tk), i = ((j + 1 + p : Nat) : Int) ∧ p + m = l.length ∧ a2 = a5 ∧ ls0.length = n5 ∧ k2 = k5 ∧ n6 = os.length + 1 ∧ os.length ≤ p ∧ Ext h1 h' ∧ LM 180 2 h1 h' a6 n6 k6 (rtkL (t :: os)) ∧ opsG 0 l = (opsG p (l.drop p)).map (os ++ ·) ∧ (0 < p → p % 2 = 0 → p < l.length),
  ⟨l.length, 0, [], by rw [wrap64 (by omega) (by omega)]; omega, by omega, rfl, rfl, rfl, rfl, Nat.le_refl _, x3, hM3', by cases hq : opsG 0 l <;> simp [hq], fun h => by omega⟩, ?_⟩
 rintro m _ _ _ a6 _ k6 _ h4 ⟨p, os, rfl, hpm, rfl, rfl, rfl, rfl, hop, x4, hM4, hops, hlast⟩
 have hxx := hx.trans x4
 refine br_split (fun e2 => ?_) fun e2 => ?_
 · have hlt : p < l.length := by have := of_decide_eq_true e2; omega
   have hd := List.drop_eq_getElem_cons hlt
   have hgp : ts[j + 1 + p]? = some l[p] := by rw [← hgl]; simp [hlt]
   have hku := hkl _ (List.getElem_mem hlt)
   rw [hd] at hops
   generalize l[p] = u at *
   obtain ⟨b7, o7, ha7, hr7⟩ := (hT.ext hxx).get hgp
   have hw : IntKind.i64.wrap ((((j + 1 + p : Nat) : Int)) - (j : Int)) = IntKind.i64.wrap ((p + 1 : Nat) : Int) := by congr 1; omega
   have hn1 : IntKind.i64.wrap (((j + 1 + p : Nat) : Int) + 1) = ((j + 1 + (p + 1) : Nat) : Int) := by rw [wrap64 (by omega) (by omega)]; omega
   rw [hw, mod_odd (by omega), Int.toNat_natCast]
   have push : (u.kind = 1 ∨ u.kind = 2) → p % 2 = 0 → ∃ (b9 o7 : Nat), a = some ⟨b9, o7, none⟩ ∧ ((0 : Int) ≤ ((j + 1 + p : Nat) : Int) ∧ ((j + 1 + p : Nat) : Int) < (ts.length : Nat)) ∧
    ∃ (i8 : Int) (l3 : Bs), h4.row b9 (o7 + (j + 1 + p) * 2) [vU i8, vS l3] ∧
    ∀ (b10 : Nat), h4 b10 = none → ∀ (h_7 : PHeap), h_7 = h4.put b10 (.cells ⟨[vU i8, vS l3]⟩ 180) →
    Raw Tryz.prog (execOp (rho [(107, vL a6 (os.length + 1) k6), (112, vL (ad b10 0) 1 1)]) (mkO o95_22 138)) h_7 fun v_3 h_8 =>
    ∃ (a7 : OA) (n7 k7 : Nat), v_3 = vL a7 n7 k7 ∧
    ∃ (m6 : Nat), m6 < m ∧ (∃ (p' : Nat) (os' : List Tk), IntKind.i64.wrap (((j + 1 + p : Nat) : Int) + 1) = ((j + 1 + p' : Nat) : Int) ∧ p' + m6 = l.length ∧ a2 = a2 ∧ ls0.length = ls0.length ∧ k2 = k2 ∧ n7 = os'.length + 1 ∧ os'.length ≤ p' ∧ Ext h1 h_8 ∧ LM 180 2 h1 h_8 a7 n7 k7 (rtkL (t :: os')) ∧ opsG 0 l = (opsG p' (l.drop p')).map (os' ++ ·) ∧ (0 < p' → p' % 2 = 0 → p' < l.length)) ∧ True := fun hk1 hp2 => by
    have hcu : rtkC u = [vU (rk u.kind), vS u.text] := by unfold rtkC; rw [if_pos (by omega)]
    rw [hcu] at hr7
    refine ⟨b7, o7, ha7, ⟨by omega, by omega⟩, _, _, hr7, ?_⟩
    intro b8 hb8 h5 hh5
    refine Raw.mono (LM.push und138 elem180 rfl rfl rfl rfl rfl x4 hM4 hb8 hh5 rfl rfl (by omega)) ?_
    rintro _ h6 ⟨b9, cap, rfl, hx6, hM6, _⟩
    refine ⟨_, _, _, rfl, m - 1, by omega, ⟨p + 1, os ++ [u], hn1, by omega, rfl, rfl, rfl, by simp, by simp; omega, hx6, ?_, ?_, fun _ h => by omega⟩, trivial⟩
    · have : rtkL (t :: (os ++ [u])) = rtkL (t :: os) ++ [[vU (rk u.kind), vS u.text]] := by
       rw [← hcu, ← List.cons_append, rtkL_app]; rfl
      rw [this]; exact hM6
    · rw [hops, opsG, if_pos hp2, if_pos hk1]
      cases opsG (p + 1) (l.drop (p + 1)) <;> simp
   have next : u.kind = 3 → p % 2 ≠ 0 → p + 1 ≠ l.length → ∃ (m8 : Nat), m8 < m ∧ (∃ (p' : Nat) (os' : List Tk), IntKind.i64.wrap (((j + 1 + p : Nat) : Int) + 1) = ((j + 1 + p' : Nat) : Int) ∧ p' + m8 = l.length ∧ a2 = a2 ∧ ls0.length = ls0.length ∧ k2 = k2 ∧ os.length + 1 = os'.length + 1 ∧ os'.length ≤ p' ∧ Ext h1 h4 ∧ LM 180 2 h1 h4 a6 (os.length + 1) k6 (rtkL (t :: os')) ∧ opsG 0 l = (opsG p' (l.drop p')).map (os' ++ ·) ∧ (0 < p' → p' % 2 = 0 → p' < l.length)) ∧ True := fun hk1 hp2 hne => by
    refine ⟨m - 1, by omega, ⟨p + 1, os, hn1, by omega, rfl, rfl, rfl, rfl, by omega, x4, hM4, ?_, fun _ _ => by omega⟩, trivial⟩
    rw [hops, opsG, if_neg hp2, if_pos hk1]
   have hc7 : h4.cell b7 (o7 + (j + 1 + p) * 2) = some (vU (rk u.kind)) := hr7.1
   refine ⟨b7, o7, ha7, ⟨by omega, by omega⟩, _, hc7, ?_⟩
   rw [rk_w]
   refine br_split (fun e3 => br_split (fun e4 => bad h4 hxx (.inl ?_)) fun e4 => push (.inl (of_decide_eq_true e3)) ?_) fun e3 => ⟨b7, o7, ha7, ⟨by omega, by omega⟩, _, hc7, ?_⟩
   · have e4 : p % 2 ≠ 0 := by simpa using e4
     have e3 := of_decide_eq_true e3
     rw [hops, opsG, if_neg e4, if_neg (by omega)]; rfl
   · simpa using e4
   have e3 := of_decide_eq_false e3
   rw [rk_s]
   refine br_split (fun e4 => bad h4 hxx (.inl ?_)) fun e4 => ?_
   · have e4 : ¬ (u.kind = 2 ↔ p % 2 = 0) := fun hh => by
      by_cases h2 : u.kind = 2
      · rw [decide_eq_true h2, decide_eq_true (hh.1 h2)] at e4; cases e4
      · rw [decide_eq_false h2, decide_eq_false fun h => h2 (hh.2 h)] at e4; cases e4
     rw [hops, opsG]
     by_cases hp2 : p % 2 = 0
     · rw [if_pos hp2, if_neg (by omega)]; rfl
     · rw [if_neg hp2, if_neg (by omega)]; rfl
   have e4 : u.kind = 2 ↔ p % 2 = 0 := by
    by_cases h2 : u.kind = 2
    · rw [decide_eq_true h2] at e4
      have : decide (p % 2 = 0) = true := by cases hq : decide (p % 2 = 0) with
       | true => rfl
       | false => rw [hq] at e4; cases e4
      exact ⟨fun _ => of_decide_eq_true this, fun _ => h2⟩
    · rw [decide_eq_false h2] at e4
      have : decide (p % 2 = 0) = false := by cases hq : decide (p % 2 = 0) with
       | false => rfl
       | true => rw [hq] at e4; cases e4
      exact ⟨fun h => absurd h h2, fun h => absurd h (of_decide_eq_false this)⟩
   refine br_split (fun e5 => ⟨b7, o7, ha7, ⟨by omega, by omega⟩, _, hc7, ?_⟩) fun e5 => ?_
   · have e5 : u.kind ≠ 2 := by simpa using e5
     have hp2 : p % 2 ≠ 0 := fun h => e5 (e4.2 h)
     rw [bne, rk_c]
     refine br_split (fun e6 => bad h4 hxx (.inl ?_)) fun e6 => br_split (fun e7 => bad h4 hxx (.inr ?_)) fun e7 => br_neg (decide_eq_false e5) (next (by simpa using e6) hp2 ?_)
     · have e6 : u.kind ≠ 3 := by simpa using e6
       rw [hops, opsG, if_neg hp2, if_neg e6]; rfl
     · have e7 : ((j + 1 + p : Nat) : Int) = IntKind.i64.wrap ((ts.length : Nat) - 1) := by simpa using e7
       rw [wrap64 (by omega) (by omega)] at e7
       omega
     · have e7 : ((j + 1 + p : Nat) : Int) ≠ IntKind.i64.wrap ((ts.length : Nat) - 1) := by simpa using e7
       rw [wrap64 (by omega) (by omega)] at e7
       omega
   · have e5 : u.kind = 2 := by simpa using e5
     exact br_pos (decide_eq_true e5) (push (.inr e5) (e4.1 e5))
 · have hpl : p = l.length := by have := of_decide_eq_false e2; omega
   subst hpl
   rw [List.drop_length] at hops
   simp only [opsG, Option.map_some, List.append_nil] at hops
   refine ⟨hxx, ?_⟩
   rw [hu, hst, if_neg (fun hc => by have := hlast hc.1 hc.2; omega), hops]
   simp only [Option.map_some, List.append_nil]
   refine ⟨a2, k2, a6, k6, rfl, hM.ext x4, ?_⟩
   rw [← ht1]
   exact LM.base hx hM4
theorem rsplit_t {k1 : Nat} (hT : RTkAt h a ts) (hk : Kd ts) (hn : ts.length ≤ 1000000) : Tri Tryz.prog 95 [vL a ts.length k1] h fun v h' => SplP h ts v h' := by
 refine T95 ?_
 unfold R95
 refine ⟨fun m a2 n2 k2 i h' => ∃ (j : Nat) (ls0 : List Bytes), i = (j : Int) ∧ j + m = ts.length ∧ n2 = ls0.length ∧ ls0.length ≤ j ∧ Ext h h' ∧ LM 9 1 h h' a2 n2 k2 (sL ls0) ∧ splitL ts = (splitL (ts.drop j)).map fun x => (ls0 ++ x.1, x.2),
  ⟨ts.length, 0, [], rfl, by omega, rfl, Nat.le_refl _, Ext.refl h, LM.nil, by cases hq : splitL ts <;> simp [hq]⟩, ?_⟩
 rintro m a2 _ k2 _ h1 ⟨j, ls0, rfl, hjm, rfl, hlj, hx, hM, hu⟩
 have tl : (∀ t u r, ts.drop j = t :: u :: r → t.kind = 1 → u.kind ≠ 4) → tail95 a ts.length a2 ls0.length k2 (j : Int) h1 (fun v h' => SplP h ts v h') := fun hs => tail_95 hT hk hn (by omega) hx hM hu hs
 have w1 : IntKind.i64.wrap ((j : Int) + 1) = ((j + 1 : Nat) : Int) := by rw [wrap64 (by omega) (by omega)]; omega
 refine br_split (fun e => ?_) fun e => tl fun t u r hd => ?_
 rotate_left
 · rw [w1] at e
   have e := of_decide_eq_false e
   have := congrArg List.length hd
   simp at this; omega
 rw [w1] at e
 have hlt : j + 1 < ts.length := by have := of_decide_eq_true e; omega
 have hg1 : ts[j]? = some ts[j] := by simp [show j < ts.length by omega]
 have hg2 : ts[j + 1]? = some ts[j + 1] := by simp [hlt]
 have hd1 := List.drop_eq_getElem_cons (show j < ts.length by omega)
 have hd2 := List.drop_eq_getElem_cons hlt
 have hku := hk _ (List.getElem_mem hlt)
 generalize ts[j] = t at *
 generalize ts[j + 1] = u at *
 rw [hd2] at hd1
 obtain ⟨b, o, ha, hr⟩ := (hT.ext hx).get hg1
 obtain ⟨b', o', ha', hr'⟩ := (hT.ext hx).get hg2
 refine ⟨b, o, ha, ⟨by omega, by omega⟩, rk t.kind, by rw [Int.toNat_natCast]; exact hr.1, ?_⟩
 rw [rk_w]
 refine br_split (fun e1 => ⟨b', o', ha', ⟨by rw [w1]; omega, by rw [w1]; omega⟩, rk u.kind, by rw [w1, Int.toNat_natCast]; exact hr'.1, ?_⟩) fun e1 => tl fun t' u' r' hd => ?_
 rotate_left
 · rw [hd1] at hd; injection hd with hd _; subst hd
   intro hh; exact absurd hh (of_decide_eq_false e1)
 have e1 := of_decide_eq_true e1
 rw [rk_k hku]
 refine br_split (fun e2 => ?_) fun e2 => tl fun t' u' r' hd => ?_
 rotate_left
 · rw [hd1] at hd; injection hd with _ hd; injection hd with hd _; subst hd
   intro _; exact of_decide_eq_false e2
 have e2 := of_decide_eq_true e2
 have hcs : rtkC t = [vU (rk t.kind), vS t.text] := by unfold rtkC; rw [if_pos (by omega)]
 rw [hcs] at hr
 refine ⟨b, o, ha, ⟨by omega, by omega⟩, t.text, by rw [Int.toNat_natCast]; exact hr.2, ?_⟩
 intro b4 hb4 h2 hh2
 refine Raw.mono (LM.push und52 elem9 rfl rfl rfl rfl rfl hx hM hb4 hh2 rfl rfl (by omega)) ?_
 rintro _ h3 ⟨b5, cap, rfl, hx3, hM3, _⟩
 refine ⟨_, _, _, rfl, m - 2, by omega, ⟨j + 2, ls0 ++ [t.text], by rw [wrap64 (by omega) (by omega)]; omega, by omega, by simp, by simp; omega, hx3, by rw [sL_app]; exact hM3, ?_⟩, trivial⟩
 rw [hu, hd1, splitL_label e1 e2]
 cases splitL (ts.drop (j + 2)) <;> simp
end
end Go.Proofs.D
namespace Go.Proofs.D
open Go Go.Den Go.As
set_option maxRecDepth 100000
attribute [local irreducible] IntKind.wrap Tri
structure L0 (e k : Nat) (h0 h : PHeap) (a : Option Addr) (n c : Nat) (css : List (List Value)) : Prop where
 own : ∀ b, a = ad b 0 → h0 b = none ∧ h b ≠ none
 len : css.length = n
 each : ∀ (j : Nat) (cs : List Value), css[j]? = some cs → cs.length = k
 row : Own h e k (vL a n c) n css.flatten
section
variable {e k : Nat} {h0 h h' : PHeap} {a : Option Addr} {n c : Nat} {css : List (List Value)}
theorem LM.l0 (hL : LM e k h0 h a n c css) : L0 e k h0 h a n c css := ⟨hL.own, hL.len, hL.each, hL.row⟩
theorem L0.lit {b : Nat} {z : Nat × Nat} (hb : h b = none) (hb0 : h0 b = none) (hh : h' = h.put b (.cells ⟨[]⟩ e z)) (hz : z = (0, 0)) : L0 e k h0 h' (ad b 0) 0 0 [] := by
 subst hz
 refine ⟨fun q hq => ?_, rfl, fun j cs hj => by simp at hj, ⟨by simp, .inr ⟨b, 0, [], rfl, Put.at hh, by simp, Nat.le_refl _⟩⟩⟩
 injection hq with hq; injection hq with hq; subst hq
 exact ⟨hb0, by rw [Put.at hh]; exact fun e => by cases e⟩
theorem L0.ext (x : Ext h h') (hL : L0 e k h0 h a n c css) : L0 e k h0 h' a n c css := by
 obtain ⟨h1, h2, h3, h4, h5⟩ := hL
 refine ⟨fun b hb => ⟨(h1 b hb).1, ?_⟩, h2, h3, h4, ?_⟩
 · cases e1 : h b with
   | none => exact absurd e1 (h1 b hb).2
   | some o => rw [x b o e1]; exact fun e => by cases e
 · rcases h5 with h5 | ⟨b, cap, rest, g1, g2, g3, g4⟩
   · exact .inl h5
   · exact .inr ⟨b, cap, rest, g1, x _ _ g2, g3, g4⟩
theorem L0.okA (hL : L0 e k h0 h a n c css) : Go.Den.okA a n c ∧ n ≤ c := by
 rcases hL.row.2 with ⟨h1, h2⟩ | ⟨b, cap, rest, h1, _, _, h2⟩
 · injection h1 with g1 g2 g3
   exact ⟨.inr ⟨g1, g2, g3⟩, by omega⟩
 · injection h1 with g1 g2 g3
   exact ⟨.inl ⟨b, 0, g1⟩, by omega⟩
theorem L0.rowAt (hL : L0 e k h0 h a n c css) {j : Nat} {cs : List Value} (hj : css[j]? = some cs) : ∃ b, a = ad b 0 ∧ h.row b (0 + j * k) cs := by
 rcases hL.row.2 with ⟨_, h2⟩ | ⟨b, cap, rest, h1, h2, _, _⟩
 · have := hL.len
   have := (List.getElem?_eq_some_iff.1 hj).1
   omega
 · injection h1 with g1 _ _
   refine ⟨b, g1, row_lit h2 fun i v hv => ?_⟩
   have hfl := flatten_row (k := k) hL.each hj i v hv
   rw [Nat.zero_add, List.getElem?_append_left (List.getElem?_eq_some_iff.1 hfl).1]
   exact hfl
theorem L0.rows {R : Type} {f : R → List Value} {L : List R} (hL : L0 e k h0 h a n c (L.map f)) : L = [] ∨ ∃ b o, a = ad b o ∧ ∀ j r, L[j]? = some r → h.row b (o + j * k) (f r) := by
 cases L with
 | nil => exact .inl rfl
 | cons x t =>
   obtain ⟨b, hb, _⟩ := hL.rowAt (j := 0) (cs := f x) rfl
   refine .inr ⟨b, 0, hb, fun j r hj => ?_⟩
   obtain ⟨b', hb', hr⟩ := hL.rowAt (j := j) (cs := f r) (by rw [List.getElem?_map, hj]; rfl)
   rw [hb] at hb'; injection hb' with hb'; injection hb' with hb'
   subst hb'; exact hr
theorem L0.after {b m cap : Nat} {rest : List Value} {css2 : List (List Value)} {z : Nat × Nat} (hd : ∀ b, h b = none → h0 b = none) (hL : L0 e k h0 h a n c css) (hlen : css2.length = m) (each : ∀ cs ∈ css2, cs.length = k) (hb : h b = none ∨ a = ad b 0)
 (hz : z = (0, 0)) (hr : rest.length = (cap - (n + m)) * k) (hc : n + m ≤ cap) : L0 e k h0 (h.put b (.cells ⟨css.flatten ++ css2.flatten ++ rest⟩ e z)) (ad b 0) (n + m) cap (css ++ css2) := by
 subst hz
 obtain ⟨g2, g3, g4, g5⟩ := hL
 have hb0 : h0 b = none := by
  rcases hb with hb | hb
  · exact hd b hb
  · exact (g2 b hb).1
 refine ⟨fun q hq => ?_, by simp [g3, hlen], fun j cs hj => ?_, ⟨?_, .inr ⟨b, cap, rest, rfl, ?_, hr, hc⟩⟩⟩
 · injection hq with hq; injection hq with hq; subst hq
   exact ⟨hb0, by rw [put_same]; exact fun e => by cases e⟩
 · by_cases hj' : j < css.length
   · rw [List.getElem?_append_left hj'] at hj; exact g4 j cs hj
   · rw [List.getElem?_append_right (by omega)] at hj
     exact each cs (List.mem_of_getElem? hj)
 · have h1 := g5.1
   have h2 : css2.flatten.length = css2.length * k := by
    clear hlen
    induction css2 with
    | nil => simp
    | cons x l ih =>
      rw [List.flatten_cons, List.length_append, ih fun y hy => each y (List.mem_cons_of_mem _ hy), each x (List.mem_cons_self ..), List.length_cons, Nat.add_mul]; omega
   rw [List.flatten_append, List.length_append, h1, h2, hlen, Nat.add_mul]
 · rw [put_same, List.flatten_append]
theorem L0.extend2 {t t2 ty : TypeId} (hu : Tryz.prog.underlying t = some (.slice e)) (he : ElemT e k) {ρ : Operand → Value} {cl : Call} {x y : Operand} (hcl : cl.callee = .builtin .append) (hca : cl.args = #[x, y]) (hts : cl.argTypes = #[t, t2])
 {vy : Value} {css2 : List (List Value)} {m : Nat} (hx : ρ x = vL a n c) (hy : ρ y = vy) (hx0 : Ext h0 h) (hL : L0 e k h0 h a n c css) (hsrc : SrcH Tryz.prog h k t2 vy m css2.flatten) (hlen : css2.length = m) (each : ∀ cs ∈ css2, cs.length = k) (hn : n + m ≤ 10000000) :
 Raw Tryz.prog (execOp ρ (mkO (.call cl) ty)) h fun w h2 => ∃ a' c', w = vL a' (n + m) c' ∧ Ext h0 h2 ∧ (∀ q o, a ≠ ad q 0 → h q = some o → h2 q = some o) ∧ L0 e k h0 h2 a' (n + m) c' (css ++ css2) := by
 obtain ⟨i, z, hi, hz, hzc, hk, hby⟩ := he
 subst hk
 by_cases hm : 0 < m
 · have hbig : (16 * (n + m) + 16384) * i.bytes ≤ 281474976710656 := by
    have : (16 * (n + m) + 16384) * i.bytes ≤ (16 * (n + m) + 16384) * 200 := Nat.mul_le_mul_left _ hby
    omega
   refine Raw.mono (raw_append hcl hca hts hu hi hz hx hy hL.row hsrc hzc hm hbig (by omega)) ?_
   rintro v h2 ⟨b, cap, rest, rfl, rfl, hr, hcap, hb⟩
   have hb' : h b = none ∨ a = ad b 0 := hb.imp id fun ⟨c2, hb⟩ => by injection hb with h1 h2 h3
   have hM := L0.after hx0.dom hL hlen each hb' rfl hr hcap
   refine ⟨ad b 0, cap, rfl, fun q o hq => ?_, fun q o ha hq => ?_, hM⟩
   rotate_left
   · have hqb : q ≠ b := fun e => by
      subst e
      rcases hb' with hb' | hb'
      · rw [hb'] at hq; cases hq
      · exact ha hb'
     rw [put_ne hqb]; exact hq
   have hqb : q ≠ b := fun e => by subst e; rw [(hM.own q rfl).1] at hq; cases hq
   rw [put_ne hqb]; exact hx0 q o hq
 · obtain rfl : m = 0 := by omega
   have hc2 : css2 = [] := List.eq_nil_of_length_eq_zero hlen
   subst hc2
   intro w hs
   have hS := hsrc w hs
   have hle := hL.okA.2
   have hexec : (execOp ρ (mkO (.call cl) ty)).run Tryz.prog w = ((Builtin.append_ #[t, t2] ty #[vL a n c, vy]).run Tryz.prog w).andThen fun v w' => .ok (.value v) w' := by
    simp [execOp, mkO, resolve, hcl, hca, hts, hx, hy, invoke, builtin]
   have hrun : (Builtin.append_ #[t, t2] ty #[vL a n c, vy]).run Tryz.prog w = .ok (vL a n c) w := by
    rcases hS.kind with ⟨e', hk⟩ | hk <;> cases a <;> simp [Builtin.append_, run_underlying hu, run_underlying hk, sizeOf, typeInfo, hi, hS.len, hle, hS.cells, storeCells]
   rw [hexec, hrun]
   exact ⟨_, _, w, h, rfl, .inl rfl, ⟨a, c, rfl, hx0, fun _ _ _ hq => hq, by rw [List.append_nil]; exact hL⟩, hs, Keep.refl w h⟩
theorem L0.extend {t t2 ty : TypeId} (hu : Tryz.prog.underlying t = some (.slice e)) (he : ElemT e k) {ρ : Operand → Value} {cl : Call} {x y : Operand} (hcl : cl.callee = .builtin .append) (hca : cl.args = #[x, y]) (hts : cl.argTypes = #[t, t2])
 {vy : Value} {css2 : List (List Value)} {m : Nat} (hx : ρ x = vL a n c) (hy : ρ y = vy) (hx0 : Ext h0 h) (hL : L0 e k h0 h a n c css) (hsrc : SrcH Tryz.prog h k t2 vy m css2.flatten) (hlen : css2.length = m) (each : ∀ cs ∈ css2, cs.length = k) (hn : n + m ≤ 10000000) :
 Raw Tryz.prog (execOp ρ (mkO (.call cl) ty)) h fun w h2 => ∃ a' c', w = vL a' (n + m) c' ∧ Ext h0 h2 ∧ L0 e k h0 h2 a' (n + m) c' (css ++ css2) :=
 Raw.mono (L0.extend2 hu he hcl hca hts hx hy hx0 hL hsrc hlen each hn) fun _ _ ⟨a', c', h1, h2, _, h3⟩ => ⟨a', c', h1, h2, h3⟩
theorem row_flat {b : Nat} : ∀ {css : List (List Value)} {o : Nat}, (∀ (j : Nat) (cs : List Value), css[j]? = some cs → cs.length = k ∧ h.row b (o + j * k) cs) → ∀ (i : Nat) (v : Value), css.flatten[i]? = some v → h.cell b (o + i) = some v
 | [], o, _, i, v, hi => by simp at hi
 | c :: css, o, hr, i, v, hi => by
   obtain ⟨h1, h2⟩ := hr 0 c rfl
   rw [Nat.zero_mul, Nat.add_zero] at h2
   rw [List.flatten_cons] at hi
   by_cases hlt : i < c.length
   · rw [List.getElem?_append_left hlt] at hi
     exact row_get h2 hi
   · rw [List.getElem?_append_right (by omega)] at hi
     have := row_flat (css := css) (o := o + k) (fun j cs hj => by
      have := hr (j + 1) cs (by simpa using hj)
      rw [Nat.add_mul, Nat.one_mul] at this
      exact ⟨this.1, by rw [show o + k + j * k = o + (j * k + k) by omega]; exact this.2⟩) (i - c.length) v hi
     rw [h1] at this hlt
     rw [show o + i = o + k + (i - k) by omega]; exact this
theorem src_rows {t : TypeId} (hu : Tryz.prog.underlying t = some (.slice e)) {R : Type} {f : R → List Value} {L : List R} {a : OA} {c : Nat} (hok : okA a L.length c) (hr : L = [] ∨ ∃ b o, a = ad b o ∧ ∀ j r, L[j]? = some r → h.row b (o + j * k) (f r)) (hf : ∀ r, (f r).length = k ∧ allOne (f r) = true) :
 SrcH Tryz.prog h k t (vL a L.length c) L.length (L.map f).flatten := by
 have hlen : ∀ (l : List R), ((l.map f).flatten).length = l.length * k := fun l => by
  induction l with
  | nil => simp
  | cons x l ih => rw [List.map_cons, List.flatten_cons, List.length_append, ih, (hf x).1, List.length_cons, Nat.add_mul]; omega
 have hone : ∀ (l : List R), allOne ((l.map f).flatten) = true := fun l => by
  have app : ∀ (x y : List Value), allOne x = true → allOne y = true → allOne (x ++ y) = true := fun x y hx hy => by
   induction x with
   | nil => exact hy
   | cons v x ih => simp only [allOne, List.cons_append, Bool.and_eq_true] at hx ⊢; exact ⟨hx.1, ih hx.2⟩
  induction l with
  | nil => rfl
  | cons x l ih => rw [List.map_cons, List.flatten_cons]; exact app _ _ (hf x).2 ih
 by_cases h0 : L = []
 · subst h0
   rcases hok with ⟨b, o, rfl⟩ | ⟨rfl, _, _⟩
   · exact SrcH.row hu (by simp) trivial rfl
   · exact SrcH.nil hu
 · obtain ⟨b, o, rfl, hb⟩ := hr.resolve_left h0
   refine SrcH.row hu (hlen L) (Go.Den.row_of _ o ?_) (hone L)
   refine row_flat (k := k) fun j cs hj => ?_
   rw [List.getElem?_map] at hj
   obtain ⟨r, h1, rfl⟩ := Option.map_eq_some_iff.1 hj
   exact ⟨(hf r).1, hb j r h1⟩
theorem L0.push {t ty : TypeId} (hu : Tryz.prog.underlying t = some (.slice e)) (he : ElemT e k) {ρ : Operand → Value} {cl : Call} {x y : Operand} (hcl : cl.callee = .builtin .append) (hca : cl.args = #[x, y]) (hts : cl.argTypes = #[t, t])
 {b2 : Nat} {cs : List Value} {t3 : TypeId} {z : Nat × Nat} (hx : ρ x = vL a n c) (hy : ρ y = vL (ad b2 0) 1 1) (hx0 : Ext h0 h) (hL : L0 e k h0 h a n c css) (hb : h b2 = some (.cells ⟨cs⟩ t3 z)) (hl : cs.length = k) (h1 : allOne cs = true) (hn : n ≤ 9000000) :
 Raw Tryz.prog (execOp ρ (mkO (.call cl) ty)) h fun w h2 => ∃ a' c', w = vL a' (n + 1) c' ∧ Ext h0 h2 ∧ L0 e k h0 h2 a' (n + 1) c' (css ++ [cs]) := by
 refine L0.extend hu he hcl hca hts hx hy hx0 hL (css2 := [cs]) (m := 1) ?_ rfl (fun c hc => by simp at hc; subst hc; exact hl) (by omega)
 have : ([cs] : List (List Value)).flatten = cs := by simp
 rw [this]
 exact SrcH.row hu (by omega) (row_lit hb fun j v hj => by simpa using hj) h1
theorem copy2 {t ty ty2 : TypeId} (hu : Tryz.prog.underlying t = some (.slice e)) (he : ElemT e k) {R : Type} {f : R → List Value} (hf : ∀ r, (f r).length = k ∧ allOne (f r) = true) {L : List R} {a : OA} {c b : Nat} {z : Nat × Nat}
 (hok : okA a L.length c) (hr : L = [] ∨ ∃ b o, a = ad b o ∧ ∀ j r, L[j]? = some r → h.row b (o + j * k) (f r)) (hb : h b = none) (hh : h' = h.put b (.cells ⟨[]⟩ e z)) (hz : z = (0, 0)) (hn : L.length ≤ 9000000)
 {ρ : Operand → Value} {cl : Call} {x y : Operand} (hcl : cl.callee = .builtin .append) (hca : cl.args = #[x, y]) (hts : cl.argTypes = #[t, t]) (hx : ρ x = vL (ad b 0) 0 0) (hy : ρ y = vL a L.length c) :
 Raw Tryz.prog (execOp ρ (mkO (.call cl) ty)) h' fun w h2 => ∃ a' c', w = vL a' L.length c' ∧ Ext h h2 ∧ L0 e k h h2 a' L.length c' (L.map f) := by
 have hr' : L = [] ∨ ∃ b o, a = ad b o ∧ ∀ j r, L[j]? = some r → h'.row b (o + j * k) (f r) := hr.imp id fun ⟨b', o, h1, h2⟩ => ⟨b', o, h1, fun j r hj => row_ext (fun ob => Put.ext hh hb b' ob) (h2 j r hj)⟩
 have := L0.extend (h0 := h) (h := h') (ty := ty) (t2 := t) hu he hcl hca hts hx hy (Put.ext hh hb) (L0.lit hb hb hh hz) (src_rows hu hok hr' hf) (by simp) (fun cs hc => by obtain ⟨r, _, rfl⟩ := List.mem_map.1 hc; exact (hf r).1) (by omega)
 simpa using this
end
end Go.Proofs.D
namespace Go.Proofs.D
open Go Go.Den
set_option maxRecDepth 100000
set_option maxHeartbeats 4000000
noncomputable def d63 : DCode := up ⟨[], [], []⟩ (low Tryz.prog (fun _ => false) (Tryz.f63.body.getD .skip))
theorem low63 : low Tryz.prog (fun _ => false) (Tryz.f63.body.getD .skip) = some (eC d63) := by kernel_rfl
def R63 (i1 : Int) (h : PHeap) (Q : Value → PHeap → Prop) : Prop :=
 br (decide (i1 < 0))
 (Q (vT [vI 0, vI 11]) h)
 (br (decide (i1 > 26))
 (Q (vT [vI 0, vI 11]) h)
 (br (i1 == 0)
 (Q (vT [vI 0, vI 0]) h)
 (br (i1 == 1)
 (Q (vT [vI 2, vI 0]) h)
 (br (i1 == 2)
 (Q (vT [vI 4, vI 0]) h)
 (br (i1 == 3)
 (Q (vT [vI 4, vI 0]) h)
 (br (decide (i1 ≥ 22))
 (br (decide (i1 ≤ 24))
 (Q (vT [vI 4, vI 0]) h)
 (br (decide (i1 ≤ 15))
 (Q (vT [vI 3, vI 0]) h)
 (br (decide (i1 ≤ 20))
 (Q (vT [vI 5, vI 0]) h)
 (br (i1 == 25)
 (Q (vT [vI 1, vI 0]) h)
 (Q (vT [vI 6, vI 0]) h)))))
 (br (decide (i1 ≤ 15))
 (Q (vT [vI 3, vI 0]) h)
 (br (decide (i1 ≤ 20))
 (Q (vT [vI 5, vI 0]) h)
 (br (i1 == 25)
 (Q (vT [vI 1, vI 0]) h)
 (Q (vT [vI 6, vI 0]) h))))))))))
theorem T63 {i1 : Int} {h : PHeap} {Q : Value → PHeap → Prop} (hR : R63 i1 h Q) : Tri Tryz.prog 63 [vI i1] h Q :=
 tri_of_dn mixed Tryz.func63 rfl (by kernel_rfl) low63 (rs := [.tmp 2, .tmp 3]) (by kernel_rfl) rfl (Eq.mpr (by kernel_rfl : dnF Tryz.prog Tryz.f63.ntmps d63 [.tmp 2, .tmp 3] [vI i1] h Q = R63 i1 h Q) hR)
noncomputable def d64 : DCode := up ⟨[], [], []⟩ (low Tryz.prog (fun _ => false) (Tryz.f64.body.getD .skip))
theorem low64 : low Tryz.prog (fun _ => false) (Tryz.f64.body.getD .skip) = some (eC d64) := by kernel_rfl
def R64 (i1 : Int) (h : PHeap) (Q : Value → PHeap → Prop) : Prop :=
 br (decide (i1 ≥ 1))
 (Q (vB (decide (i1 ≤ 5))) h)
 (Q (vB false) h)
theorem T64 {i1 : Int} {h : PHeap} {Q : Value → PHeap → Prop} (hR : R64 i1 h Q) : Tri Tryz.prog 64 [vI i1] h Q :=
 tri_of_dn mixed Tryz.func64 rfl (by kernel_rfl) low64 (rs := [.tmp 2]) (by kernel_rfl) rfl (Eq.mpr (by kernel_rfl : dnF Tryz.prog Tryz.f64.ntmps d64 [.tmp 2] [vI i1] h Q = R64 i1 h Q) hR)
noncomputable def d65 : DCode := up ⟨[], [], []⟩ (low Tryz.prog (fun _ => false) (Tryz.f65.body.getD .skip))
theorem low65 : low Tryz.prog (fun _ => false) (Tryz.f65.body.getD .skip) = some (eC d65) := by kernel_rfl
def R65 (i1 : Int) (h : PHeap) (Q : Value → PHeap → Prop) : Prop :=
 br (i1 == 2)
 (Q (vB true) h)
 (br (i1 == 3)
 (Q (vB true) h)
 (Q (vB (i1 == 5)) h))
theorem T65 {i1 : Int} {h : PHeap} {Q : Value → PHeap → Prop} (hR : R65 i1 h Q) : Tri Tryz.prog 65 [vI i1] h Q :=
 tri_of_dn mixed Tryz.func65 rfl (by kernel_rfl) low65 (rs := [.tmp 2]) (by kernel_rfl) rfl (Eq.mpr (by kernel_rfl : dnF Tryz.prog Tryz.f65.ntmps d65 [.tmp 2] [vI i1] h Q = R65 i1 h Q) hR)
noncomputable def d66 : DCode := up ⟨[], [], []⟩ (low Tryz.prog (fun _ => false) (Tryz.f66.body.getD .skip))
theorem low66 : low Tryz.prog (fun _ => false) (Tryz.f66.body.getD .skip) = some (eC d66) := by kernel_rfl
def R66 (i1 : Int) (h : PHeap) (Q : Value → PHeap → Prop) : Prop :=
 Q (vB (decide (i1 ≥ 3))) h
theorem T66 {i1 : Int} {h : PHeap} {Q : Value → PHeap → Prop} (hR : R66 i1 h Q) : Tri Tryz.prog 66 [vI i1] h Q :=
 tri_of_dn mixed Tryz.func66 rfl (by kernel_rfl) low66 (rs := [.tmp 2]) (by kernel_rfl) rfl (Eq.mpr (by kernel_rfl : dnF Tryz.prog Tryz.f66.ntmps d66 [.tmp 2] [vI i1] h Q = R66 i1 h Q) hR)
noncomputable def d67 : DCode := up ⟨[(9, .c (.tup [(false, [qi]), (false, [qi])]))], [], []⟩ (low Tryz.prog (fun _ => false) (Tryz.f67.body.getD .skip))
theorem low67 : low Tryz.prog (fun _ => false) (Tryz.f67.body.getD .skip) = some (eC d67) := by kernel_rfl
def R67 (i1 : Int) (h : PHeap) (Q : Value → PHeap → Prop) : Prop :=
 Tri Tryz.prog 63 [vI i1] h fun v_1 h_1 =>
 ∃ (i2 i3 : Int), v_1 = vT [vI i2, vI i3] ∧
 br (i3 != 0)
 (Q (vT [vI 0, vI 0, vI i3]) h_1)
 (br (decide (i2 < 4))
 (Q (vT [vI 0, vI 0, vI 1]) h_1)
 (br (i1 == 3)
 (Q (vT [vI 0, vI 65535, vI 0]) h_1)
 (br (i1 == 26)
 (Q (vT [vI 0, vI 255, vI 0]) h_1)
 (br (decide (i1 > 20))
 (Q (vT [vI 0, vI 4095, vI 0]) h_1)
 (Q (vT [vI (-32768), vI 32767, vI 0]) h_1)))))
theorem T67 {i1 : Int} {h : PHeap} {Q : Value → PHeap → Prop} (hR : R67 i1 h Q) : Tri Tryz.prog 67 [vI i1] h Q :=
 tri_of_dn mixed Tryz.func67 rfl (by kernel_rfl) low67 (rs := [.tmp 2, .tmp 3, .tmp 4]) (by kernel_rfl) rfl (Eq.mpr (by kernel_rfl : dnF Tryz.prog Tryz.f67.ntmps d67 [.tmp 2, .tmp 3, .tmp 4] [vI i1] h Q = R67 i1 h Q) hR)
end Go.Proofs.D
namespace Go.Proofs.D
open Go Go.Den Go.As
set_option maxRecDepth 100000
attribute [local irreducible] IntKind.wrap Tri
section
variable {h : PHeap}
theorem rform_t (i : Int) : Tri Tryz.prog 63 [vI i] h fun v h' => v = (if 0 ≤ i ∧ i ≤ 26 then vT [vI (form i.toNat), vI 0] else vT [vI 0, vI 11]) ∧ h' = h := by
 refine T63 ?_
 unfold R63
 refine br_split (fun e => ⟨by have := of_decide_eq_true e; rw [if_neg (by omega)], rfl⟩) fun e => br_split (fun e' => ⟨by have := of_decide_eq_true e'; rw [if_neg (by omega)], rfl⟩) fun e' => ?_
 have e := of_decide_eq_false e
 have e' := of_decide_eq_false e'
 rw [if_pos (by omega)]
 obtain ⟨k, rfl⟩ : ∃ k : Nat, i = (k : Int) := ⟨i.toNat, by omega⟩
 rw [Int.toNat_natCast]
 have hk : k < 27 := by omega
 have key : ∀ n : Nat, form k = n → ∀ h', h' = h → vT [vI (n : Int), vI 0] = vT [vI (form k), vI 0] ∧ h' = h := fun n hn h' hh => ⟨by rw [hn], hh⟩
 have eqk : ∀ (n : Nat) (b : Bool), (((k : Nat) : Int) == (n : Int)) = b → (k = n ↔ b = true) := fun n b hb => by rw [← hb]; simp; omega
 have tl : k ≠ 0 → k ≠ 1 → k ≠ 2 → k ≠ 3 → ¬ (22 ≤ k ∧ k ≤ 24) → br (decide ((k : Int) ≤ 15)) (vT [vI 3, vI 0] = vT [vI (form k), vI 0] ∧ h = h) (br (decide ((k : Int) ≤ 20)) (vT [vI 5, vI 0] = vT [vI (form k), vI 0] ∧ h = h) (br ((k : Int) == 25) (vT [vI 1, vI 0] = vT [vI (form k), vI 0] ∧ h = h) (vT [vI 6, vI 0] = vT [vI (form k), vI 0] ∧ h = h))) := fun k0 k1 k2 k3 k4 => by
  have hf : form k = if k ≤ 15 then 3 else if k ≤ 20 then 5 else if k = 25 then 1 else 6 := by
   unfold form; rw [if_neg k0, if_neg k1, if_neg (by omega)]
  refine br_split (fun g => ?_) fun g => br_split (fun g2 => ?_) fun g2 => br_split (fun g3 => ?_) fun g3 => ?_
  · have g := of_decide_eq_true g
    exact key 3 (by rw [hf, if_pos (by omega)]) _ rfl
  · have g := of_decide_eq_false g
    have g2 := of_decide_eq_true g2
    exact key 5 (by rw [hf, if_neg (by omega), if_pos (by omega)]) _ rfl
  · have g := of_decide_eq_false g
    have g2 := of_decide_eq_false g2
    exact key 1 (by rw [hf, if_neg (by omega), if_neg (by omega), if_pos ((eqk 25 _ g3).2 rfl)]) _ rfl
  · have g := of_decide_eq_false g
    have g2 := of_decide_eq_false g2
    have n25 : k ≠ 25 := fun hh => by have := (eqk 25 _ g3).1 hh; cases this
    exact key 6 (by rw [hf, if_neg (by omega), if_neg (by omega), if_neg n25]) _ rfl
 refine br_split (fun g0 => ?_) fun g0 => br_split (fun g1 => ?_) fun g1 => br_split (fun g2 => ?_) fun g2 => br_split (fun g3 => ?_) fun g3 => ?_
 · exact key 0 (by rw [(eqk 0 _ g0).2 rfl]; rfl) _ rfl
 · exact key 2 (by rw [(eqk 1 _ g1).2 rfl]; rfl) _ rfl
 · exact key 4 (by rw [(eqk 2 _ g2).2 rfl]; rfl) _ rfl
 · exact key 4 (by rw [(eqk 3 _ g3).2 rfl]; rfl) _ rfl
 · have n0 : k ≠ 0 := fun hh => by have := (eqk 0 _ g0).1 hh; cases this
   have n1 : k ≠ 1 := fun hh => by have := (eqk 1 _ g1).1 hh; cases this
   have n2 : k ≠ 2 := fun hh => by have := (eqk 2 _ g2).1 hh; cases this
   have n3 : k ≠ 3 := fun hh => by have := (eqk 3 _ g3).1 hh; cases this
   refine br_split (fun g => br_split (fun g' => ?_) fun g' => ?_) fun g => ?_
   · have g := of_decide_eq_true g
     have g' := of_decide_eq_true g'
     exact key 4 (by unfold form; rw [if_neg n0, if_neg n1, if_pos (by omega)]) _ rfl
   · have g' := of_decide_eq_false g'
     exact tl n0 n1 n2 n3 (by omega)
   · have g := of_decide_eq_false g
     exact tl n0 n1 n2 n3 (by omega)
theorem rhasA_t (f : Nat) : Tri Tryz.prog 64 [vI (f : Int)] h fun v h' => v = vB (hasA f) ∧ h' = h := by
 refine T64 ?_
 unfold R64 hasA
 refine br_split (fun e => ⟨?_, rfl⟩) fun e => ⟨?_, rfl⟩
 · have e := of_decide_eq_true e
   congr 1; rw [Bool.eq_iff_iff]; simp; omega
 · have e := of_decide_eq_false e
   congr 1; rw [Bool.eq_iff_iff]; simp; omega
theorem rhasB_t (f : Nat) : Tri Tryz.prog 65 [vI (f : Int)] h fun v h' => v = vB (hasB f) ∧ h' = h := by
 refine T65 ?_
 unfold R65 hasB
 refine br_split (fun e => ⟨?_, rfl⟩) fun e => br_split (fun e' => ⟨?_, rfl⟩) fun e' => ⟨?_, rfl⟩
 all_goals congr 1; rw [Bool.eq_iff_iff]; simp at *; omega
theorem rhasC_t (f : Nat) : Tri Tryz.prog 66 [vI (f : Int)] h fun v h' => v = vB (hasC f) ∧ h' = h := by
 refine T66 ?_
 unfold R66 hasC
 refine ⟨?_, rfl⟩
 congr 1; rw [Bool.eq_iff_iff]; simp; omega
theorem rlimits_t {k : Nat} (hk : k < 27) (hf : 4 ≤ form k) : Tri Tryz.prog 67 [vI (k : Int)] h fun v h' => v = vT [vI (limits k).1, vI (limits k).2, vI 0] ∧ h' = h := by
 refine T67 ?_
 unfold R67
 refine Tri.mono (rform_t (k : Int)) ?_
 rintro _ h1 ⟨rfl, rfl⟩
 rw [if_pos (by omega), Int.toNat_natCast]
 refine ⟨_, _, rfl, br_neg rfl (br_neg (decide_eq_false (by omega)) ?_)⟩
 have eqk : ∀ (n : Nat) (b : Bool), (((k : Nat) : Int) == (n : Int)) = b → (k = n ↔ b = true) := fun n b hb => by rw [← hb]; simp; omega
 unfold limits
 refine br_split (fun g => ?_) fun g => br_split (fun g2 => ?_) fun g2 => br_split (fun g3 => ?_) fun g3 => ?_
 · rw [if_pos ((eqk 3 _ g).2 rfl)]; exact ⟨rfl, rfl⟩
 · have n3 : k ≠ 3 := fun hh => by have := (eqk 3 _ g).1 hh; cases this
   rw [if_neg n3, if_pos ((eqk 26 _ g2).2 rfl)]; exact ⟨rfl, rfl⟩
 · have n3 : k ≠ 3 := fun hh => by have := (eqk 3 _ g).1 hh; cases this
   have n26 : k ≠ 26 := fun hh => by have := (eqk 26 _ g2).1 hh; cases this
   have g3 := of_decide_eq_true g3
   rw [if_neg n3, if_neg n26, if_pos (by omega)]; exact ⟨rfl, rfl⟩
 · have n3 : k ≠ 3 := fun hh => by have := (eqk 3 _ g).1 hh; cases this
   have n26 : k ≠ 26 := fun hh => by have := (eqk 26 _ g2).1 hh; cases this
   have g3 := of_decide_eq_false g3
   rw [if_neg n3, if_neg n26, if_neg (by omega)]; exact ⟨rfl, rfl⟩
end
end Go.Proofs.D
namespace Go.Proofs.D
open Go Go.Den Go.As
set_option maxRecDepth 100000
def lbC (l : Lb) : List Value := [vS l.name, vB l.data, vI l.off]
def LbAt (h : PHeap) (a : OA) (ls : List Lb) : Prop := ls = [] ∨ ∃ b o, a = ad b o ∧ ∀ j l, ls[j]? = some l → h.row b (o + j * 3) (lbC l)
def InAt (h : PHeap) (a : OA) (ls : List Ins) : Prop := ls = [] ∨ ∃ b o, a = ad b o ∧ ∀ j l, ls[j]? = some l → h.row b (o + j * 4) (insC l)
theorem LbAt.ext {h h' : PHeap} {a : OA} {ls : List Lb} (x : Ext h h') (hl : LbAt h a ls) : LbAt h' a ls := by
 rcases hl with h1 | ⟨b, o, h1, h2⟩
 · exact .inl h1
 · exact .inr ⟨b, o, h1, fun j l hj => row_ext (fun ob => x b ob) (h2 j l hj)⟩
theorem InAt.ext {h h' : PHeap} {a : OA} {ls : List Ins} (x : Ext h h') (hl : InAt h a ls) : InAt h' a ls := by
 rcases hl with h1 | ⟨b, o, h1, h2⟩
 · exact .inl h1
 · exact .inr ⟨b, o, h1, fun j l hj => row_ext (fun ob => x b ob) (h2 j l hj)⟩
theorem LbAt.get {h : PHeap} {a : OA} {ls : List Lb} (hl : LbAt h a ls) {j : Nat} {l : Lb} (hj : ls[j]? = some l) : ∃ b o, a = some ⟨b, o, none⟩ ∧ h.row b (o + j * 3) (lbC l) := by
 rcases hl with rfl | ⟨b, o, ha, ht⟩
 · simp at hj
 · exact ⟨b, o, ha, ht j l hj⟩
theorem InAt.get {h : PHeap} {a : OA} {ls : List Ins} (hl : InAt h a ls) {j : Nat} {l : Ins} (hj : ls[j]? = some l) : ∃ b o, a = some ⟨b, o, none⟩ ∧ h.row b (o + j * 4) (insC l) := by
 rcases hl with rfl | ⟨b, o, ha, ht⟩
 · simp at hj
 · exact ⟨b, o, ha, ht j l hj⟩
attribute [local irreducible] IntKind.wrap Tri
theorem raw_makeB {h : PHeap} {N : Nat} {ty : TypeId} {ρ : Operand → Value} {x y : Operand} (hx : ρ x = vI (N : Int)) (hy : ρ y = vI (N : Int)) (hN : N ≤ 1000000) :
 Raw Tryz.prog (execOp ρ (mkO (.makeSlice 40 x y) ty)) h fun v h' => ∃ b, h b = none ∧ v = vL (ad b 0) N N ∧ h' = h.put b (.cells ⟨List.replicate N (byteV 0)⟩ 5 (0, 0)) := by
 intro w hs
 have hinf : ∃ i, Tryz.prog.info? 5 = some i ∧ i.bytes = 1 ∧ i.size = 1 ∧ i.zero = some (byteV 0) := ⟨_, rfl, rfl, rfl, rfl⟩
 obtain ⟨i, hi, hby, hsz, hz⟩ := hinf
 have hrun := run_makeSlice (P := Tryz.prog) w 40 5 i (byteV 0) rfl hi hz .i64 .i64 (N : Int) (N : Int) (by omega) (Int.le_refl _) (by rw [hsz]; omega) (by rw [hby]; omega) (by omega)
 have hmc : madeCells (byteV 0).cells ((N : Int).toNat * i.size) = ⟨List.replicate N (byteV 0)⟩ := by
  rw [hsz, Int.toNat_natCast, Nat.mul_one]
  apply Array.ext'
  show (madeCells #[byteV 0] N).toList = List.replicate N (byteV 0)
  unfold madeCells
  apply List.ext_getElem?
  intro j
  by_cases hj : j < N <;> simp [List.getElem?_replicate, Nat.mod_one, hj]
 rw [hmc] at hrun
 rw [Int.toNat_natCast] at hrun
 refine ⟨.value (vL (ad w.heap.size 0) N N), vL (ad w.heap.size 0) N N, w.alloc (.cells ⟨List.replicate N (byteV 0)⟩ 5), h.put w.heap.size (.cells ⟨List.replicate N (byteV 0)⟩ 5), ?_, .inl rfl, ⟨_, hs.fresh, rfl, rfl⟩, hs.allocReal _, Keep.allocReal w h _⟩
 simp only [execOp, mkO, hx, hy]
 simp [hrun]
end Go.Proofs.D
namespace Go.Proofs.D
open Go Go.Den
set_option maxRecDepth 100000
set_option maxHeartbeats 4000000
abbrev ez4k1 : List CK := [.slice, .str, qi, qi, .slice, .bool, .bool, .bool, .slice, qi]
abbrev ez4k2 : List CK := [qi, qi, qi, qi]
abbrev o134_19 : Op := .call { callee := (.builtin .append), args := #[(.tmp 101), (.tmp 103)], argTypes := #[83, 83] }
abbrev o134_20 : Op := .call { callee := (.builtin .append), args := #[(.tmp 104), (.tmp 105)], argTypes := #[83, 83] }
abbrev o134_26 : Op := .call { callee := (.builtin .append), args := #[(.tmp 134), (.tmp 137)], argTypes := #[29, 29] }
abbrev o134_27 : Op := .call { callee := (.builtin .append), args := #[(.tmp 138), (.tmp 140)], argTypes := #[29, 29] }
noncomputable def d134 : DCode := up ⟨[(23, .c (.tup [(false, [qi]), (false, [qi])])), (29, .l [qi]), (34, .l ez4k1), (45, .l [.int .u8]), (47, .l ez4k1), (75, .c (.tup [(false, [qi]), (false, [qi]), (false, [qi])])), (80, .l ez4k1), (84, .l [.int .u8, .str]), (87, .l [.slice]), (91, .c (.tup [(false, [qi]), (false, [.slice]), (false, [qi])])), (97, .l ez4k1), (103, .l [.slice]), (104, .c (.one false [.slice])), (106, .c (.one false [.slice])), (112, .l [.str]), (113, .c (.one false [qi])), (116, .l ez4k1), (130, .l [.slice]), (133, .l ez4k1), (137, .l [.slice]), (138, .c (.one false [.slice])), (139, .l ez4k2), (141, .c (.one false [.slice])), (144, .l ez4k1)], [], [(35, 15, [(11, qi)], [(6, ez4k1)]), (50, 87, [(13, qi)], [(6, ez4k1), (12, ez4k2), (3, ez4k1)])]⟩ (low Tryz.prog (fun _ => false) (Tryz.f134.body.getD .skip))
theorem low134 : low Tryz.prog (fun _ => false) (Tryz.f134.body.getD .skip) = some (eC d134) := by kernel_rfl
def R134 (a1 : OA) (n1 : Nat) (ez4k1 : Nat) (l1 : Bs) (i1 : Int) (i2 : Int) (a2 : OA) (n2 : Nat) (ez4k2 : Nat) (c1 : Bool) (c2 : Bool) (c3 : Bool) (a3 : OA) (n3 : Nat) (k3 : Nat) (i3 : Int) (i4 : Int) (a4 : OA) (n4 : Nat) (k4 : Nat) (h : PHeap) (Q : Value → PHeap → Prop) : Prop :=
 Tri Tryz.prog 63 [vI i4] h fun v_1 h_1 =>
 ∃ (i5 i6 : Int), v_1 = vT [vI i5, vI i6] ∧
 ∀ (b1 : Nat), h_1 b1 = none → ∀ (h_2 : PHeap), h_2 = h_1.put b1 (.cells ⟨[vI 0, vI 1, vI 2, vI 3, vI 2, vI 3, vI 1]⟩ 3) →
 ∃ (b2 o1 : Nat), (ad b1 0) = some ⟨b2, o1, none⟩ ∧ (0 ≤ i5 ∧ i5 < (7 : Nat)) ∧
 ∃ (i7 : Int), h_2.cell b2 (o1 + (i5).toNat * 1) = some (vI i7) ∧
 br (((n4 : Nat) : Int) != i7)
 (Q (vT [vA [vL a1 n1 ez4k1, vS l1, vI i1, vI i2, vL a2 n2 ez4k2, vB c1, vB c2, vB c3, vL a3 n3 k3, vI i3], vI 30]) h_2)
 (∃ (I_1 : Nat → Int → OA → Nat → Nat → Bs → Int → Int → OA → Nat → Nat → Bool → Bool → Bool → OA → Nat → Nat → Int → PHeap → Prop), (∃ (m2 : Nat), I_1 m2 (0 : Int) none 0 0 [] (0 : Int) (0 : Int) none 0 0 false false false none 0 0 (0 : Int) h_2) ∧
 ∀ (m1 : Nat) (i8 : Int) (a5 : OA) (n5 : Nat) (k5 : Nat) (l2 : Bs) (i9 : Int) (i10 : Int) (a6 : OA) (n6 : Nat) (k6 : Nat) (c4 : Bool) (c5 : Bool) (c6 : Bool) (a7 : OA) (n7 : Nat) (k7 : Nat) (i11 : Int) (h_3 : PHeap), I_1 m1 i8 a5 n5 k5 l2 i9 i10 a6 n6 k6 c4 c5 c6 a7 n7 k7 i11 h_3 →
 br (decide (i8 < ((n4 : Nat) : Int)))
 (∃ (b3 o2 : Nat), a4 = some ⟨b3, o2, none⟩ ∧ (0 ≤ i8 ∧ i8 < n4) ∧
 ∃ (i12 : Int), h_3.cell b3 (o2 + (i8).toNat * 2) = some (vU i12) ∧
 br (i12 == 115)
 (Q (vT [vA [vL a1 n1 ez4k1, vS l1, vI i1, vI i2, vL a2 n2 ez4k2, vB c1, vB c2, vB c3, vL a3 n3 k3, vI i3], vI 30]) h_3)
 (∃ (m3 : Nat), m3 < m1 ∧ I_1 m3 (IntKind.i64.wrap (i8 + 1)) a5 n5 k5 l2 i9 i10 a6 n6 k6 c4 c5 c6 a7 n7 k7 i11 h_3 ∧
 tv [vL a1 n1 ez4k1, vS l1, vI i1, vI i2, vL a2 n2 ez4k2, vB c1, vB c2, vB c3, vL a3 n3 k3, vI i3] ∧ True))
 (∃ (I_2 : Nat → Int → OA → Nat → Nat → Bs → Int → Int → OA → Nat → Nat → Bool → Bool → Bool → OA → Nat → Nat → Int → Int → Int → Int → Int → OA → Nat → Nat → Bs → Int → Int → OA → Nat → Nat → Bool → Bool → Bool → OA → Nat → Nat → Int → PHeap → Prop), (∃ (m5 : Nat), I_2 m5 (0 : Int) a5 n5 k5 l2 i9 i10 a6 n6 k6 c4 c5 c6 a7 n7 k7 i11 i4 (0 : Int) (0 : Int) (0 : Int) a1 n1 ez4k1 l1 i1 i2 a2 n2 ez4k2 c1 c2 c3 a3 n3 k3 i3 h_3) ∧
 ∀ (m4 : Nat) (i13 : Int) (a8 : OA) (n8 : Nat) (k8 : Nat) (l3 : Bs) (i14 : Int) (i15 : Int) (a9 : OA) (n9 : Nat) (k9 : Nat) (c7 : Bool) (c8 : Bool) (c9 : Bool) (a10 : OA) (n10 : Nat) (k10 : Nat) (i16 : Int) (i17 : Int) (i18 : Int) (i19 : Int) (i20 : Int) (a11 : OA) (n11 : Nat) (k11 : Nat) (l4 : Bs) (i21 : Int) (i22 : Int) (a12 : OA) (n12 : Nat) (k12 : Nat) (c10 : Bool) (c11 : Bool) (c12 : Bool) (a13 : OA) (n13 : Nat) (k13 : Nat) (i23 : Int) (h_4 : PHeap), I_2 m4 i13 a8 n8 k8 l3 i14 i15 a9 n9 k9 c7 c8 c9 a10 n10 k10 i16 i17 i18 i19 i20 a11 n11 k11 l4 i21 i22 a12 n12 k12 c10 c11 c12 a13 n13 k13 i23 h_4 →
 br (decide (i13 < ((n4 : Nat) : Int)))
 (br (i5 == 6)
 (Tri Tryz.prog 67 [vI i4] h_4 fun v_2 h_5 =>
 ∃ (i24 i25 i26 : Int), v_2 = vT [vI i24, vI i25, vI i26] ∧
 ∃ (b4 o3 : Nat), a4 = some ⟨b4, o3, none⟩ ∧ (0 ≤ i13 ∧ i13 < n4) ∧
 ∃ (i27 : Int) (l5 : Bs), h_5.row b4 (o3 + (i13).toNat * 2) [vU i27, vS l5] ∧
 Tri Tryz.prog 137 [vA [vL a11 n11 k11, vS l4, vI i21, vI i22, vL a12 n12 k12, vB c10, vB c11, vB c12, vL a13 n13 k13, vI i23], vA [vU i27, vS l5], vI 0, vI ((n11 : Nat) : Int), vI i24, vI i25] h_5 fun v_3 h_6 =>
 ∃ (i28 : Int) (a14 : OA) (n14 k14 : Nat) (i29 : Int), v_3 = vT [vI i28, vL a14 n14 k14, vI i29] ∧
 (tv [vL a11 n11 k11]) ∧
 br (i29 != 0)
 (Q (vT [vA [vL a11 n11 k11, vS l4, vI i21, vI i22, vL a12 n12 k12, vB c10, vB c11, vB c12, vL a13 n13 k13, vI i23], vI i29]) h_6)
 (∀ (b5 : Nat), h_6 b5 = none → ∀ (h_7 : PHeap), h_7 = h_6.put b5 (.cells ⟨[]⟩ 145) →
 Raw Tryz.prog (execOp (rho [(101, vL (ad b5 0) 0 0), (103, vL a13 n13 k13)]) (mkO o134_19 83)) h_7 fun v_4 h_8 =>
 ∃ (a15 : OA) (n15 k15 : Nat), v_4 = vL a15 n15 k15 ∧
 Raw Tryz.prog (execOp (rho [(104, vL a15 n15 k15), (105, vL a14 n14 k14)]) (mkO o134_20 83)) h_8 fun v_5 h_9 =>
 ∃ (a16 : OA) (n16 k16 : Nat), v_5 = vL a16 n16 k16 ∧
 ∃ (m6 : Nat), m6 < m4 ∧ I_2 m6 (IntKind.i64.wrap (i13 + 1)) a8 n8 k8 l3 i14 i15 a9 n9 k9 c7 c8 c9 a10 n10 k10 i16 i17 i18 i19 i28 a11 n11 k11 l4 i21 i22 a12 n12 k12 c10 c11 c12 a16 n16 k16 i23 h_9 ∧
 True))
 (br (i5 == 4)
 (br (i13 == (IntKind.i64.wrap (((n4 : Nat) : Int) - 1)))
 (Tri Tryz.prog 67 [vI i4] h_4 fun v_6 h_10 =>
 ∃ (i30 i31 i32 : Int), v_6 = vT [vI i30, vI i31, vI i32] ∧
 ∃ (b6 o4 : Nat), a4 = some ⟨b6, o4, none⟩ ∧ (0 ≤ i13 ∧ i13 < n4) ∧
 ∃ (i33 : Int) (l6 : Bs), h_10.row b6 (o4 + (i13).toNat * 2) [vU i33, vS l6] ∧
 Tri Tryz.prog 137 [vA [vL a11 n11 k11, vS l4, vI i21, vI i22, vL a12 n12 k12, vB c10, vB c11, vB c12, vL a13 n13 k13, vI i23], vA [vU i33, vS l6], vI 0, vI ((n11 : Nat) : Int), vI i30, vI i31] h_10 fun v_7 h_11 =>
 ∃ (i34 : Int) (a17 : OA) (n17 k17 : Nat) (i35 : Int), v_7 = vT [vI i34, vL a17 n17 k17, vI i35] ∧
 (tv [vL a11 n11 k11]) ∧
 br (i35 != 0)
 (Q (vT [vA [vL a11 n11 k11, vS l4, vI i21, vI i22, vL a12 n12 k12, vB c10, vB c11, vB c12, vL a13 n13 k13, vI i23], vI i35]) h_11)
 (∀ (b7 : Nat), h_11 b7 = none → ∀ (h_12 : PHeap), h_12 = h_11.put b7 (.cells ⟨[]⟩ 145) →
 Raw Tryz.prog (execOp (rho [(101, vL (ad b7 0) 0 0), (103, vL a13 n13 k13)]) (mkO o134_19 83)) h_12 fun v_8 h_13 =>
 ∃ (a18 : OA) (n18 k18 : Nat), v_8 = vL a18 n18 k18 ∧
 Raw Tryz.prog (execOp (rho [(104, vL a18 n18 k18), (105, vL a17 n17 k17)]) (mkO o134_20 83)) h_13 fun v_9 h_14 =>
 ∃ (a19 : OA) (n19 k19 : Nat), v_9 = vL a19 n19 k19 ∧
 ∃ (m7 : Nat), m7 < m4 ∧ I_2 m7 (IntKind.i64.wrap (i13 + 1)) a8 n8 k8 l3 i14 i15 a9 n9 k9 c7 c8 c9 a10 n10 k10 i16 i17 i18 i19 i34 a11 n11 k11 l4 i21 i22 a12 n12 k12 c10 c11 c12 a19 n19 k19 i23 h_14 ∧
 True))
 (∃ (b8 o5 : Nat), a4 = some ⟨b8, o5, none⟩ ∧ (0 ≤ i13 ∧ i13 < n4) ∧
 ∃ (l7 : Bs), h_4.cell b8 ((o5 + (i13).toNat * 2) + 1) = some (vS l7) ∧
 Tri Tryz.prog 55 [vS l7] h_4 fun v_10 h_15 =>
 ∃ (i36 : Int), v_10 = vI i36 ∧
 br (decide (i36 < 0))
 (Q (vT [vA [vL a11 n11 k11, vS l4, vI i21, vI i22, vL a12 n12 k12, vB c10, vB c11, vB c12, vL a13 n13 k13, vI i23], vI 30]) h_15)
 (br (i13 == 0)
 (∃ (m8 : Nat), m8 < m4 ∧ I_2 m8 (IntKind.i64.wrap (i13 + 1)) a8 n8 k8 l3 i14 i15 a9 n9 k9 c7 c8 c9 a10 n10 k10 i16 i17 i36 i19 i20 a11 n11 k11 l4 i21 i22 a12 n12 k12 c10 c11 c12 a13 n13 k13 i23 h_15 ∧
 True)
 (br (i13 == 1)
 (∃ (m9 : Nat), m9 < m4 ∧ I_2 m9 (IntKind.i64.wrap (i13 + 1)) a8 n8 k8 l3 i14 i15 a9 n9 k9 c7 c8 c9 a10 n10 k10 i16 i17 i18 i36 i20 a11 n11 k11 l4 i21 i22 a12 n12 k12 c10 c11 c12 a13 n13 k13 i23 h_15 ∧
 True)
 (∃ (m10 : Nat), m10 < m4 ∧ I_2 m10 (IntKind.i64.wrap (i13 + 1)) a8 n8 k8 l3 i14 i15 a9 n9 k9 c7 c8 c9 a10 n10 k10 i16 i17 i18 i19 i36 a11 n11 k11 l4 i21 i22 a12 n12 k12 c10 c11 c12 a13 n13 k13 i23 h_15 ∧
 True)))))
 (br (i5 == 5)
 (br (i13 == (IntKind.i64.wrap (((n4 : Nat) : Int) - 1)))
 (Tri Tryz.prog 67 [vI i4] h_4 fun v_11 h_16 =>
 ∃ (i37 i38 i39 : Int), v_11 = vT [vI i37, vI i38, vI i39] ∧
 ∃ (b9 o6 : Nat), a4 = some ⟨b9, o6, none⟩ ∧ (0 ≤ i13 ∧ i13 < n4) ∧
 ∃ (i40 : Int) (l8 : Bs), h_16.row b9 (o6 + (i13).toNat * 2) [vU i40, vS l8] ∧
 Tri Tryz.prog 137 [vA [vL a11 n11 k11, vS l4, vI i21, vI i22, vL a12 n12 k12, vB c10, vB c11, vB c12, vL a13 n13 k13, vI i23], vA [vU i40, vS l8], vI 0, vI ((n11 : Nat) : Int), vI i37, vI i38] h_16 fun v_12 h_17 =>
 ∃ (i41 : Int) (a20 : OA) (n20 k20 : Nat) (i42 : Int), v_12 = vT [vI i41, vL a20 n20 k20, vI i42] ∧
 (tv [vL a11 n11 k11]) ∧
 br (i42 != 0)
 (Q (vT [vA [vL a11 n11 k11, vS l4, vI i21, vI i22, vL a12 n12 k12, vB c10, vB c11, vB c12, vL a13 n13 k13, vI i23], vI i42]) h_17)
 (∀ (b10 : Nat), h_17 b10 = none → ∀ (h_18 : PHeap), h_18 = h_17.put b10 (.cells ⟨[]⟩ 145) →
 Raw Tryz.prog (execOp (rho [(101, vL (ad b10 0) 0 0), (103, vL a13 n13 k13)]) (mkO o134_19 83)) h_18 fun v_13 h_19 =>
 ∃ (a21 : OA) (n21 k21 : Nat), v_13 = vL a21 n21 k21 ∧
 Raw Tryz.prog (execOp (rho [(104, vL a21 n21 k21), (105, vL a20 n20 k20)]) (mkO o134_20 83)) h_19 fun v_14 h_20 =>
 ∃ (a22 : OA) (n22 k22 : Nat), v_14 = vL a22 n22 k22 ∧
 ∃ (m11 : Nat), m11 < m4 ∧ I_2 m11 (IntKind.i64.wrap (i13 + 1)) a8 n8 k8 l3 i14 i15 a9 n9 k9 c7 c8 c9 a10 n10 k10 i16 i17 i18 i19 i41 a11 n11 k11 l4 i21 i22 a12 n12 k12 c10 c11 c12 a22 n22 k22 i23 h_20 ∧
 True))
 (∃ (b11 o7 : Nat), a4 = some ⟨b11, o7, none⟩ ∧ (0 ≤ i13 ∧ i13 < n4) ∧
 ∃ (l9 : Bs), h_4.cell b11 ((o7 + (i13).toNat * 2) + 1) = some (vS l9) ∧
 Tri Tryz.prog 55 [vS l9] h_4 fun v_15 h_21 =>
 ∃ (i43 : Int), v_15 = vI i43 ∧
 br (decide (i43 < 0))
 (Q (vT [vA [vL a11 n11 k11, vS l4, vI i21, vI i22, vL a12 n12 k12, vB c10, vB c11, vB c12, vL a13 n13 k13, vI i23], vI 30]) h_21)
 (br (i13 == 0)
 (∃ (m12 : Nat), m12 < m4 ∧ I_2 m12 (IntKind.i64.wrap (i13 + 1)) a8 n8 k8 l3 i14 i15 a9 n9 k9 c7 c8 c9 a10 n10 k10 i16 i17 i43 i19 i20 a11 n11 k11 l4 i21 i22 a12 n12 k12 c10 c11 c12 a13 n13 k13 i23 h_21 ∧
 True)
 (br (i13 == 1)
 (∃ (m13 : Nat), m13 < m4 ∧ I_2 m13 (IntKind.i64.wrap (i13 + 1)) a8 n8 k8 l3 i14 i15 a9 n9 k9 c7 c8 c9 a10 n10 k10 i16 i17 i18 i43 i20 a11 n11 k11 l4 i21 i22 a12 n12 k12 c10 c11 c12 a13 n13 k13 i23 h_21 ∧
 True)
 (∃ (m14 : Nat), m14 < m4 ∧ I_2 m14 (IntKind.i64.wrap (i13 + 1)) a8 n8 k8 l3 i14 i15 a9 n9 k9 c7 c8 c9 a10 n10 k10 i16 i17 i18 i19 i43 a11 n11 k11 l4 i21 i22 a12 n12 k12 c10 c11 c12 a13 n13 k13 i23 h_21 ∧
 True)))))
 (∃ (b12 o8 : Nat), a4 = some ⟨b12, o8, none⟩ ∧ (0 ≤ i13 ∧ i13 < n4) ∧
 ∃ (l10 : Bs), h_4.cell b12 ((o8 + (i13).toNat * 2) + 1) = some (vS l10) ∧
 Tri Tryz.prog 55 [vS l10] h_4 fun v_16 h_22 =>
 ∃ (i44 : Int), v_16 = vI i44 ∧
 br (decide (i44 < 0))
 (Q (vT [vA [vL a11 n11 k11, vS l4, vI i21, vI i22, vL a12 n12 k12, vB c10, vB c11, vB c12, vL a13 n13 k13, vI i23], vI 30]) h_22)
 (br (i13 == 0)
 (∃ (m15 : Nat), m15 < m4 ∧ I_2 m15 (IntKind.i64.wrap (i13 + 1)) a8 n8 k8 l3 i14 i15 a9 n9 k9 c7 c8 c9 a10 n10 k10 i16 i17 i44 i19 i20 a11 n11 k11 l4 i21 i22 a12 n12 k12 c10 c11 c12 a13 n13 k13 i23 h_22 ∧
 True)
 (br (i13 == 1)
 (∃ (m16 : Nat), m16 < m4 ∧ I_2 m16 (IntKind.i64.wrap (i13 + 1)) a8 n8 k8 l3 i14 i15 a9 n9 k9 c7 c8 c9 a10 n10 k10 i16 i17 i18 i44 i20 a11 n11 k11 l4 i21 i22 a12 n12 k12 c10 c11 c12 a13 n13 k13 i23 h_22 ∧
 True)
 (∃ (m17 : Nat), m17 < m4 ∧ I_2 m17 (IntKind.i64.wrap (i13 + 1)) a8 n8 k8 l3 i14 i15 a9 n9 k9 c7 c8 c9 a10 n10 k10 i16 i17 i18 i19 i44 a11 n11 k11 l4 i21 i22 a12 n12 k12 c10 c11 c12 a13 n13 k13 i23 h_22 ∧
 True)))))))
 (br (decide (((n11 : Nat) : Int) ≥ 1024))
 (Q (vT [vA [vL a11 n11 k11, vS l4, vI i21, vI i22, vL a12 n12 k12, vB c10, vB c11, vB c12, vL a13 n13 k13, vI i23], vI 9]) h_4)
 ((∀ (b13 : Nat), h_4 b13 = none → ∀ (h_23 : PHeap), h_23 = h_4.put b13 (.cells ⟨[]⟩ 57) →
 (tv [vI i17, vI i18, vI i19, vI i20]) ∧
 (tv [vL a11 n11 k11]) ∧
 (Raw Tryz.prog (execOp (rho [(134, vL (ad b13 0) 0 0), (137, vL a11 n11 k11)]) (mkO o134_26 29)) h_23 fun v_17 h_24 =>
 ∃ (a23 : OA) (n23 k23 : Nat), v_17 = vL a23 n23 k23 ∧
 (tv [vI i17, vI i18, vI i19, vI i20]) ∧
 ∀ (b14 : Nat), h_24 b14 = none → ∀ (h_25 : PHeap), h_25 = h_24.put b14 (.cells ⟨[vI i17, vI i18, vI i19, vI i20]⟩ 57) →
 Raw Tryz.prog (execOp (rho [(138, vL a23 n23 k23), (140, vL (ad b14 0) 1 1)]) (mkO o134_27 29)) h_25 fun v_18 h_26 =>
 ∃ (a24 : OA) (n24 k24 : Nat), v_18 = vL a24 n24 k24 ∧
 Q (vT [vA [vL a24 n24 k24, vS l4, vI i21, vI i22, vL a12 n12 k12, vB c10, vB c11, vB c12, vL a13 n13 k13, vI i23], vI 0]) h_26) ∧
 (∀ (b15 : Nat), h_23 b15 = none → ∀ (h_27 : PHeap), h_27 = h_23.put b15 (.cells ⟨[vI i17, vI i18, vI i19, vI i20]⟩ 57) →
 (tv [vL a11 n11 k11]) ∧
 Raw Tryz.prog (execOp (rho [(134, vL (ad b13 0) 0 0), (137, vL a11 n11 k11)]) (mkO o134_26 29)) h_27 fun v_19 h_28 =>
 ∃ (a25 : OA) (n25 k25 : Nat), v_19 = vL a25 n25 k25 ∧
 Raw Tryz.prog (execOp (rho [(138, vL a25 n25 k25), (140, vL (ad b15 0) 1 1)]) (mkO o134_27 29)) h_28 fun v_20 h_29 =>
 ∃ (a26 : OA) (n26 k26 : Nat), v_20 = vL a26 n26 k26 ∧
 Q (vT [vA [vL a26 n26 k26, vS l4, vI i21, vI i22, vL a12 n12 k12, vB c10, vB c11, vB c12, vL a13 n13 k13, vI i23], vI 0]) h_29)) ∧
 (∀ (b16 : Nat), h_4 b16 = none → ∀ (h_30 : PHeap), h_30 = h_4.put b16 (.cells ⟨[vI i17, vI i18, vI i19, vI i20]⟩ 57) →
 (tv [vL a11 n11 k11]) ∧
 ∀ (b17 : Nat), h_30 b17 = none → ∀ (h_31 : PHeap), h_31 = h_30.put b17 (.cells ⟨[]⟩ 57) →
 (tv [vL a11 n11 k11]) ∧
 Raw Tryz.prog (execOp (rho [(134, vL (ad b17 0) 0 0), (137, vL a11 n11 k11)]) (mkO o134_26 29)) h_31 fun v_21 h_32 =>
 ∃ (a27 : OA) (n27 k27 : Nat), v_21 = vL a27 n27 k27 ∧
 Raw Tryz.prog (execOp (rho [(138, vL a27 n27 k27), (140, vL (ad b16 0) 1 1)]) (mkO o134_27 29)) h_32 fun v_22 h_33 =>
 ∃ (a28 : OA) (n28 k28 : Nat), v_22 = vL a28 n28 k28 ∧
 Q (vT [vA [vL a28 n28 k28, vS l4, vI i21, vI i22, vL a12 n12 k12, vB c10, vB c11, vB c12, vL a13 n13 k13, vI i23], vI 0]) h_33)))))
theorem T134 {a1 : OA} {n1 : Nat} {ez4k1 : Nat} {l1 : Bs} {i1 : Int} {i2 : Int} {a2 : OA} {n2 : Nat} {ez4k2 : Nat} {c1 : Bool} {c2 : Bool} {c3 : Bool} {a3 : OA} {n3 : Nat} {k3 : Nat} {i3 : Int} {i4 : Int} {a4 : OA} {n4 : Nat} {k4 : Nat} {h : PHeap} {Q : Value → PHeap → Prop} (hR : R134 a1 n1 ez4k1 l1 i1 i2 a2 n2 ez4k2 c1 c2 c3 a3 n3 k3 i3 i4 a4 n4 k4 h Q) : Tri Tryz.prog 134 [vA [vL a1 n1 ez4k1, vS l1, vI i1, vI i2, vL a2 n2 ez4k2, vB c1, vB c2, vB c3, vL a3 n3 k3, vI i3], vI i4, vL a4 n4 k4] h Q :=
 tri_of_dn mixed Tryz.func134 rfl (by kernel_rfl) low134 (rs := [.cell 6 true 10, .tmp 7]) (by kernel_rfl) rfl (Eq.mpr (by kernel_rfl : dnF Tryz.prog Tryz.f134.ntmps d134 [.cell 6 true 10, .tmp 7] [vA [vL a1 n1 ez4k1, vS l1, vI i1, vI i2, vL a2 n2 ez4k2, vB c1, vB c2, vB c3, vL a3 n3 k3, vI i3], vI i4, vL a4 n4 k4] h Q = R134 a1 n1 ez4k1 l1 i1 i2 a2 n2 ez4k2 c1 c2 c3 a3 n3 k3 i3 i4 a4 n4 k4 h Q) hR)
end Go.Proofs.D
namespace Go.As
theorem value_ne {line kind at' e : Nat} {t : Bytes} {lo hi : Int} (h : valueS line t kind at' lo hi = .error e) : e ≠ 0 := by
 unfold valueS at h
 split at h
 · split at h
   · injection h with h; omega
   · cases h
 · split at h
   · cases h
   · injection h with h; omega
theorem regs_snoc {l : List Tk} : ∀ (j : Nat) (rs : List Int) (t : Tk) (r : Nat), l[j]? = some t → regB t.text = some r → (∀ x, regsS l = (regsS (l.drop j)).map x → True) → regsS (l.drop j) = (regsS (l.drop (j + 1))).map ((r : Int) :: ·) := fun j rs t r hj hr _ => by
 obtain ⟨hlt, hx⟩ := List.getElem?_eq_some_iff.1 hj
 rw [List.drop_eq_getElem_cons hlt, hx, regsS, hr]
theorem regs_none {l : List Tk} {j : Nat} {t : Tk} (hj : l[j]? = some t) (hr : regB t.text = none) : regsS (l.drop j) = .error 30 := by
 obtain ⟨hlt, hx⟩ := List.getElem?_eq_some_iff.1 hj
 rw [List.drop_eq_getElem_cons hlt, hx, regsS, hr]
theorem map_nil (r : R (List Int)) : r.map (([] : List Int) ++ ·) = r := by cases r <;> rfl
theorem opsN_tab : ∀ k : Fin 27, operandsN k.val = [0, 1, 2, 3, 2, 3, 1].getD (form k.val) 0 ∧ form k.val < 7 ∧ (4 ≤ form k.val → 1 ≤ operandsN k.val) := by decide
theorem getD_snoc (rs : List Int) (r : Int) (k : Nat) : (rs ++ [r]).getD k 0 = if k = rs.length then r else rs.getD k 0 := by
 simp only [List.getD_eq_getElem?_getD]
 by_cases h : k = rs.length
 · subst h; simp
 · rw [if_neg h]
   by_cases h1 : k < rs.length
   · rw [List.getElem?_append_left h1]
   · rw [List.getElem?_append_right (by omega)]
     have e1 : rs[k]? = none := List.getElem?_eq_none (by omega)
     have e2 : ([r] : List Int)[k - rs.length]? = none := List.getElem?_eq_none (by simp; omega)
     rw [e1, e2]
end Go.As
namespace Go.Proofs.D
open Go Go.Den Go.As
set_option maxRecDepth 100000
attribute [local irreducible] IntKind.wrap Tri
theorem und83 : Tryz.prog.underlying 83 = some (.slice 145) := rfl
theorem elem145 : ElemT 145 6 := ⟨_, _, rfl, rfl, rfl, rfl, by decide⟩
theorem und29q : Tryz.prog.underlying 29 = some (.slice 57) := rfl
theorem elem57q : ElemT 57 4 := ⟨_, _, rfl, rfl, rfl, rfl, by decide⟩
def RAl (a : As.St) (a1 : OA) (k1 : Nat) (a2 : OA) (k2 : Nat) (a3 : OA) (k3 : Nat) : List Value :=
 [vL a1 a.p.code.length k1, vS a.p.data, vI a.p.zero, vI a.p.entry, vL a2 a.p.labels.length k2, vB a.inData, vB a.hasEntry, vB a.hasZero, vL a3 a.uses.length k3, vI (a.line : Int)]
structure RA (h : PHeap) (a : As.St) (a1 : OA) (k1 : Nat) (a2 : OA) (k2 : Nat) (a3 : OA) (k3 : Nat) : Prop where
 ins : InAt h a1 a.p.code
 lbs : LbAt h a2 a.p.labels
 uss : UsR h a3 a.uses
 ok1 : okA a1 a.p.code.length k1
 ok2 : okA a2 a.p.labels.length k2
 ok3 : okA a3 a.uses.length k3
 le2 : a.p.labels.length ≤ k2
structure RSm (a : As.St) : Prop where
 code : a.p.code.length ≤ 1024
 data : a.p.data.length ≤ 4096
 labels : a.p.labels.length ≤ 1024
 uses : a.uses.length ≤ 1000000
def RStP (h : PHeap) (r : As.R As.St) (v : Value) (h' : PHeap) : Prop := Ext h h' ∧ match r with
 | .error e => e ≠ 0 ∧ ∃ (a1 : OA) (n1 k1 : Nat) (l : Bs) (i1 i2 : Int) (a2 : OA) (n2 k2 : Nat) (c1 c2 c3 : Bool) (a3 : OA) (n3 k3 : Nat) (i3 : Int), v = vT [vA [vL a1 n1 k1, vS l, vI i1, vI i2, vL a2 n2 k2, vB c1, vB c2, vB c3, vL a3 n3 k3, vI i3], vI (e : Int)]
 | .ok a' => ∃ a1 k1 a2 k2 a3 k3, v = vT [vA (RAl a' a1 k1 a2 k2 a3 k3), vI 0] ∧ RA h' a' a1 k1 a2 k2 a3 k3
section
variable {h : PHeap}
theorem RA.ext {h' : PHeap} {a : As.St} {a1 : OA} {k1 : Nat} {a2 : OA} {k2 : Nat} {a3 : OA} {k3 : Nat} (x : Ext h h') (hA : RA h a a1 k1 a2 k2 a3 k3) : RA h' a a1 k1 a2 k2 a3 k3 :=
 ⟨hA.ins.ext x, hA.lbs.ext x, hA.uss.ext x, hA.ok1, hA.ok2, hA.ok3, hA.le2⟩
theorem usC_len (u : Us) : (usC u).length = 6 ∧ allOne (usC u) = true := ⟨rfl, rfl⟩
theorem insC_len (x : Ins) : (insC x).length = 4 ∧ allOne (insC x) = true := ⟨rfl, rfl⟩
theorem copyU {K : OA → Nat → Nat → PHeap → Prop} {us us2 : List Us} {a3 a14 : OA} {k3 k14 : Nat} (hu : UsR h a3 us) (hok : okA a3 us.length k3) (hu2 : UsR h a14 us2) (hok2 : okA a14 us2.length k14) (hn : us.length + us2.length ≤ 8000000)
 {ρ1 : Nat → Operand → Value} {ρ2 : OA → Nat → Nat → Operand → Value} {cl1 cl2 : Call} {x y x2 y2 : Operand} {ty ty2 : TypeId} (hc1 : cl1.callee = .builtin .append) (ha1 : cl1.args = #[x, y]) (ht1 : cl1.argTypes = #[83, 83]) (hc2 : cl2.callee = .builtin .append) (ha2 : cl2.args = #[x2, y2]) (ht2 : cl2.argTypes = #[83, 83])
 (g1 : ∀ b, ρ1 b x = vL (ad b 0) 0 0) (g2 : ∀ b, ρ1 b y = vL a3 us.length k3) (g3 : ∀ a n k, ρ2 a n k x2 = vL a n k) (g4 : ∀ a n k, ρ2 a n k y2 = vL a14 us2.length k14)
 (hK : ∀ a' k' h', Ext h h' → UsR h' a' (us ++ us2) → okA a' (us ++ us2).length k' → K a' (us ++ us2).length k' h') :
 ∀ (b5 : Nat), h b5 = none → ∀ (h7 : PHeap), h7 = h.put b5 (.cells ⟨[]⟩ 145) → Raw Tryz.prog (execOp (ρ1 b5) (mkO (.call cl1) ty)) h7 fun v h8 => ∃ (a15 : OA) (n15 k15 : Nat), v = vL a15 n15 k15 ∧
   Raw Tryz.prog (execOp (ρ2 a15 n15 k15) (mkO (.call cl2) ty2)) h8 fun v h9 => ∃ (a16 : OA) (n16 k16 : Nat), v = vL a16 n16 k16 ∧ K a16 n16 k16 h9 := by
 intro b5 hb5 h7 hh7
 have x7 := Put.ext hh7 hb5
 have hl0 : L0 145 6 h h7 (ad b5 0) 0 0 [] := L0.lit hb5 hb5 hh7 rfl
 refine Raw.mono (L0.extend (h0 := h) (h := h7) (t := 83) (t2 := 83) und83 elem145 hc1 ha1 ht1 (g1 b5) (g2 b5) x7 hl0 (css2 := us.map usC) (m := us.length) (src_rows und83 hok (hu.ext x7) usC_len) (by simp) (fun cs hc => by obtain ⟨r, _, rfl⟩ := List.mem_map.1 hc; exact (usC_len r).1) (by omega)) ?_
 rintro v h8 ⟨a', c', rfl, x8, hl⟩
 refine ⟨_, _, _, rfl, ?_⟩
 have hl' : L0 145 6 h h8 a' us.length c' (us.map usC) := by simpa using hl
 refine Raw.mono (L0.extend (h0 := h) (h := h8) (t := 83) (t2 := 83) (n := us.length) (c := c') (a := a') und83 elem145 hc2 ha2 ht2 (by rw [g3]; congr 1; omega) (g4 _ _ _) x8 hl' (css2 := us2.map usC) (m := us2.length) (src_rows und83 hok2 (hu2.ext x8) usC_len) (by simp) (fun cs hc => by obtain ⟨r, _, rfl⟩ := List.mem_map.1 hc; exact (usC_len r).1) (by omega)) ?_
 rintro v h9 ⟨a'', c'', rfl, x9, hl2⟩
 have hl2' : L0 145 6 h h9 a'' (us ++ us2).length c'' ((us ++ us2).map usC) := by simpa using hl2
 refine ⟨_, _, _, rfl, ?_⟩
 rw [← List.length_append]
 exact hK _ _ _ x9 hl2'.rows hl2'.okA.1
section
variable {Q : Value → PHeap → Prop} {K : Int → OA → Nat → Nat → PHeap → Prop} {a1 : OA} {n1 k1 : Nat} {l1 : Bs} {i1 i2 : Int} {a2 : OA} {n2 k2 : Nat} {c1 c2 c3 : Bool} {a3 : OA} {k3 : Nat} {us : List Us}
theorem val_e {line op j : Nat} {t : Tk} {l : List Tk} {a4 : OA} {i4 i13 i3 : Int} {n4 n3 : Nat} (hT : RTkAt h a4 l) (hj : l[j]? = some t) (hkd : t.kind = 1) (htl : t.text.length ≤ 1000000) (hu : UsR h a3 us) (hok : okA a3 us.length k3) (hun : us.length ≤ 4000000)
 (hop : op < 27) (hf : 4 ≤ form op) (hi4 : i4 = (op : Int)) (hi : i13 = (j : Int)) (hn4 : n4 = l.length) (hn3 : n3 = us.length) (hi3 : i3 = (line : Int))
 (hE : ∀ (e : Nat) h', Ext h h' → valueS line t.text 0 n1 (limits op).1 (limits op).2 = .error e → Q (vT [vA [vL a1 n1 k1, vS l1, vI i1, vI i2, vL a2 n2 k2, vB c1, vB c2, vB c3, vL a3 n3 k3, vI i3], vI (e : Int)]) h')
 (hK : ∀ n us2 a' k' h', Ext h h' → valueS line t.text 0 n1 (limits op).1 (limits op).2 = .ok (n, us2) → UsR h' a' (us ++ us2) → okA a' (us ++ us2).length k' → K n a' (us ++ us2).length k' h') :
 Tri Tryz.prog 67 [vI i4] h fun v_2 h_5 =>
  ∃ (i24 i25 i26 : Int), v_2 = vT [vI i24, vI i25, vI i26] ∧
  ∃ (b4 o3 : Nat), a4 = some ⟨b4, o3, none⟩ ∧ (0 ≤ i13 ∧ i13 < n4) ∧
  ∃ (i27 : Int) (l5 : Bs), h_5.row b4 (o3 + (i13).toNat * 2) [vU i27, vS l5] ∧
  Tri Tryz.prog 137 [vA [vL a1 n1 k1, vS l1, vI i1, vI i2, vL a2 n2 k2, vB c1, vB c2, vB c3, vL a3 n3 k3, vI i3], vA [vU i27, vS l5], vI 0, vI ((n1 : Nat) : Int), vI i24, vI i25] h_5 fun v_3 h_6 =>
  ∃ (i28 : Int) (a14 : OA) (n14 k14 : Nat) (i29 : Int), v_3 = vT [vI i28, vL a14 n14 k14, vI i29] ∧
  (tv [vL a1 n1 k1]) ∧
  br (i29 != 0)
  (Q (vT [vA [vL a1 n1 k1, vS l1, vI i1, vI i2, vL a2 n2 k2, vB c1, vB c2, vB c3, vL a3 n3 k3, vI i3], vI i29]) h_6)
  (∀ (b5 : Nat), h_6 b5 = none → ∀ (h_7 : PHeap), h_7 = h_6.put b5 (.cells ⟨[]⟩ 145) →
  Raw Tryz.prog (execOp (rho [(101, vL (ad b5 0) 0 0), (103, vL a3 n3 k3)]) (mkO o134_19 83)) h_7 fun v_4 h_8 =>
  ∃ (a15 : OA) (n15 k15 : Nat), v_4 = vL a15 n15 k15 ∧
  Raw Tryz.prog (execOp (rho [(104, vL a15 n15 k15), (105, vL a14 n14 k14)]) (mkO o134_20 83)) h_8 fun v_5 h_9 =>
  ∃ (a16 : OA) (n16 k16 : Nat), v_5 = vL a16 n16 k16 ∧ K i28 a16 n16 k16 h_9) := by
 subst hi4; subst hi; subst hn4; subst hn3; subst hi3
 refine Tri.mono (rlimits_t hop hf) ?_
 rintro _ h5 ⟨rfl, rfl⟩
 have hlt := (List.getElem?_eq_some_iff.1 hj).1
 obtain ⟨b, o, ha, hr⟩ := hT.get hj
 have hcs : rtkC t = [vU 119, vS t.text] := by unfold rtkC rk; rw [if_pos hkd, if_pos (by omega)]
 rw [hcs] at hr
 refine ⟨_, _, _, rfl, b, o, ha, ⟨by omega, by omega⟩, 119, t.text, by rw [Int.toNat_natCast]; exact hr, ?_⟩
 refine Tri.mono (rvalue_t (line := line) (kind := 0) (idx := n1) htl rfl rfl rfl) ?_
 rintro v h6 ⟨x6, hv⟩
 cases he : valueS line t.text 0 n1 (limits op).1 (limits op).2 with
 | error e =>
   rw [he] at hv
   have hv : v = vT [vI 0, vL none 0 0, vI (e : Int)] := hv
   have := value_ne he
   exact ⟨_, _, _, _, _, hv, rfl, br_pos (by simp; omega) (hE e h6 x6 he)⟩
 | ok r =>
   obtain ⟨n, us2⟩ := r
   rw [he] at hv
   obtain ⟨a, rfl, h1, h2⟩ := hv
   have hl2 : us2.length ≤ 1 := by
    unfold valueS at he
    split at he
    · split at he
      · cases he
      · injection he with he; injection he with _ he; subst he; simp
    · split at he
      · injection he with he; injection he with _ he; subst he; simp
      · cases he
   refine ⟨_, _, _, _, _, rfl, rfl, br_neg rfl ?_⟩
   exact copyU (K := K n) (hu.ext x6) hok h1 h2 (by omega) rfl rfl rfl rfl rfl rfl (fun b => rfl) (fun b => rfl) (fun a n k => rfl) (fun a n k => rfl) fun a' k' h' x' g1 g2 => hK n us2 a' k' h' (x6.trans x') he g1 g2
theorem reg_e {K0 K1 K2 : Int → PHeap → Prop} {j : Nat} {t : Tk} {l : List Tk} {a4 : OA} {i13 : Int} {n4 : Nat} {w : Value} (hT : RTkAt h a4 l) (hj : l[j]? = some t) (hkd : t.kind = 1) (hi : i13 = (j : Int)) (hn4 : n4 = l.length)
 (hE : regB t.text = none → Q w h) (h0 : ∀ r, regB t.text = some r → j = 0 → K0 r h) (h1 : ∀ r, regB t.text = some r → j = 1 → K1 r h) (h2 : ∀ r, regB t.text = some r → 2 ≤ j → K2 r h) :
 ∃ (b8 o5 : Nat), a4 = some ⟨b8, o5, none⟩ ∧ (0 ≤ i13 ∧ i13 < n4) ∧
  ∃ (l7 : Bs), h.cell b8 ((o5 + (i13).toNat * 2) + 1) = some (vS l7) ∧
  Tri Tryz.prog 55 [vS l7] h fun v_10 h_15 =>
  ∃ (i36 : Int), v_10 = vI i36 ∧
  br (decide (i36 < 0))
  (Q w h_15)
  (br (i13 == 0) (K0 i36 h_15) (br (i13 == 1) (K1 i36 h_15) (K2 i36 h_15))) := by
 subst hi; subst hn4
 have hlt := (List.getElem?_eq_some_iff.1 hj).1
 obtain ⟨b, o, ha, hr⟩ := hT.get hj
 have hcs : rtkC t = [vU 119, vS t.text] := by unfold rtkC rk; rw [if_pos hkd, if_pos (by omega)]
 rw [hcs] at hr
 refine ⟨b, o, ha, ⟨by omega, by omega⟩, t.text, by rw [Int.toNat_natCast]; exact hr.2, ?_⟩
 refine Tri.mono (rreg_t h t.text) ?_
 rintro _ h5 ⟨rfl, rfl⟩
 refine ⟨_, rfl, ?_⟩
 cases hreg : regB t.text with
 | none =>
   have : regI t.text = -1 := by unfold regI; rw [hreg]
   rw [this]
   exact br_pos rfl (hE hreg)
 | some r =>
   have : regI t.text = (r : Int) := by unfold regI; rw [hreg]
   rw [this]
   refine br_neg (decide_eq_false (by omega)) (br_split (fun e => ?_) fun e => br_split (fun e1 => ?_) fun e1 => ?_)
   · exact h0 r hreg (by have : (j : Int) = 0 := by simpa using e
                         omega)
   · exact h1 r hreg (by have : (j : Int) = 1 := by simpa using e1
                         omega)
   · refine h2 r hreg ?_
     have e : (j : Int) ≠ 0 := by simpa using e
     have e1 : (j : Int) ≠ 1 := by simpa using e1
     omega
end
def Prog134 (a : As.St) (op : Nat) (l : List Tk) (j : Nat) (rs : List Int) (u : List Us) (i18 i19 i20 : Int) : Prop :=
 let q := if form op ≤ 3 then l.length else l.length - 1
 i18 = rs.getD 0 0 ∧ i19 = rs.getD 1 0 ∧ ((j ≤ q ∧ u = [] ∧ rs.length = j ∧ i20 = rs.getD 2 0 ∧ regsS (l.take q) = (regsS ((l.take q).drop j)).map (rs ++ ·)) ∨
  (q < j ∧ regsS (l.take q) = .ok rs ∧ valueS a.line (l.getLast?.getD ⟨1, []⟩).text 0 a.p.code.length (limits op).1 (limits op).2 = .ok (i20, u)))
theorem code_app {K : OA → Nat → Nat → PHeap → Prop} {code : List Ins} {x : Ins} {a11 : OA} {k11 n11 : Nat} {w1 w2 w3 w4 : Int} (hI : InAt h a11 code) (hok : okA a11 code.length k11) (hn : code.length ≤ 4000000) (hn11 : n11 = code.length) (hw : [vI w1, vI w2, vI w3, vI w4] = insC x)
 (hK : ∀ a' k' h', Ext h h' → InAt h' a' (code ++ [x]) → okA a' (code ++ [x]).length k' → K a' (code ++ [x]).length k' h') :
 (∀ (b13 : Nat), h b13 = none → ∀ (h_23 : PHeap), h_23 = h.put b13 (.cells ⟨[]⟩ 57) →
 (tv [vI w1, vI w2, vI w3, vI w4]) ∧
 (tv [vL a11 n11 k11]) ∧
 (Raw Tryz.prog (execOp (rho [(134, vL (ad b13 0) 0 0), (137, vL a11 n11 k11)]) (mkO o134_26 29)) h_23 fun v_17 h_24 =>
 ∃ (a23 : OA) (n23 k23 : Nat), v_17 = vL a23 n23 k23 ∧
 (tv [vI w1, vI w2, vI w3, vI w4]) ∧
 ∀ (b14 : Nat), h_24 b14 = none → ∀ (h_25 : PHeap), h_25 = h_24.put b14 (.cells ⟨[vI w1, vI w2, vI w3, vI w4]⟩ 57) →
 Raw Tryz.prog (execOp (rho [(138, vL a23 n23 k23), (140, vL (ad b14 0) 1 1)]) (mkO o134_27 29)) h_25 fun v_18 h_26 =>
 ∃ (a24 : OA) (n24 k24 : Nat), v_18 = vL a24 n24 k24 ∧ K a24 n24 k24 h_26) ∧
 (∀ (b15 : Nat), h_23 b15 = none → ∀ (h_27 : PHeap), h_27 = h_23.put b15 (.cells ⟨[vI w1, vI w2, vI w3, vI w4]⟩ 57) →
 (tv [vL a11 n11 k11]) ∧
 Raw Tryz.prog (execOp (rho [(134, vL (ad b13 0) 0 0), (137, vL a11 n11 k11)]) (mkO o134_26 29)) h_27 fun v_19 h_28 =>
 ∃ (a25 : OA) (n25 k25 : Nat), v_19 = vL a25 n25 k25 ∧
 Raw Tryz.prog (execOp (rho [(138, vL a25 n25 k25), (140, vL (ad b15 0) 1 1)]) (mkO o134_27 29)) h_28 fun v_20 h_29 =>
 ∃ (a26 : OA) (n26 k26 : Nat), v_20 = vL a26 n26 k26 ∧ K a26 n26 k26 h_29)) ∧
 (∀ (b16 : Nat), h b16 = none → ∀ (h_30 : PHeap), h_30 = h.put b16 (.cells ⟨[vI w1, vI w2, vI w3, vI w4]⟩ 57) →
 (tv [vL a11 n11 k11]) ∧
 ∀ (b17 : Nat), h_30 b17 = none → ∀ (h_31 : PHeap), h_31 = h_30.put b17 (.cells ⟨[]⟩ 57) →
 (tv [vL a11 n11 k11]) ∧
 Raw Tryz.prog (execOp (rho [(134, vL (ad b17 0) 0 0), (137, vL a11 n11 k11)]) (mkO o134_26 29)) h_31 fun v_21 h_32 =>
 ∃ (a27 : OA) (n27 k27 : Nat), v_21 = vL a27 n27 k27 ∧
 Raw Tryz.prog (execOp (rho [(138, vL a27 n27 k27), (140, vL (ad b16 0) 1 1)]) (mkO o134_27 29)) h_32 fun v_22 h_33 =>
 ∃ (a28 : OA) (n28 k28 : Nat), v_22 = vL a28 n28 k28 ∧ K a28 n28 k28 h_33) := by
  subst hn11
  rw [hw]
  have first : ∀ {b : Nat} {h2 : PHeap}, Ext h h2 → L0 57 4 h h2 (ad b 0) 0 0 [] → Raw Tryz.prog (execOp (rho [(134, vL (ad b 0) 0 0), (137, vL a11 code.length k11)]) (mkO o134_26 29)) h2 fun v h3 => ∃ a' c', v = vL a' code.length c' ∧ Ext h h3 ∧ (∀ q o, q ≠ b → h2 q = some o → h3 q = some o) ∧ L0 57 4 h h3 a' code.length c' (code.map insC) := fun {b h2} x2 hl => by
   refine Raw.mono (L0.extend2 (t := 29) (t2 := 29) (vy := vL a11 code.length k11) und29q elem57q rfl rfl rfl rfl rfl x2 hl (css2 := code.map insC) (m := code.length) (src_rows und29q hok (hI.ext x2) insC_len) (by simp) (fun cs hc => by obtain ⟨r, _, rfl⟩ := List.mem_map.1 hc; exact (insC_len r).1) (by omega)) ?_
   rintro v h3 ⟨a', c', rfl, x3, y3, hl3⟩
   exact ⟨a', c', by congr 1; omega, x3, fun q o hq hqo => y3 q o (fun e => hq (by injection e with e; injection e with e; exact e.symm)) hqo, by simpa using hl3⟩
  have second : ∀ {b : Nat} {h2 : PHeap} {a' : OA} {c' : Nat}, Ext h h2 → L0 57 4 h h2 a' code.length c' (code.map insC) → h2 b = some (.cells ⟨insC x⟩ 57) → Raw Tryz.prog (execOp (rho [(138, vL a' code.length c'), (140, vL (ad b 0) 1 1)]) (mkO o134_27 29)) h2 fun v h3 => ∃ (a24 : OA) (n24 k24 : Nat), v = vL a24 n24 k24 ∧ K a24 n24 k24 h3 := fun {b h2 a' c'} x2 hl hb => by
   refine Raw.mono (L0.push (h0 := h) (h := h2) (t := 29) und29q elem57q rfl rfl rfl rfl rfl x2 hl hb rfl rfl (by omega)) ?_
   rintro v h3 ⟨a2, c2, rfl, x3, hl3⟩
   have hl3' : L0 57 4 h h3 a2 (code ++ [x]).length c2 ((code ++ [x]).map insC) := by simpa using hl3
   refine ⟨a2, _, c2, rfl, ?_⟩
   have := hK a2 c2 h3 x3 hl3'.rows hl3'.okA.1
   rwa [List.length_append] at this
  refine ⟨fun b13 hb13 h23 hh23 => ⟨rfl, rfl, ?_, fun b15 hb15 h27 hh27 => ⟨rfl, ?_⟩⟩, fun b16 hb16 h30 hh30 => ⟨rfl, fun b17 hb17 h31 hh31 => ⟨rfl, ?_⟩⟩⟩
  · have x23 := Put.ext hh23 hb13
    refine Raw.mono (first x23 (L0.lit hb13 hb13 hh23 rfl)) ?_
    rintro v h24 ⟨a', c', rfl, x24, _, hl⟩
    refine ⟨_, _, _, rfl, rfl, fun b14 hb14 h25 hh25 => ?_⟩
    exact second (x24.trans (Put.ext hh25 hb14)) (hl.ext (Put.ext hh25 hb14)) (Put.at hh25)
  · have x23 := Put.ext hh23 hb13
    have x27 := Put.ext hh27 hb15
    refine Raw.mono (first (x23.trans x27) ((L0.lit hb13 hb13 hh23 rfl).ext x27)) ?_
    rintro v h28 ⟨a', c', rfl, x28, y28, hl⟩
    exact ⟨_, _, _, rfl, second x28 hl (y28 _ _ (fun e => by rw [e, Put.at hh23] at hb15; cases hb15) (Put.at hh27))⟩
  · have x30 := Put.ext hh30 hb16
    have x31 := Put.ext hh31 hb17
    refine Raw.mono (first (x30.trans x31) (L0.lit hb17 (x30.dom _ hb17) hh31 rfl)) ?_
    rintro v h32 ⟨a', c', rfl, x32, y32, hl⟩
    exact ⟨_, _, _, rfl, second x32 hl (y32 _ _ (fun e => by rw [← e, Put.at hh30] at hb17; cases hb17) (x31 _ _ (Put.at hh30)))⟩
theorem noStr_kd {l : List Tk} (h : noStr l = true) (hk : ∀ t ∈ l, t.kind = 1 ∨ t.kind = 2) : ∀ t ∈ l, t.kind = 1 := fun t ht => by
 have := List.all_eq_true.1 h t ht
 have := hk t ht
 simp at *; omega
theorem operation_t {a : As.St} {a1 : OA} {k1 : Nat} {a2 : OA} {k2 : Nat} {a3 : OA} {k3 : Nat} {a4 : OA} {k4 op : Nat} {l : List Tk} (hA : RA h a a1 k1 a2 k2 a3 k3) (hS : RSm a) (hT : RTkAt h a4 l) (hop : op < 27) (hk : ∀ t ∈ l, t.kind = 1 ∨ t.kind = 2) (htl : ∀ t ∈ l, t.text.length ≤ 1000000) (hll : l.length ≤ 1000000) :
 Tri Tryz.prog 134 [vA (RAl a a1 k1 a2 k2 a3 k3), vI (op : Int), vL a4 l.length k4] h fun v h' => RStP h (if l.length ≠ operandsN op ∨ noStr l = false then .error 30 else instrS a op l) v h' := by
 refine T134 ?_
 unfold R134
 refine Tri.mono (rform_t (op : Int)) ?_
 rintro _ h1 ⟨rfl, rfl⟩
 rw [if_pos (by omega), Int.toNat_natCast]
 obtain ⟨f1, f2, f3⟩ := opsN_tab ⟨op, hop⟩
 simp only at f1 f2 f3
 have bad : ∀ h2, Ext h1 h2 → (l.length ≠ operandsN op ∨ noStr l = false) → RStP h1 (if l.length ≠ operandsN op ∨ noStr l = false then .error 30 else instrS a op l) (vT [vA (RAl a a1 k1 a2 k2 a3 k3), vI 30]) h2 := fun h2 x2 hc => by
  rw [if_pos hc]
  exact ⟨x2, by decide, _, _, _, _, _, _, _, _, _, _, _, _, _, _, _, _, rfl⟩
 refine ⟨_, _, rfl, fun b1 hb1 h2 hh2 => ?_⟩
 have x2 := Put.ext hh2 hb1
 have htab : h2.cell b1 (0 + ((form op : Nat) : Int).toNat * 1) = some (vI (operandsN op : Nat)) := by
  rw [cell_of (Put.at hh2), Int.toNat_natCast, f1]
  generalize form op = f at *
  match f, f2 with
  | 0, _ => rfl
  | 1, _ => rfl
  | 2, _ => rfl
  | 3, _ => rfl
  | 4, _ => rfl
  | 5, _ => rfl
  | 6, _ => rfl
 refine ⟨b1, 0, rfl, ⟨by omega, by omega⟩, _, htab, br_split (fun e => bad h2 x2 (.inl ?_)) fun e => ?_⟩
 · have e : (l.length : Int) ≠ (operandsN op : Nat) := by simpa using e
   omega
 have hlen : l.length = operandsN op := by
  have e : (l.length : Int) = (operandsN op : Nat) := by simpa using e
  omega
 refine ⟨fun m i a5 n5 k5 l2 i9 i10 a6 n6 k6 c4 c5 c6 a7 n7 k7 i11 h' => ∃ j : Nat, i = (j : Int) ∧ j + m = l.length ∧ h' = h2 ∧ noStr (l.take j) = true, ⟨l.length, 0, rfl, by omega, rfl, rfl⟩, ?_⟩
 rintro m _ a5 n5 k5 l2 i9 i10 a6 n6 k6 c4 c5 c6 a7 n7 k7 i11 h3 ⟨j, rfl, hjm, rfl, hno⟩
 refine br_split (fun e1 => ?_) fun e1 => ?_
 · have hlt : j < l.length := by have := of_decide_eq_true e1; omega
   have hg : l[j]? = some l[j] := by simp [hlt]
   have htk := List.take_append_getElem hlt
   have hmem := List.getElem_mem hlt
   generalize l[j] = t at *
   obtain ⟨b, o, ha, hr⟩ := (hT.ext x2).get hg
   refine ⟨b, o, ha, ⟨by omega, by omega⟩, rk t.kind, by rw [Int.toNat_natCast]; exact hr.1, ?_⟩
   rw [rk_s]
   refine br_split (fun e2 => bad h3 x2 (.inr ?_)) fun e2 => ⟨m - 1, by omega, ⟨j + 1, by rw [wrap64 (by omega) (by omega)]; omega, by omega, rfl, ?_⟩, rfl, trivial⟩
   · have e2 := of_decide_eq_true e2
     unfold noStr
     rw [List.all_eq_false]
     exact ⟨t, hmem, by simp [e2]⟩
   · have e2 := of_decide_eq_false e2
     rw [← htk]
     unfold noStr at hno ⊢
     rw [List.all_append, hno]
     simp [e2]
 have hj : j = l.length := by have := of_decide_eq_false e1; omega
 subst hj
 rw [List.take_length] at hno
 have hk1 := noStr_kd hno hk
 rw [if_neg (by rw [hno]; rintro (h | h) <;> first | exact h hlen | cases h)]
 have hu0 : a.uses.length ≤ 1000000 := hS.uses
 clear bad
 have fail : ∀ (e : Nat) (us : List Us) (a13 : OA) (n13 k13 : Nat) h', Ext h1 h' → instrS a op l = .error e → e ≠ 0 → RStP h1 (instrS a op l) (vT [vA [vL a1 a.p.code.length k1, vS a.p.data, vI a.p.zero, vI a.p.entry, vL a2 a.p.labels.length k2, vB a.inData, vB a.hasEntry, vB a.hasZero, vL a13 n13 k13, vI (a.line : Int)], vI (e : Int)]) h' := fun e us a13 n13 k13 h' x' he hne => by
  rw [he]
  exact ⟨x', hne, _, _, _, _, _, _, _, _, _, _, _, _, _, _, _, _, rfl⟩
 have hq : (if form op ≤ 3 then l.length else l.length - 1) ≤ l.length := by split <;> omega
 have hqv : ¬ form op ≤ 3 → 1 ≤ l.length ∧ l.length ≤ 3 := fun hf => by
  have := f3 (by omega)
  rw [hlen]
  refine ⟨this, ?_⟩
  rw [f1]
  generalize form op = f at *
  match f, f2 with
  | 0, _ | 1, _ | 2, _ | 3, _ | 4, _ | 5, _ | 6, _ => decide
 have hil : instrS a op l = (if form op ≤ 3 then do
  let r ← regsS (l.take (if form op ≤ 3 then l.length else l.length - 1))
  if 1024 ≤ a.p.code.length then .error 9 else .ok { a with p := { a.p with code := a.p.code ++ [fieldsI op r 0] } }
  else do
   let r ← regsS (l.take (if form op ≤ 3 then l.length else l.length - 1))
   let (n, u) ← valueS a.line (l.getLast?.getD ⟨1, []⟩).text 0 a.p.code.length (limits op).1 (limits op).2
   if 1024 ≤ a.p.code.length then .error 9 else .ok { a with p := { a.p with code := a.p.code ++ [fieldsI op r n] }, uses := a.uses ++ u }) := by
  unfold instrS
  by_cases hf : form op ≤ 3
  · rw [if_pos hf, if_pos hf, if_pos hf, List.take_length]
  · rw [if_neg hf, if_neg hf, if_neg hf, List.dropLast_eq_take]
 generalize hqq : (if form op ≤ 3 then l.length else l.length - 1) = q at *
 refine ⟨fun m i13 a8 n8 k8 l3 i14 i15 a9 n9 k9 c7 c8 c9 a10 n10 k10 i16 i17 i18 i19 i20 a11 n11 k11 l4 i21 i22 a12 n12 k12 c10 c11 c12 a13 n13 k13 i23 h' =>
  ∃ (j : Nat) (rs : List Int) (u : List Us), i13 = (j : Int) ∧ j + m = l.length ∧ i17 = (op : Int) ∧ Ext h1 h' ∧ a1 = a11 ∧ n11 = a.p.code.length ∧ k1 = k11 ∧ l4 = a.p.data ∧ i21 = a.p.zero ∧ i22 = a.p.entry ∧ a2 = a12 ∧ n12 = a.p.labels.length ∧ k2 = k12 ∧ c10 = a.inData ∧ c11 = a.hasEntry ∧ c12 = a.hasZero ∧ n13 = (a.uses ++ u).length ∧ i23 = (a.line : Int) ∧
    UsR h' a13 (a.uses ++ u) ∧ okA a13 (a.uses ++ u).length k13 ∧ Prog134 a op l j rs u i18 i19 i20,
  ⟨l.length, 0, [], [], rfl, by omega, rfl, x2, rfl, rfl, rfl, rfl, rfl, rfl, rfl, rfl, rfl, rfl, rfl, rfl, by rw [List.append_nil], rfl, by rw [List.append_nil]; exact hA.uss.ext x2, by rw [List.append_nil]; exact hA.ok3, ?_⟩, ?_⟩
 · unfold Prog134
   rw [hqq]
   exact ⟨rfl, rfl, .inl ⟨by omega, rfl, rfl, rfl, (map_nil _).symm⟩⟩
 rintro m _ a8 n8 k8 l3 i14 i15 a9 n9 k9 c7 c8 c9 a10 n10 k10 i16 i17 i18 i19 i20 a11 n11 k11 l4 i21 i22 a12 n12 k12 c10 c11 c12 a13 n13 k13 i23 h4 ⟨j, rs, u, rfl, hjm, rfl, x4, rfl, rfl, rfl, rfl, rfl, rfl, rfl, rfl, rfl, rfl, rfl, rfl, rfl, rfl, hu, hok, hP⟩
 unfold Prog134 at hP
 rw [hqq] at hP
 obtain ⟨rfl, rfl, hP⟩ := hP
 refine br_split (fun e2 => ?_) fun e2 => ?_
 · have hlt : j < l.length := by have := of_decide_eq_true e2; omega
   have hg : l[j]? = some l[j] := by simp [hlt]
   have hmem := List.getElem_mem hlt
   have hkt := hk1 _ hmem
   have hxt := htl _ hmem
   have hlast : j = l.length - 1 → l.getLast?.getD ⟨1, []⟩ = l[j] := fun hj => by
    rw [List.getLast?_eq_getElem?, ← hj, hg]; rfl
   generalize l[j] = t at *
   obtain ⟨hjq, rfl, hrl, rfl, hrs⟩ : j ≤ q ∧ u = [] ∧ rs.length = j ∧ i20 = rs.getD 2 0 ∧ regsS (l.take q) = (regsS ((l.take q).drop j)).map (rs ++ ·) := by
    rcases hP with hP | ⟨hP, _⟩
    · exact hP
    · exfalso
      have : l.length ≤ q + 1 := by rw [← hqq]; split <;> omega
      omega
   rw [List.append_nil] at hu hok
   rw [List.append_nil]
   have hnext : IntKind.i64.wrap ((j : Int) + 1) = ((j + 1 : Nat) : Int) := by rw [wrap64 (by omega) (by omega)]; omega
   rw [hnext]
   have V := fun (hf : 4 ≤ form op) (hj : j = l.length - 1) => val_e (Q := fun v h' => RStP h1 (instrS a op l) v h') (K := fun i28 a16 n16 k16 h_9 => ∃ (m6 : Nat), m6 < m ∧ (∃ (j' : Nat) (rs' : List Int) (u' : List Us), ((j + 1 : Nat) : Int) = (j' : Int) ∧ j' + m6 = l.length ∧ (op : Int) = (op : Int) ∧ Ext h1 h_9 ∧ a1 = a1 ∧ a.p.code.length = a.p.code.length ∧ k1 = k1 ∧ a.p.data = a.p.data ∧ a.p.zero = a.p.zero ∧ a.p.entry = a.p.entry ∧ a2 = a2 ∧ a.p.labels.length = a.p.labels.length ∧ k2 = k2 ∧ a.inData = a.inData ∧ a.hasEntry = a.hasEntry ∧ a.hasZero = a.hasZero ∧ n16 = (a.uses ++ u').length ∧ (a.line : Int) = (a.line : Int) ∧
    UsR h_9 a16 (a.uses ++ u') ∧ okA a16 (a.uses ++ u').length k16 ∧ Prog134 a op l j' rs' u' (rs.getD 0 0) (rs.getD 1 0) i28) ∧ True) (line := a.line) (op := op) (j := j) (t := t) (l := l) (a4 := a4) (n1 := a.p.code.length) (k1 := k1) (a1 := a1) (l1 := a.p.data) (i1 := a.p.zero) (i2 := a.p.entry) (a2 := a2) (n2 := a.p.labels.length) (k2 := k2) (c1 := a.inData) (c2 := a.hasEntry) (c3 := a.hasZero) (hT.ext x4) hg hkt hxt hu hok (by omega) hop hf rfl rfl rfl rfl rfl
    (fun e h' x' he => fail e [] a13 _ k13 h' (x4.trans x') (by
     have hjq' : j = q := by rw [← hqq, if_neg (by omega)]; exact hj
     rw [hil, if_neg (by omega), hrs, hjq', List.drop_of_length_le (by rw [List.length_take]; omega), hlast hj, he]
     rfl) (value_ne he))
    (fun n us2 a' k' h' x' he g1 g2 => ⟨m - 1, by omega, ⟨j + 1, rs, us2, rfl, by omega, rfl, x4.trans x', rfl, rfl, rfl, rfl, rfl, rfl, rfl, rfl, rfl, rfl, rfl, rfl, rfl, rfl, g1, g2, by
     have hjq' : j = q := by rw [← hqq, if_neg (by omega)]; exact hj
     unfold Prog134
     rw [hqq]
     refine ⟨rfl, rfl, .inr ⟨by omega, ?_, ?_⟩⟩
     · rw [hrs, hjq', List.drop_of_length_le (by rw [List.length_take]; omega)]; simp [regsS, Except.map]
     · rw [hlast hj]; exact he⟩, trivial⟩)
   have hRg : j < q → (l.take q)[j]? = some t := fun hjq' => by rw [List.getElem?_take, if_pos hjq']; exact hg
   have step : ∀ (r : Nat) (z : List Int), j < q → regB t.text = some r → z = rs ++ [(r : Int)] → Prog134 a op l (j + 1) z [] (z.getD 0 0) (z.getD 1 0) (z.getD 2 0) := fun r z hjq' hr hz => by
    subst hz
    unfold Prog134
    rw [hqq]
    refine ⟨rfl, rfl, .inl ⟨by omega, rfl, by simp [hrl], rfl, ?_⟩⟩
    rw [hrs, regs_snoc j rs t r (hRg hjq') hr (fun _ _ => trivial)]
    cases regsS (List.drop (j + 1) (List.take q l)) <;> simp [Except.map]
   have gd : ∀ (r : Int) k, (rs ++ [r]).getD k 0 = if k = j then r else rs.getD k 0 := fun r k => by rw [getD_snoc, hrl]
   have hz : ∀ k, j ≤ k → rs.getD k 0 = 0 := fun k hk => by
    rw [List.getD_eq_getElem?_getD, List.getElem?_eq_none (by omega)]; rfl
   have hops : l.length ≤ 3 := by
    rw [hlen, f1]
    generalize form op = f at *
    match f, f2 with
    | 0, _ | 1, _ | 2, _ | 3, _ | 4, _ | 5, _ | 6, _ => decide
   have G := fun (hjq' : j < q) => reg_e (Q := fun v h' => RStP h1 (instrS a op l) v h') (w := vT [vA [vL a1 a.p.code.length k1, vS a.p.data, vI a.p.zero, vI a.p.entry, vL a2 a.p.labels.length k2, vB a.inData, vB a.hasEntry, vB a.hasZero, vL a13 a.uses.length k13, vI (a.line : Int)], vI 30])
    (K0 := fun i36 h_15 => ∃ (m6 : Nat), m6 < m ∧ (∃ (j' : Nat) (rs' : List Int) (u' : List Us), ((j + 1 : Nat) : Int) = (j' : Int) ∧ j' + m6 = l.length ∧ (op : Int) = (op : Int) ∧ Ext h1 h_15 ∧ a1 = a1 ∧ a.p.code.length = a.p.code.length ∧ k1 = k1 ∧ a.p.data = a.p.data ∧ a.p.zero = a.p.zero ∧ a.p.entry = a.p.entry ∧ a2 = a2 ∧ a.p.labels.length = a.p.labels.length ∧ k2 = k2 ∧ a.inData = a.inData ∧ a.hasEntry = a.hasEntry ∧ a.hasZero = a.hasZero ∧ a.uses.length = (a.uses ++ u').length ∧ (a.line : Int) = (a.line : Int) ∧
    UsR h_15 a13 (a.uses ++ u') ∧ okA a13 (a.uses ++ u').length k13 ∧ Prog134 a op l j' rs' u' i36 (rs.getD 1 0) (rs.getD 2 0)) ∧ True)
    (K1 := fun i36 h_15 => ∃ (m6 : Nat), m6 < m ∧ (∃ (j' : Nat) (rs' : List Int) (u' : List Us), ((j + 1 : Nat) : Int) = (j' : Int) ∧ j' + m6 = l.length ∧ (op : Int) = (op : Int) ∧ Ext h1 h_15 ∧ a1 = a1 ∧ a.p.code.length = a.p.code.length ∧ k1 = k1 ∧ a.p.data = a.p.data ∧ a.p.zero = a.p.zero ∧ a.p.entry = a.p.entry ∧ a2 = a2 ∧ a.p.labels.length = a.p.labels.length ∧ k2 = k2 ∧ a.inData = a.inData ∧ a.hasEntry = a.hasEntry ∧ a.hasZero = a.hasZero ∧ a.uses.length = (a.uses ++ u').length ∧ (a.line : Int) = (a.line : Int) ∧
    UsR h_15 a13 (a.uses ++ u') ∧ okA a13 (a.uses ++ u').length k13 ∧ Prog134 a op l j' rs' u' (rs.getD 0 0) i36 (rs.getD 2 0)) ∧ True)
    (K2 := fun i36 h_15 => ∃ (m6 : Nat), m6 < m ∧ (∃ (j' : Nat) (rs' : List Int) (u' : List Us), ((j + 1 : Nat) : Int) = (j' : Int) ∧ j' + m6 = l.length ∧ (op : Int) = (op : Int) ∧ Ext h1 h_15 ∧ a1 = a1 ∧ a.p.code.length = a.p.code.length ∧ k1 = k1 ∧ a.p.data = a.p.data ∧ a.p.zero = a.p.zero ∧ a.p.entry = a.p.entry ∧ a2 = a2 ∧ a.p.labels.length = a.p.labels.length ∧ k2 = k2 ∧ a.inData = a.inData ∧ a.hasEntry = a.hasEntry ∧ a.hasZero = a.hasZero ∧ a.uses.length = (a.uses ++ u').length ∧ (a.line : Int) = (a.line : Int) ∧
    UsR h_15 a13 (a.uses ++ u') ∧ okA a13 (a.uses ++ u').length k13 ∧ Prog134 a op l j' rs' u' (rs.getD 0 0) (rs.getD 1 0) i36) ∧ True)
    (j := j) (t := t) (l := l) (a4 := a4) (i13 := (j : Int)) (n4 := l.length) (hT.ext x4) hg hkt rfl rfl
    (fun hr => by
     have : instrS a op l = .error 30 := by
      rw [hil]
      have e30 : regsS (l.take q) = .error 30 := by rw [hrs, regs_none (hRg hjq') hr]; rfl
      rw [e30]
      split <;> rfl
     exact fail 30 [] a13 _ k13 h4 x4 this (by decide))
    (fun r hr hj => ⟨m - 1, by omega, ⟨j + 1, rs ++ [(r : Int)], [], rfl, by omega, rfl, x4, rfl, rfl, rfl, rfl, rfl, rfl, rfl, rfl, rfl, rfl, rfl, rfl, by rw [List.append_nil], rfl, by rw [List.append_nil]; exact hu, by rw [List.append_nil]; exact hok, by
     have := step r _ hjq' hr rfl
     rw [gd, gd, gd, if_pos hj.symm, if_neg (by omega), if_neg (by omega)] at this
     exact this⟩, trivial⟩)
    (fun r hr hj => ⟨m - 1, by omega, ⟨j + 1, rs ++ [(r : Int)], [], rfl, by omega, rfl, x4, rfl, rfl, rfl, rfl, rfl, rfl, rfl, rfl, rfl, rfl, rfl, rfl, by rw [List.append_nil], rfl, by rw [List.append_nil]; exact hu, by rw [List.append_nil]; exact hok, by
     have := step r _ hjq' hr rfl
     rw [gd, gd, gd, if_neg (by omega), if_pos hj.symm, if_neg (by omega)] at this
     exact this⟩, trivial⟩)
    (fun r hr hj => ⟨m - 1, by omega, ⟨j + 1, rs ++ [(r : Int)], [], rfl, by omega, rfl, x4, rfl, rfl, rfl, rfl, rfl, rfl, rfl, rfl, rfl, rfl, rfl, rfl, by rw [List.append_nil], rfl, by rw [List.append_nil]; exact hu, by rw [List.append_nil]; exact hok, by
     have := step r _ hjq' hr rfl
     rw [gd, gd, gd, if_neg (by omega), if_neg (by omega), if_pos (by omega)] at this
     exact this⟩, trivial⟩)
   have hwm : IntKind.i64.wrap ((l.length : Int) - 1) = ((l.length - 1 : Nat) : Int) := by rw [wrap64 (by omega) (by omega)]; omega
   have hjl : ((j : Int) == ((l.length - 1 : Nat) : Int)) = decide (j = l.length - 1) := by
    rw [Bool.eq_iff_iff]; simp; omega
   have hform : ∀ k : Nat, (((form op : Nat) : Int) == (k : Int)) = decide (form op = k) := fun k => by
    rw [Bool.eq_iff_iff]; simp; omega
   rw [hwm, hjl, show (6 : Int) = ((6 : Nat) : Int) from rfl, show (4 : Int) = ((4 : Nat) : Int) from rfl, show (5 : Int) = ((5 : Nat) : Int) from rfl, hform, hform, hform]
   have hjq4 : ¬ form op ≤ 3 → j ≠ l.length - 1 → j < q := fun hf hj => by rw [← hqq, if_neg hf]; omega
   refine br_split (fun e3 => ?_) fun e3 => br_split (fun e4 => br_split (fun e5 => ?_) fun e5 => ?_) fun e4 => br_split (fun e5 => br_split (fun e6 => ?_) fun e6 => ?_) fun e5 => ?_
   · have e3 := of_decide_eq_true e3
     have : l.length = 1 := by rw [hlen, f1, e3]; rfl
     exact V (by omega) (by omega)
   · exact V (by have := of_decide_eq_true e4; omega) (of_decide_eq_true e5)
   · exact G (hjq4 (by have := of_decide_eq_true e4; omega) (of_decide_eq_false e5))
   · exact V (by have := of_decide_eq_true e5; omega) (of_decide_eq_true e6)
   · exact G (hjq4 (by have := of_decide_eq_true e5; omega) (of_decide_eq_false e6))
   · have e3 := of_decide_eq_false e3
     have e4 := of_decide_eq_false e4
     have e5 := of_decide_eq_false e5
     exact G (by rw [← hqq, if_pos (by omega)]; exact hlt)
 have hj : j = l.length := by have := of_decide_eq_false e2; omega
 subst hj
 have hfin : instrS a op l = (if 1024 ≤ a.p.code.length then .error 9 else .ok { a with p := { a.p with code := a.p.code ++ [⟨op, rs.getD 0 0, rs.getD 1 0, i20⟩] }, uses := a.uses ++ u }) := by
  rw [hil]
  rcases hP with ⟨g1, rfl, g3, rfl, g5⟩ | ⟨g1, g2, g3⟩
  · have hf : form op ≤ 3 := Decidable.byContradiction fun hf => by
     have := hqv hf
     rw [if_neg hf] at hqq
     omega
    have e5 : regsS (l.take q) = .ok rs := by
     rw [g5, List.drop_of_length_le (by rw [List.length_take]; omega)]; simp [regsS, Except.map]
    rw [if_pos hf, e5, List.append_nil]
    show (if 1024 ≤ a.p.code.length then _ else _) = _
    unfold fieldsI
    rw [if_pos hf]
  · have hf : ¬ form op ≤ 3 := fun hf => by
     rw [if_pos hf] at hqq
     omega
    rw [if_neg hf, g2, g3]
    show (if 1024 ≤ a.p.code.length then _ else _) = _
    unfold fieldsI
    rw [if_neg hf]
 rw [hfin]
 refine br_split (fun e3 => ?_) fun e3 => ?_
 · have e3 := of_decide_eq_true e3
   rw [if_pos (by omega)]
   exact ⟨x4, by decide, _, _, _, _, _, _, _, _, _, _, _, _, _, _, _, _, rfl⟩
 have e3 := of_decide_eq_false e3
 rw [if_neg (by omega)]
 have hA4 := hA.ext x4
 refine code_app (x := ⟨op, rs.getD 0 0, rs.getD 1 0, i20⟩) (K := fun a24 n24 k24 h_26 => RStP h1 _ (vT [vA [vL a24 n24 k24, vS a.p.data, vI a.p.zero, vI a.p.entry, vL a2 a.p.labels.length k2, vB a.inData, vB a.hasEntry, vB a.hasZero, vL a13 (a.uses ++ u).length k13, vI (a.line : Int)], vI 0]) h_26) hA4.ins hA4.ok1 (by omega) rfl rfl ?_
 intro a' k' h' x' g1 g2
 exact ⟨x4.trans x', a', k', a2, k2, a13, k13, rfl, g1, hA4.lbs.ext x', hu.ext x', g2, hA4.ok2, hok, hA4.le2⟩
end
end Go.Proofs.D
namespace Go.Proofs.D
open Go Go.Den Go.As
set_option maxRecDepth 100000
attribute [local irreducible] IntKind.wrap Tri
section
variable {hb h : PHeap} {p mS : Nat} {a : As.St} {a3 : OA} {k3 : Nat} {os : List Tk}
theorem tk_cell {n : Nat} (hA : AS hb h p mS a) (hT : TkAt hb a3 os) {t : Tk} {j : Nat} (hj : os[j]? = some t) : ∃ b o, a3 = some ⟨b, o, none⟩ ∧ h.cell b (o + j * 2) = some (vI (t.kind : Int)) ∧ h.cell b (o + j * 2 + 1) = some (vS t.text) := by
 obtain ⟨b, o, h1, h2⟩ := (hT.ext hA.ext).get hj
 exact ⟨b, o, h1, (row_hd h2).1, (row_hd h2).2⟩
theorem res_err {e : Nat} {h' : PHeap} {r : As.R As.St} (hr : r = .error e) (he : e ≠ 0) {hb' : PHeap} (hx : Ext hb hb') (hA : AS hb' h' p mS a) : Res hb p mS a.line r (vI (e : Int)) h' := by
 subst hr
 exact ⟨rfl, he, hx.trans hA.ext, hA.line⟩
theorem begin76_t (hA : AS hb h p mS a) (n3 : Nat) : Tri Tryz.prog 76 [vP p 0, vL a3 n3 k3] h fun v h' => Res hb p mS a.line (.ok { a with inData := false }) v h' := by
 obtain ⟨K, hA⟩ := hA
 refine T76 ?_
 unfold R76
 refine ⟨_, _, _, hA.obj, ⟨by simp, Nat.zero_le _⟩, ?_⟩
 rintro _ rfl
 exact ⟨rfl, hb, Ext.refl _, K, hA.set (a' := { a with inData := false }) rfl rfl rfl rfl rfl⟩
theorem begin77_t (hA : AS hb h p mS a) (n3 : Nat) : Tri Tryz.prog 77 [vP p 0, vL a3 n3 k3] h fun v h' => Res hb p mS a.line (.ok { a with inData := true }) v h' := by
 obtain ⟨K, hA⟩ := hA
 refine T77 ?_
 unfold R77
 refine ⟨_, _, _, hA.obj, ⟨by simp, Nat.zero_le _⟩, ?_⟩
 rintro _ rfl
 exact ⟨rfl, hb, Ext.refl _, K, hA.set (a' := { a with inData := true }) rfl rfl rfl rfl rfl⟩
theorem lit_err {t : Bytes} {low high : Int} {e : Nat} (h : literalS t low high = .error e) : e ≠ 0 := by
 unfold literalS at h
 split at h
 · split at h
   · injection h with h; omega
   · cases h
 · injection h with h; omega
theorem lit_range {t : Bytes} {low high : Int} {n : Int} (h : literalS t low high = .ok n) : low ≤ n ∧ n ≤ high := by
 unfold literalS at h
 split at h
 · split at h
   · cases h
   · injection h with h; omega
 · cases h
def zeroX (a : As.St) (t : Bytes) : As.R As.St := (literalS t 0 4096) >>= fun n => .ok { a with p := { a.p with zero := n }, hasZero := true }
theorem zero79_t (hA : AS hb h p mS a) {t : Tk} (hT : TkAt hb a3 [t]) (hl : t.text.length ≤ 1000000) : Tri Tryz.prog 79 [vP p 0, vL a3 1 k3] h fun v h' => Res hb p mS a.line (zeroX a t.text) v h' := by
 refine T79 ?_
 unfold R79
 obtain ⟨b, o, ha, _, hc⟩ := tk_cell (n := 1) hA hT (t := t) (j := 0) rfl
 rw [Nat.zero_mul, Nat.add_zero] at hc
 refine ⟨b, o, ha, ⟨by omega, by omega⟩, _, hc, ?_⟩
 refine Tri.mono (literal_t h t.text 0 4096 hl) ?_
 rintro _ h1 ⟨rfl, hx⟩
 have hA1 := hA.grow hx
 unfold zeroX
 cases hlit : literalS t.text 0 4096 with
 | error e =>
   have he := lit_err hlit
   exact ⟨_, _, rfl, br_pos (by simp; omega) (res_err rfl he (Ext.refl _) hA1)⟩
 | ok n =>
   obtain ⟨K, hK⟩ := hA1
   refine ⟨_, _, rfl, br_neg rfl ⟨_, _, _, hK.obj, ⟨by simp, Nat.zero_le _⟩, ?_⟩⟩
   rintro _ rfl
   have hK2 : ASK hb _ p mS { a with hasZero := true } K := hK.set (a' := { a with hasZero := true }) rfl rfl rfl rfl rfl
   refine ⟨_, _, _, hK2.obj, ⟨by simp, Nat.zero_le _⟩, ?_⟩
   rintro _ rfl
   exact ⟨rfl, hb, Ext.refl _, K, hK2.set (a' := { a with p := { a.p with zero := n }, hasZero := true }) rfl rfl rfl rfl rfl⟩
def entryX (a : As.St) (t : Bytes) : As.R As.St := (valueS a.line t 2 0 (-9999999999) 9999999999) >>= fun x => .ok { a with p := { a.p with entry := x.1 }, hasEntry := true, uses := a.uses ++ x.2 }
theorem entry78_t (hA : AS hb h p mS a) {t : Tk} (hT : TkAt hb a3 [t]) (hl : t.text.length ≤ 1000000) (hU : a.uses.length ≤ 8000000) : Tri Tryz.prog 78 [vP p 0, vL a3 1 k3] h fun v h' => Res hb p mS a.line (entryX a t.text) v h' := by
 refine T78 ?_
 unfold R78
 intro b1 hb1 h1 hh1
 have x1 := Put.ext hh1 hb1
 obtain ⟨hb2, hbx, hA2, hin⟩ := hA.rebase x1
 have d1 : hb2.cell b1 0 = some (vP p 0) := cell_of (hin b1 _ hb1 (Put.at hh1)) 0
 obtain ⟨b, o, ha, _, hc⟩ := tk_cell (n := 1) hA2 (hT.ext hbx) (t := t) (j := 0) rfl
 rw [Nat.zero_mul, Nat.add_zero] at hc
 refine ⟨_, _, cell_of (Put.at hh1) 0, b, o, ha, ⟨by omega, by omega⟩, _, hc, ?_⟩
 refine Tri.mono (value_t (kind := 2) (idx := 0) hA2 hl hU (.inl ⟨rfl, rfl, b1, rfl, d1⟩) (-9999999999) 9999999999 rfl rfl (fun _ => ⟨rfl, rfl⟩)) ?_
 intro v h3 hV
 unfold entryX
 cases hv : valueS a.line t.text 2 0 (-9999999999) 9999999999 with
 | error e =>
   rw [hv] at hV
   obtain ⟨rfl, he, hb3, hbx3, hA3⟩ := hV
   exact ⟨_, _, rfl, br_pos (by simp; omega) (res_err rfl he (hbx.trans hbx3) hA3)⟩
 | ok x =>
   obtain ⟨n, us⟩ := x
   rw [hv] at hV
   obtain ⟨rfl, hb3, hbx3, K, hK⟩ := hV
   have d3 := cell_ext (fun ob => hbx3 b1 ob) d1
   refine ⟨_, _, rfl, br_neg rfl ⟨_, _, cell_ext (fun ob => hK.ext b1 ob) d3, _, _, _, hK.obj, ⟨by simp, Nat.zero_le _⟩, ?_⟩⟩
   rintro _ rfl
   have hK2 := hK.set (a' := { a with hasEntry := true, uses := a.uses ++ us }) rfl rfl rfl rfl rfl
   refine Tri.mono (put109_t ⟨K, hK2⟩ d3) ?_
   rintro _ h4 ⟨rfl, hA4⟩
   exact ⟨rfl, rfl, hb3, hbx.trans hbx3, hA4⟩
theorem u8_byte (n : Int) : IntKind.u8.wrap n = ((As.byteOf n).toNat : Int) := by
 rw [u8_wrap]
 unfold As.byteOf
 rw [UInt8.toNat_ofNat']
 have : 0 ≤ n % 256 := Int.emod_nonneg _ (by decide)
 omega
theorem bytes81_t (hA : AS hb h p mS a) (hT : TkAt hb a3 os) (hl : ∀ t ∈ os, t.text.length ≤ 1000000) (hn : os.length ≤ 1000000) (hD : a.p.data.length ≤ 1000000) : Tri Tryz.prog 81 [vP p 0, vL a3 os.length k3] h fun v h' => Res hb p mS a.line (bytesS a os) v h' := by
 refine T81 ?_
 unfold R81
 refine ⟨fun m i h' => ∃ (j : Nat) (a' : As.St), i = (j : Int) ∧ j + m = os.length ∧ AS hb h' p mS a' ∧ a'.line = a.line ∧ a'.p.data.length ≤ a.p.data.length + j ∧ bytesS a os = bytesS a' (os.drop j), ⟨os.length, 0, a, rfl, by omega, hA, rfl, by omega, rfl⟩, ?_⟩
 rintro m _ h1 ⟨j, a', rfl, hjm, hA1, hline, hd, hb81⟩
 refine br_split (fun e => ?_) fun e => ?_
 · have hlt : j < os.length := by have := of_decide_eq_true e; omega
   have hdr := List.drop_eq_getElem_cons hlt
   have hg : os[j]? = some os[j] := by simp [hlt]
   have hm := List.getElem_mem hlt
   have hlen := hl _ hm
   rw [hdr] at hb81
   generalize os[j] = t at *
   obtain ⟨b, o, ha, hr⟩ := (hT.ext hA1.ext).get hg
   refine ⟨b, o, ha, ⟨by omega, by omega⟩, _, _, (by rw [Int.toNat_natCast]; exact hr), ?_⟩
   refine Tri.mono (literal_t h1 t.text (-128) 255 hlen) ?_
   rintro _ h2 ⟨rfl, hx⟩
   have hA2 := hA1.grow hx
   rw [bytesS] at hb81
   cases hlit : literalS t.text (-128) 255 with
   | error e =>
     have he := lit_err hlit
     rw [hlit] at hb81
     refine ⟨_, _, rfl, br_pos (by simp; omega) ?_⟩
     rw [← hline]
     exact res_err hb81 he (Ext.refl _) hA2
   | ok n =>
     rw [hlit] at hb81
     obtain ⟨K, hK⟩ := hA2
     refine ⟨_, _, rfl, br_neg rfl ⟨_, _, _, (by rw [PA_cell hK.obj]; rfl), ?_⟩⟩
     intro b2 hb2 h3 hh3
     have x3 := Put.ext hh3 hb2
     have hK3 := hK.grow x3
     rw [u8_byte] at hh3
     refine Raw.mono (LM.push und40 elem5 rfl rfl rfl rfl rfl hK.ext hK.data hb2 hh3 rfl rfl (by omega)) ?_
     rintro _ h4 ⟨b5, cap, rfl, hx4, hM4, hg4⟩
     obtain ⟨hp4, hK4⟩ := hK3.appData (l := [As.byteOf n]) (m := 1) rfl hx4 hM4 hg4 rfl
     refine ⟨_, _, _, rfl, _, _, _, (by rw [hp4]; exact hK3.obj), ⟨by simp, Nat.zero_le _⟩, ?_⟩
     rintro _ rfl
     refine ⟨m - 1, by omega, ⟨j + 1, { a' with p := { a'.p with data := a'.p.data ++ [As.byteOf n] } }, ?_, by omega, ⟨_, hK4⟩, hline, by simp; omega, hb81⟩, trivial⟩
     rw [wrap64 (by omega) (by omega)]; omega
 · have hj : j = os.length := by have := of_decide_eq_false e; omega
   subst hj
   rw [List.drop_length] at hb81
   rw [hb81]
   exact ⟨rfl, hb, Ext.refl _, hA1⟩
theorem text82_t (hA : AS hb h p mS a) {t : Tk} (hT : TkAt hb a3 [t]) (hl : t.text.length ≤ 1000000) (hD : a.p.data.length ≤ 1000000) : Tri Tryz.prog 82 [vP p 0, vL a3 1 k3] h fun v h' => Res hb p mS a.line (.ok { a with p := { a.p with data := a.p.data ++ t.text } }) v h' := by
 refine T82 ?_
 unfold R82
 obtain ⟨b, o, ha, _, hc⟩ := tk_cell (n := 1) hA hT (t := t) (j := 0) rfl
 rw [Nat.zero_mul, Nat.add_zero] at hc
 obtain ⟨K, hK⟩ := hA
 refine ⟨_, _, _, (by rw [PA_cell hK.obj]; rfl), b, o, ha, ⟨by omega, by omega⟩, _, hc, ?_⟩
 by_cases h0 : t.text = []
 · refine Raw.mono (LM.extend0 und40 elem5 rfl rfl rfl rfl rfl hK.data (t2 := 9) (vy := vS t.text) ?_) ?_
   · rw [h0]; exact SrcH.string rfl ⟨⟨[]⟩⟩
   rintro _ _ ⟨rfl, rfl⟩
   refine ⟨_, _, _, rfl, _, _, _, hK.obj, ⟨by simp, Nat.zero_le _⟩, ?_⟩
   rintro _ rfl
   refine ⟨rfl, hb, Ext.refl _, K, ?_⟩
   rw [h0]
   exact hK.set (a' := { a with p := { a.p with data := a.p.data ++ [] } }) rfl (by simp) rfl rfl (by simp [PA, splice])
 · have hpos : 0 < t.text.length := List.length_pos_iff.2 h0
   refine Raw.mono (LM.extend und40 elem5 rfl rfl rfl rfl rfl hK.ext hK.data (t2 := 9) (vy := vS t.text) (css2 := bL t.text) (m := t.text.length) ?_ (by simp [bL]) (fun cs hcs => by obtain ⟨x, _, rfl⟩ := List.mem_map.1 hcs; rfl) hpos (by omega)) ?_
   · rw [bL_flat]; exact SrcH.string rfl ⟨⟨t.text⟩⟩
   rintro _ h4 ⟨b5, cap, rfl, hx4, hM4, hg4⟩
   obtain ⟨hp4, hK4⟩ := hK.appData (l := t.text) rfl hx4 hM4 hg4 rfl
   refine ⟨_, _, _, rfl, _, _, _, (by rw [hp4]; exact hK.obj), ⟨by simp, Nat.zero_le _⟩, ?_⟩
   rintro _ rfl
   exact ⟨rfl, hb, Ext.refl _, _, hK4⟩
def spaceX (a : As.St) (t : Bytes) : As.R As.St := (literalS t 0 4096) >>= fun n => .ok { a with p := { a.p with data := a.p.data ++ List.replicate n.toNat 0 } }
theorem space83_t (hA : AS hb h p mS a) {t : Tk} (hT : TkAt hb a3 [t]) (hl : t.text.length ≤ 1000000) (hD : a.p.data.length ≤ 1000000) : Tri Tryz.prog 83 [vP p 0, vL a3 1 k3] h fun v h' => Res hb p mS a.line (spaceX a t.text) v h' := by
 refine T83 ?_
 unfold R83
 obtain ⟨b, o, ha, _, hc⟩ := tk_cell (n := 1) hA hT (t := t) (j := 0) rfl
 rw [Nat.zero_mul, Nat.add_zero] at hc
 refine ⟨b, o, ha, ⟨by omega, by omega⟩, _, hc, ?_⟩
 refine Tri.mono (literal_t h t.text 0 4096 hl) ?_
 rintro _ h1 ⟨rfl, hx⟩
 have hA1 := hA.grow hx
 unfold spaceX
 cases hlit : literalS t.text 0 4096 with
 | error e =>
   have he := lit_err hlit
   exact ⟨_, _, rfl, br_pos (by simp; omega) (res_err rfl he (Ext.refl _) hA1)⟩
 | ok n =>
   obtain ⟨l1, l2⟩ := lit_range hlit
   obtain ⟨m, rfl⟩ : ∃ m : Nat, n = m := ⟨n.toNat, by omega⟩
   obtain ⟨K, hK⟩ := hA1
   refine ⟨_, _, rfl, br_neg rfl ⟨_, _, _, (by rw [PA_cell hK.obj]; rfl), ?_⟩⟩
   show Raw Tryz.prog _ h1 _
   by_cases h0 : m = 0
   · subst h0
     have raw0 : Raw Tryz.prog (execOp (rho [(22, vL K.da a.p.data.length K.dc), (23, vI ((0 : Nat) : Int))]) (mkO o83_3 40)) h1 fun w h2 => w = vL K.da a.p.data.length K.dc ∧ h2 = h1 := by
      intro w hs
      have hle := hK.data.okN.1
      have hexec : (execOp (rho [(22, vL K.da a.p.data.length K.dc), (23, vI ((0 : Nat) : Int))]) (mkO o83_3 40)).run Tryz.prog w = ((Builtin.append_ #[40, 3] 40 #[vL K.da a.p.data.length K.dc, vI 0]).run Tryz.prog w).andThen fun v w' => .ok (.value v) w' := by
       simp [execOp, mkO, resolve, o83_3, invoke, builtin, rho, lookN]
       rfl
      have hai : ∀ w, (asInt (vI (0 : Int))).run Tryz.prog w = .ok (0 : Int) w := fun _ => rfl
      have hu : Tryz.prog.underlying 40 = some (.slice 5) := rfl
      have hu2 : Tryz.prog.underlying 3 = some (.int .i64) := rfl
      have hwz : IntKind.i64.wrap 0 = 0 := wrap64 (by omega) (by omega)
      have hinf : ∃ i, Tryz.prog.info? 5 = some i ∧ i.bytes = 1 ∧ i.size = 1 := ⟨_, rfl, rfl, rfl⟩
      obtain ⟨i, hi, hby, hsz⟩ := hinf
      have hrun : (Builtin.append_ #[40, 3] 40 #[vL K.da a.p.data.length K.dc, vI 0]).run Tryz.prog w = .ok (vL K.da a.p.data.length K.dc) w := by
       cases K.da <;> simp [Builtin.append_, run_underlying hu, run_underlying hu2, sizeOf, typeInfo, hi, hby, hsz, hai, hwz, hle, storeCells]
      rw [hexec, hrun]
      exact ⟨_, _, w, h1, rfl, .inl rfl, ⟨rfl, rfl⟩, hs, Keep.refl w h1⟩
     refine Raw.mono raw0 ?_
     rintro _ _ ⟨rfl, rfl⟩
     refine ⟨_, _, _, rfl, _, _, _, hK.obj, ⟨by simp, Nat.zero_le _⟩, ?_⟩
     rintro _ rfl
     exact ⟨rfl, hb, Ext.refl _, K, hK.set (a' := { a with p := { a.p with data := a.p.data ++ [] } }) rfl (by simp) rfl rfl (by simp [PA, splice])⟩
   · refine Raw.mono (LM.zeros (m := m) (kd := .i64) (zv := .int .u8 0) und40 rfl rfl rfl rfl rfl rfl rfl rfl rfl rfl rfl rfl hK.ext hK.data (by omega) (by omega)) ?_
     rintro _ h4 ⟨b5, cap, rfl, hx4, hM4, hg4⟩
     have hbl : bL (List.replicate m (0 : UInt8)) = List.replicate m [(.int .u8 0 : Value)] := by unfold bL; rw [List.map_replicate]; rfl
     rw [← hbl] at hM4
     obtain ⟨hp4, hK4⟩ := hK.appData (l := List.replicate m 0) (by simp) hx4 hM4 hg4 rfl
     refine ⟨_, _, _, rfl, _, _, _, (by rw [hp4]; exact hK.obj), ⟨by simp, Nat.zero_le _⟩, ?_⟩
     rintro _ rfl
     exact ⟨rfl, hb, Ext.refl _, _, hK4⟩
theorem val_fst {line kind idx : Nat} {t : Bytes} {low high : Int} {x : Int × List Us} (h : valueS line t kind idx low high = .ok x) : x.2.length ≤ 1 := by
 unfold valueS at h
 split at h
 · split at h
   · cases h
   · injection h with h; subst h; simp
 · split at h
   · injection h with h; subst h; simp
   · cases h
theorem words80_t (hA : AS hb h p mS a) (hT : TkAt hb a3 os) (hl : ∀ t ∈ os, t.text.length ≤ 1000000) (hn : os.length ≤ 1000000) (hD : a.p.data.length ≤ 1000000) (hU : a.uses.length ≤ 1000000) : Tri Tryz.prog 80 [vP p 0, vL a3 os.length k3] h fun v h' => Res hb p mS a.line (wordsS a os) v h' := by
 refine T80 ?_
 unfold R80
 intro b1 hb1 h1 hh1
 have x1 := Put.ext hh1 hb1
 obtain ⟨hb2, hbx, hA2, hin⟩ := hA.rebase x1
 have d1 : hb2.cell b1 0 = some (vP p 0) := cell_of (hin b1 _ hb1 (Put.at hh1)) 0
 refine ⟨fun m i h' => ∃ (j : Nat) (a' : As.St) (hb' : PHeap), i = (j : Int) ∧ j + m = os.length ∧ Ext hb2 hb' ∧ AS hb' h' p mS a' ∧ a'.line = a.line ∧ a'.p.data.length ≤ a.p.data.length + 4 * j ∧ a'.uses.length ≤ a.uses.length + j ∧ wordsS a os = wordsS a' (os.drop j), ⟨os.length, 0, a, hb2, rfl, by omega, Ext.refl _, hA2, rfl, by omega, by omega, rfl⟩, ?_⟩
 rintro m _ h2 ⟨j, a', hb', rfl, hjm, hbx', hA', hline, hd, hu, hws⟩
 refine br_split (fun e => ?_) fun e => ?_
 · have hlt : j < os.length := by have := of_decide_eq_true e; omega
   have hdr := List.drop_eq_getElem_cons hlt
   have hg : os[j]? = some os[j] := by simp [hlt]
   have hm := List.getElem_mem hlt
   have hlen := hl _ hm
   rw [hdr] at hws
   generalize os[j] = t at *
   have d1' := cell_ext (fun ob => hbx' b1 ob) d1
   obtain ⟨b, o, ha, hr⟩ := (hT.ext ((hbx.trans hbx').trans hA'.ext)).get hg
   have hA'0 := hA'
   obtain ⟨K, hK⟩ := hA'
   refine ⟨b, o, ha, ⟨by omega, by omega⟩, _, _, (by rw [Int.toNat_natCast]; exact hr), _, _, cell_ext (fun ob => hK.ext b1 ob) d1', _, _, _, (by rw [PA_cell hK.obj]; rfl), ?_⟩
   intro b3 hb3 h3 hh3
   refine ⟨_, _, _, Put.at hh3, ⟨by simp, Nat.zero_le _⟩, ?_⟩
   intro h4 hh4
   have hh4' : h4 = h2.put b3 (.cells ⟨[vI (a'.p.data.length : Int)]⟩ 3 (0, 0)) := by
    rw [hh4, hh3, put_put]; rfl
   clear hh4 hh3 h3
   have x4 := Put.ext hh4' hb3
   obtain ⟨hb3', hbx3, hA3, hin3⟩ := hA'0.rebase x4
   have d3 : hb3'.cell b3 0 = some (vI (a'.p.data.length : Int)) := cell_of (hin3 b3 _ hb3 (Put.at hh4')) 0
   have d13 := cell_ext (fun ob => hbx3 b1 ob) d1'
   obtain ⟨K, hK⟩ := hA3
   refine ⟨_, _, cell_ext (fun ob => hK.ext b1 ob) d13, _, _, cell_ext (fun ob => hK.ext b1 ob) d13, _, _, _, (by rw [PA_cell hK.obj]; rfl), ?_⟩
   intro b4 hb4 h5 hh5
   have x5 := Put.ext hh5 hb4
   have hK5 := hK.grow x5
   refine ⟨(by rw [PA_cell hK5.obj]; rfl), cell_ext (fun ob => hK5.ext b1 ob) d13, cell_ext (fun ob => hK5.ext b1 ob) d13, ?_⟩
   have hsrc : SrcH Tryz.prog h5 1 40 (vL (ad b4 0) 4 4) 4 (bL [0, 0, 0, 0]).flatten := SrcH.row und40 rfl (row_lit (Put.at hh5) fun j v hj => by rw [Nat.zero_add]; exact hj) rfl
   refine Raw.mono (LM.extend und40 elem5 rfl rfl rfl rfl rfl hK5.ext hK5.data (t2 := 40) (vy := vL (ad b4 0) 4 4) (css2 := bL [0, 0, 0, 0]) (m := 4) hsrc rfl (fun cs hcs => by obtain ⟨x, _, rfl⟩ := List.mem_map.1 hcs; rfl) (by omega) (by omega)) ?_
   rintro _ h6 ⟨b6, cap, rfl, hx6, hM6, hg6⟩
   obtain ⟨hp6, hK6⟩ := hK5.appData (l := [0, 0, 0, 0]) rfl hx6 hM6 hg6 rfl
   refine ⟨_, _, _, rfl, cell_ext (fun ob => hx6 b1 ob) d13, cell_ext (fun ob => hx6 b1 ob) d13, _, _, _, (by rw [hp6]; exact hK5.obj), ⟨by simp, Nat.zero_le _⟩, ?_⟩
   rintro _ rfl
   refine ⟨_, _, cell_ext (fun ob => hK6.ext b1 ob) d13, ?_⟩
   refine Tri.mono (value_t (kind := 1) (idx := a'.p.data.length) ⟨_, hK6⟩ hlen (by simp only; omega) (.inr (.inl ⟨rfl, rfl, b1, b3, rfl, d13, d3⟩)) (-2147483648) 4294967295 rfl rfl (fun h => by omega)) ?_
   intro v h8 hV
   rw [wordsS] at hws
   simp only at hV
   cases hv : valueS a'.line t.text 1 a'.p.data.length (-2147483648) 4294967295 with
   | error e =>
     rw [hv] at hV hws
     obtain ⟨rfl, he, hb4', hbx4, hA4⟩ := hV
     refine ⟨_, _, rfl, br_pos (by simp; omega) ?_⟩
     have := res_err hws he (((hbx.trans hbx').trans hbx3).trans hbx4) hA4
     rw [← hline]; exact this
   | ok x =>
     obtain ⟨n, us⟩ := x
     have hus := val_fst hv
     simp only at hus
     rw [hv] at hV hws
     obtain ⟨rfl, hb4', hbx4, hA4⟩ := hV
     refine ⟨_, _, rfl, br_neg rfl ?_⟩
     refine Tri.mono (put112_t hA4 (cell_ext (fun ob => hbx4 b1 ob) d13) (cell_ext (fun ob => hbx4 b3 ob) d3) (by simp)) ?_
     rintro _ h9 ⟨rfl, hA9⟩
     have hput : putW (a'.p.data ++ [0, 0, 0, 0]) a'.p.data.length n = a'.p.data ++ wordOf n := by
      unfold putW
      rw [List.take_left' rfl, List.drop_of_length_le (by simp), List.append_nil]
     simp only [hput] at hA9
     refine ⟨rfl, m - 1, by omega, ⟨j + 1, _, hb4', ?_, by omega, (hbx'.trans hbx3).trans hbx4, hA9, hline, by simp [wordOf_len]; omega, by simp; omega, hws⟩, trivial⟩
     rw [wrap64 (by omega) (by omega)]; omega
 · have hj : j = os.length := by have := of_decide_eq_false e; omega
   subst hj
   rw [List.drop_length] at hws
   rw [hws]
   exact ⟨rfl, hb', hbx.trans hbx', hA'⟩
end
end Go.Proofs.D
namespace Go.Proofs.D
open Go Go.Den
set_option maxRecDepth 100000
set_option maxHeartbeats 4000000
abbrev ez5k1 : List CK := [.slice, .str, qi, qi, .slice, .bool, .bool, .bool, .slice, qi]
abbrev o135_9 : Op := .makeSlice 40 (.tmp 99) (.tmp 99)
abbrev o135_17 : Op := .call { callee := (.builtin .append), args := #[(.tmp 122), (.tmp 124)], argTypes := #[83, 83] }
abbrev o135_18 : Op := .call { callee := (.builtin .append), args := #[(.tmp 125), (.tmp 126)], argTypes := #[83, 83] }
noncomputable def d135 : DCode := up ⟨[(17, .l [.str]), (37, .l ez5k1), (48, .l [.int .u8]), (53, .l ez5k1), (88, .l [.str]), (95, .l [.int .u8, .str]), (96, .c (.tup [(false, [qi]), (false, [qi])])), (100, .c (.one false [.slice])), (108, .l [.int .u8, .str]), (109, .c (.tup [(false, [qi]), (false, [qi])])), (62, .l ez5k1), (66, .l [.int .u8, .str]), (69, .l [.str]), (74, .c (.tup [(false, [qi]), (false, [.slice]), (false, [qi])])), (80, .c (.one false [.str])), (120, .l ez5k1), (124, .l [.slice]), (125, .c (.one false [.slice])), (127, .c (.one false [.slice])), (131, .l [.str]), (137, .l ez5k1), (140, .l [.str]), (145, .l ez5k1)], [], [(38, 18, [(8, qi)], [(4, ez5k1)]), (54, 81, [(9, .str), (10, qi)], [(4, ez5k1), (2, ez5k1)])]⟩ (low Tryz.prog (fun _ => false) (Tryz.f135.body.getD .skip))
theorem low135 : low Tryz.prog (fun _ => false) (Tryz.f135.body.getD .skip) = some (eC d135) := by kernel_rfl
def R135 (a1 : OA) (n1 : Nat) (ez5k1 : Nat) (l1 : Bs) (i1 : Int) (i2 : Int) (a2 : OA) (n2 : Nat) (k2 : Nat) (c1 : Bool) (c2 : Bool) (c3 : Bool) (a3 : OA) (n3 : Nat) (k3 : Nat) (i3 : Int) (a4 : OA) (n4 : Nat) (k4 : Nat) (h : PHeap) (Q : Value → PHeap → Prop) : Prop :=
 ∃ (b1 o1 : Nat), a4 = some ⟨b1, o1, none⟩ ∧ (0 ≤ (0 : Int) ∧ (0 : Int) < n4) ∧
 ∃ (l2 : Bs), h.cell b1 (o1 + 1) = some (vS l2) ∧
 (okA a4 n4 k4 ∧ 0 ≤ (1 : Int) ∧ (1 : Int) ≤ ((n4 : Nat) : Int) ∧ ((n4 : Nat) : Int) ≤ k4) ∧ ∀ (a5 : OA), SlA a4 a5 1 k4 2 →
 br (l2 == [46, 116, 101, 120, 116])
 (br ((((((n4 : Nat) : Int).toNat - 1) : Nat) : Int) == 0)
 (Q (vT [vA [vL a1 n1 ez5k1, vS l1, vI i1, vI i2, vL a2 n2 k2, vB c1, vB c2, vB c3, vL a3 n3 k3, vI i3], vI 30]) h)
 (br ((((((n4 : Nat) : Int).toNat - 1) : Nat) : Int) != 1)
 (Q (vT [vA [vL a1 n1 ez5k1, vS l1, vI i1, vI i2, vL a2 n2 k2, vB c1, vB c2, vB c3, vL a3 n3 k3, vI i3], vI 30]) h)
 (∃ (I_1 : Nat → Int → OA → Nat → Nat → Bs → Int → Int → OA → Nat → Nat → Bool → Bool → Bool → OA → Nat → Nat → Int → PHeap → Prop), (∃ (m2 : Nat), I_1 m2 (0 : Int) none 0 0 [] (0 : Int) (0 : Int) none 0 0 false false false none 0 0 (0 : Int) h) ∧
 ∀ (m1 : Nat) (i4 : Int) (a6 : OA) (n5 : Nat) (k5 : Nat) (l3 : Bs) (i5 : Int) (i6 : Int) (a7 : OA) (n6 : Nat) (k6 : Nat) (c4 : Bool) (c5 : Bool) (c6 : Bool) (a8 : OA) (n7 : Nat) (k7 : Nat) (i7 : Int) (h_1 : PHeap), I_1 m1 i4 a6 n5 k5 l3 i5 i6 a7 n6 k6 c4 c5 c6 a8 n7 k7 i7 h_1 →
 br (decide (i4 < (((((n4 : Nat) : Int).toNat - 1) : Nat) : Int)))
 (∃ (b2 o2 : Nat), a5 = some ⟨b2, o2, none⟩ ∧ (0 ≤ i4 ∧ i4 < (((((n4 : Nat) : Int).toNat - 1) : Nat) : Int)) ∧
 ∃ (i8 : Int), h_1.cell b2 (o2 + (i4).toNat * 2) = some (vU i8) ∧
 br (!((i8 == 115) == (l2 == [46, 116, 101, 120, 116])))
 (Q (vT [vA [vL a1 n1 ez5k1, vS l1, vI i1, vI i2, vL a2 n2 k2, vB c1, vB c2, vB c3, vL a3 n3 k3, vI i3], vI 30]) h_1)
 (∃ (m3 : Nat), m3 < m1 ∧ I_1 m3 (IntKind.i64.wrap (i4 + 1)) a6 n5 k5 l3 i5 i6 a7 n6 k6 c4 c5 c6 a8 n7 k7 i7 h_1 ∧
 tv [vL a1 n1 ez5k1, vS l1, vI i1, vI i2, vL a2 n2 k2, vB c1, vB c2, vB c3, vL a3 n3 k3, vI i3] ∧ True))
 (∃ (I_2 : Nat → Bs → Int → OA → Nat → Nat → Bs → Int → Int → OA → Nat → Nat → Bool → Bool → Bool → OA → Nat → Nat → Int → OA → Nat → Nat → Bs → Int → Int → OA → Nat → Nat → Bool → Bool → Bool → OA → Nat → Nat → Int → PHeap → Prop), (∃ (m5 : Nat), I_2 m5 [] (0 : Int) a6 n5 k5 l3 i5 i6 a7 n6 k6 c4 c5 c6 a8 n7 k7 i7 a1 n1 ez5k1 l1 i1 i2 a2 n2 k2 c1 c2 c3 a3 n3 k3 i3 h_1) ∧
 ∀ (m4 : Nat) (l4 : Bs) (i9 : Int) (a9 : OA) (n8 : Nat) (k8 : Nat) (l5 : Bs) (i10 : Int) (i11 : Int) (a10 : OA) (n9 : Nat) (k9 : Nat) (c7 : Bool) (c8 : Bool) (c9 : Bool) (a11 : OA) (n10 : Nat) (k10 : Nat) (i12 : Int) (a12 : OA) (n11 : Nat) (k11 : Nat) (l6 : Bs) (i13 : Int) (i14 : Int) (a13 : OA) (n12 : Nat) (k12 : Nat) (c10 : Bool) (c11 : Bool) (c12 : Bool) (a14 : OA) (n13 : Nat) (k13 : Nat) (i15 : Int) (h_2 : PHeap), I_2 m4 l4 i9 a9 n8 k8 l5 i10 i11 a10 n9 k9 c7 c8 c9 a11 n10 k10 i12 a12 n11 k11 l6 i13 i14 a13 n12 k12 c10 c11 c12 a14 n13 k13 i15 h_2 →
 br (decide (i9 < (((((n4 : Nat) : Int).toNat - 1) : Nat) : Int)))
 (br (l2 == [46, 116, 101, 120, 116])
 (∃ (b3 o3 : Nat), a5 = some ⟨b3, o3, none⟩ ∧ (0 ≤ i9 ∧ i9 < (((((n4 : Nat) : Int).toNat - 1) : Nat) : Int)) ∧
 ∃ (l7 : Bs), h_2.cell b3 ((o3 + (i9).toNat * 2) + 1) = some (vS l7) ∧
 ∀ (b4 : Nat), h_2 b4 = none → ∀ (h_3 : PHeap), h_3 = h_2.put b4 (.cells ⟨[]⟩ 145) →
 Raw Tryz.prog (execOp (rho [(122, vL (ad b4 0) 0 0), (124, vL a14 n13 k13)]) (mkO o135_17 83)) h_3 fun v_1 h_4 =>
 ∃ (a15 : OA) (n14 k14 : Nat), v_1 = vL a15 n14 k14 ∧
 Raw Tryz.prog (execOp (rho [(125, vL a15 n14 k14), (126, vL none 0 0)]) (mkO o135_18 83)) h_4 fun v_2 h_5 =>
 ∃ (a16 : OA) (n15 k15 : Nat), v_2 = vL a16 n15 k15 ∧
 ∃ (m6 : Nat), m6 < m4 ∧ I_2 m6 l7 (IntKind.i64.wrap (i9 + 1)) a9 n8 k8 l5 i10 i11 a10 n9 k9 c7 c8 c9 a11 n10 k10 i12 a12 n11 k11 l6 i13 i14 a13 n12 k12 c10 c11 c12 a16 n15 k15 i15 h_5 ∧
 True)
 (br (l2 == [46, 115, 112, 97, 99, 101])
 (∃ (b5 o4 : Nat), a5 = some ⟨b5, o4, none⟩ ∧ (0 ≤ i9 ∧ i9 < (((((n4 : Nat) : Int).toNat - 1) : Nat) : Int)) ∧
 ∃ (i16 : Int) (l8 : Bs), h_2.row b5 (o4 + (i9).toNat * 2) [vU i16, vS l8] ∧
 Tri Tryz.prog 136 [vA [vU i16, vS l8], vI 0, vI 4096] h_2 fun v_3 h_6 =>
 ∃ (i17 i18 : Int), v_3 = vT [vI i17, vI i18] ∧
 Raw Tryz.prog (execOp (rho [(99, vI i17), (99, vI i17)]) (mkO o135_9 40)) h_6 fun v_4 h_7 =>
 ∃ (a17 : OA) (n16 k16 : Nat), v_4 = vL a17 n16 k16 ∧
 ∃ (l9 : Bs), BytesAt h_7 a17 n16 l9 ∧
 br (i18 != 0)
 (Q (vT [vA [vL a12 n11 k11, vS l6, vI i13, vI i14, vL a13 n12 k12, vB c10, vB c11, vB c12, vL a14 n13 k13, vI i15], vI i18]) h_7)
 (∀ (b6 : Nat), h_7 b6 = none → ∀ (h_8 : PHeap), h_8 = h_7.put b6 (.cells ⟨[]⟩ 145) →
 Raw Tryz.prog (execOp (rho [(122, vL (ad b6 0) 0 0), (124, vL a14 n13 k13)]) (mkO o135_17 83)) h_8 fun v_5 h_9 =>
 ∃ (a18 : OA) (n17 k17 : Nat), v_5 = vL a18 n17 k17 ∧
 Raw Tryz.prog (execOp (rho [(125, vL a18 n17 k17), (126, vL none 0 0)]) (mkO o135_18 83)) h_9 fun v_6 h_10 =>
 ∃ (a19 : OA) (n18 k18 : Nat), v_6 = vL a19 n18 k18 ∧
 ∃ (m7 : Nat), m7 < m4 ∧ I_2 m7 l9 (IntKind.i64.wrap (i9 + 1)) a9 n8 k8 l5 i10 i11 a10 n9 k9 c7 c8 c9 a11 n10 k10 i12 a12 n11 k11 l6 i13 i14 a13 n12 k12 c10 c11 c12 a19 n18 k18 i15 h_10 ∧
 True))
 (br (l2 == [46, 98, 121, 116, 101])
 (∃ (b7 o5 : Nat), a5 = some ⟨b7, o5, none⟩ ∧ (0 ≤ i9 ∧ i9 < (((((n4 : Nat) : Int).toNat - 1) : Nat) : Int)) ∧
 ∃ (i19 : Int) (l10 : Bs), h_2.row b7 (o5 + (i9).toNat * 2) [vU i19, vS l10] ∧
 Tri Tryz.prog 136 [vA [vU i19, vS l10], vI (-128), vI 255] h_2 fun v_7 h_11 =>
 ∃ (i20 i21 : Int), v_7 = vT [vI i20, vI i21] ∧
 ∀ (b8 : Nat), h_11 b8 = none → ∀ (h_12 : PHeap), h_12 = h_11.put b8 (.cells ⟨[vU (IntKind.u8.wrap (i20))]⟩ 5) →
 ∃ (l11 : Bs), BytesAt h_12 (ad b8 0) 1 l11 ∧
 l4.length + l11.length ≤ 9223372036854775807 ∧
 br (i21 != 0)
 (Q (vT [vA [vL a12 n11 k11, vS l6, vI i13, vI i14, vL a13 n12 k12, vB c10, vB c11, vB c12, vL a14 n13 k13, vI i15], vI i21]) h_12)
 (∀ (b9 : Nat), h_12 b9 = none → ∀ (h_13 : PHeap), h_13 = h_12.put b9 (.cells ⟨[]⟩ 145) →
 Raw Tryz.prog (execOp (rho [(122, vL (ad b9 0) 0 0), (124, vL a14 n13 k13)]) (mkO o135_17 83)) h_13 fun v_8 h_14 =>
 ∃ (a20 : OA) (n19 k19 : Nat), v_8 = vL a20 n19 k19 ∧
 Raw Tryz.prog (execOp (rho [(125, vL a20 n19 k19), (126, vL none 0 0)]) (mkO o135_18 83)) h_14 fun v_9 h_15 =>
 ∃ (a21 : OA) (n20 k20 : Nat), v_9 = vL a21 n20 k20 ∧
 ∃ (m8 : Nat), m8 < m4 ∧ I_2 m8 (l4 ++ l11) (IntKind.i64.wrap (i9 + 1)) a9 n8 k8 l5 i10 i11 a10 n9 k9 c7 c8 c9 a11 n10 k10 i12 a12 n11 k11 l6 i13 i14 a13 n12 k12 c10 c11 c12 a21 n20 k20 i15 h_15 ∧
 True))
 (∃ (b10 o6 : Nat), a5 = some ⟨b10, o6, none⟩ ∧ (0 ≤ i9 ∧ i9 < (((((n4 : Nat) : Int).toNat - 1) : Nat) : Int)) ∧
 ∃ (i22 : Int) (l12 : Bs), h_2.row b10 (o6 + (i9).toNat * 2) [vU i22, vS l12] ∧
 Tri Tryz.prog 137 [vA [vL a12 n11 k11, vS l6, vI i13, vI i14, vL a13 n12 k12, vB c10, vB c11, vB c12, vL a14 n13 k13, vI i15], vA [vU i22, vS l12], vI 1, vI (IntKind.i64.wrap ((l6.length : Int) + (l4.length : Int))), vI (-2147483648), vI 4294967295] h_2 fun v_10 h_16 =>
 ∃ (i23 : Int) (a22 : OA) (n21 k21 : Nat) (i24 : Int), v_10 = vT [vI i23, vL a22 n21 k21, vI i24] ∧
 (tv [vS l6]) ∧
 Tri Tryz.prog 97 [vI i23] h_16 fun v_11 h_17 =>
 ∃ (l13 : Bs), v_11 = vS l13 ∧
 l4.length + l13.length ≤ 9223372036854775807 ∧
 br (i24 != 0)
 (Q (vT [vA [vL a12 n11 k11, vS l6, vI i13, vI i14, vL a13 n12 k12, vB c10, vB c11, vB c12, vL a14 n13 k13, vI i15], vI i24]) h_17)
 (∀ (b11 : Nat), h_17 b11 = none → ∀ (h_18 : PHeap), h_18 = h_17.put b11 (.cells ⟨[]⟩ 145) →
 Raw Tryz.prog (execOp (rho [(122, vL (ad b11 0) 0 0), (124, vL a14 n13 k13)]) (mkO o135_17 83)) h_18 fun v_12 h_19 =>
 ∃ (a23 : OA) (n22 k22 : Nat), v_12 = vL a23 n22 k22 ∧
 Raw Tryz.prog (execOp (rho [(125, vL a23 n22 k22), (126, vL a22 n21 k21)]) (mkO o135_18 83)) h_19 fun v_13 h_20 =>
 ∃ (a24 : OA) (n23 k23 : Nat), v_13 = vL a24 n23 k23 ∧
 ∃ (m9 : Nat), m9 < m4 ∧ I_2 m9 (l4 ++ l13) (IntKind.i64.wrap (i9 + 1)) a9 n8 k8 l5 i10 i11 a10 n9 k9 c7 c8 c9 a11 n10 k10 i12 a12 n11 k11 l6 i13 i14 a13 n12 k12 c10 c11 c12 a24 n23 k23 i15 h_20 ∧
 True)))))
 (br (decide ((IntKind.i64.wrap ((l6.length : Int) + (l4.length : Int))) > 4096))
 (Q (vT [vA [vL a12 n11 k11, vS l6, vI i13, vI i14, vL a13 n12 k12, vB c10, vB c11, vB c12, vL a14 n13 k13, vI i15], vI 9]) h_2)
 (l6.length + l4.length ≤ 9223372036854775807 ∧
 Q (vT [vA [vL a12 n11 k11, vS (l6 ++ l4), vI i13, vI i14, vL a13 n12 k12, vB c10, vB c11, vB c12, vL a14 n13 k13, vI i15], vI 0]) h_2))))))
 (br ((((((n4 : Nat) : Int).toNat - 1) : Nat) : Int) == 0)
 (Q (vT [vA [vL a1 n1 ez5k1, vS l1, vI i1, vI i2, vL a2 n2 k2, vB c1, vB c2, vB c3, vL a3 n3 k3, vI i3], vI 30]) h)
 (br (l2 == [46, 115, 112, 97, 99, 101])
 (br ((((((n4 : Nat) : Int).toNat - 1) : Nat) : Int) != 1)
 (Q (vT [vA [vL a1 n1 ez5k1, vS l1, vI i1, vI i2, vL a2 n2 k2, vB c1, vB c2, vB c3, vL a3 n3 k3, vI i3], vI 30]) h)
 (∃ (I_3 : Nat → Int → OA → Nat → Nat → Bs → Int → Int → OA → Nat → Nat → Bool → Bool → Bool → OA → Nat → Nat → Int → PHeap → Prop), (∃ (m11 : Nat), I_3 m11 (0 : Int) none 0 0 [] (0 : Int) (0 : Int) none 0 0 false false false none 0 0 (0 : Int) h) ∧
 ∀ (m10 : Nat) (i25 : Int) (a25 : OA) (n24 : Nat) (k24 : Nat) (l14 : Bs) (i26 : Int) (i27 : Int) (a26 : OA) (n25 : Nat) (k25 : Nat) (c13 : Bool) (c14 : Bool) (c15 : Bool) (a27 : OA) (n26 : Nat) (k26 : Nat) (i28 : Int) (h_21 : PHeap), I_3 m10 i25 a25 n24 k24 l14 i26 i27 a26 n25 k25 c13 c14 c15 a27 n26 k26 i28 h_21 →
 br (decide (i25 < (((((n4 : Nat) : Int).toNat - 1) : Nat) : Int)))
 (∃ (b12 o7 : Nat), a5 = some ⟨b12, o7, none⟩ ∧ (0 ≤ i25 ∧ i25 < (((((n4 : Nat) : Int).toNat - 1) : Nat) : Int)) ∧
 ∃ (i29 : Int), h_21.cell b12 (o7 + (i25).toNat * 2) = some (vU i29) ∧
 br (!((i29 == 115) == (l2 == [46, 116, 101, 120, 116])))
 (Q (vT [vA [vL a1 n1 ez5k1, vS l1, vI i1, vI i2, vL a2 n2 k2, vB c1, vB c2, vB c3, vL a3 n3 k3, vI i3], vI 30]) h_21)
 (∃ (m12 : Nat), m12 < m10 ∧ I_3 m12 (IntKind.i64.wrap (i25 + 1)) a25 n24 k24 l14 i26 i27 a26 n25 k25 c13 c14 c15 a27 n26 k26 i28 h_21 ∧
 tv [vL a1 n1 ez5k1, vS l1, vI i1, vI i2, vL a2 n2 k2, vB c1, vB c2, vB c3, vL a3 n3 k3, vI i3] ∧ True))
 (∃ (I_4 : Nat → Bs → Int → OA → Nat → Nat → Bs → Int → Int → OA → Nat → Nat → Bool → Bool → Bool → OA → Nat → Nat → Int → OA → Nat → Nat → Bs → Int → Int → OA → Nat → Nat → Bool → Bool → Bool → OA → Nat → Nat → Int → PHeap → Prop), (∃ (m14 : Nat), I_4 m14 [] (0 : Int) a25 n24 k24 l14 i26 i27 a26 n25 k25 c13 c14 c15 a27 n26 k26 i28 a1 n1 ez5k1 l1 i1 i2 a2 n2 k2 c1 c2 c3 a3 n3 k3 i3 h_21) ∧
 ∀ (m13 : Nat) (l15 : Bs) (i30 : Int) (a28 : OA) (n27 : Nat) (k27 : Nat) (l16 : Bs) (i31 : Int) (i32 : Int) (a29 : OA) (n28 : Nat) (k28 : Nat) (c16 : Bool) (c17 : Bool) (c18 : Bool) (a30 : OA) (n29 : Nat) (k29 : Nat) (i33 : Int) (a31 : OA) (n30 : Nat) (k30 : Nat) (l17 : Bs) (i34 : Int) (i35 : Int) (a32 : OA) (n31 : Nat) (k31 : Nat) (c19 : Bool) (c20 : Bool) (c21 : Bool) (a33 : OA) (n32 : Nat) (k32 : Nat) (i36 : Int) (h_22 : PHeap), I_4 m13 l15 i30 a28 n27 k27 l16 i31 i32 a29 n28 k28 c16 c17 c18 a30 n29 k29 i33 a31 n30 k30 l17 i34 i35 a32 n31 k31 c19 c20 c21 a33 n32 k32 i36 h_22 →
 br (decide (i30 < (((((n4 : Nat) : Int).toNat - 1) : Nat) : Int)))
 (br (l2 == [46, 116, 101, 120, 116])
 (∃ (b13 o8 : Nat), a5 = some ⟨b13, o8, none⟩ ∧ (0 ≤ i30 ∧ i30 < (((((n4 : Nat) : Int).toNat - 1) : Nat) : Int)) ∧
 ∃ (l18 : Bs), h_22.cell b13 ((o8 + (i30).toNat * 2) + 1) = some (vS l18) ∧
 ∀ (b14 : Nat), h_22 b14 = none → ∀ (h_23 : PHeap), h_23 = h_22.put b14 (.cells ⟨[]⟩ 145) →
 Raw Tryz.prog (execOp (rho [(122, vL (ad b14 0) 0 0), (124, vL a33 n32 k32)]) (mkO o135_17 83)) h_23 fun v_14 h_24 =>
 ∃ (a34 : OA) (n33 k33 : Nat), v_14 = vL a34 n33 k33 ∧
 Raw Tryz.prog (execOp (rho [(125, vL a34 n33 k33), (126, vL none 0 0)]) (mkO o135_18 83)) h_24 fun v_15 h_25 =>
 ∃ (a35 : OA) (n34 k34 : Nat), v_15 = vL a35 n34 k34 ∧
 ∃ (m15 : Nat), m15 < m13 ∧ I_4 m15 l18 (IntKind.i64.wrap (i30 + 1)) a28 n27 k27 l16 i31 i32 a29 n28 k28 c16 c17 c18 a30 n29 k29 i33 a31 n30 k30 l17 i34 i35 a32 n31 k31 c19 c20 c21 a35 n34 k34 i36 h_25 ∧
 True)
 (br (l2 == [46, 115, 112, 97, 99, 101])
 (∃ (b15 o9 : Nat), a5 = some ⟨b15, o9, none⟩ ∧ (0 ≤ i30 ∧ i30 < (((((n4 : Nat) : Int).toNat - 1) : Nat) : Int)) ∧
 ∃ (i37 : Int) (l19 : Bs), h_22.row b15 (o9 + (i30).toNat * 2) [vU i37, vS l19] ∧
 Tri Tryz.prog 136 [vA [vU i37, vS l19], vI 0, vI 4096] h_22 fun v_16 h_26 =>
 ∃ (i38 i39 : Int), v_16 = vT [vI i38, vI i39] ∧
 Raw Tryz.prog (execOp (rho [(99, vI i38), (99, vI i38)]) (mkO o135_9 40)) h_26 fun v_17 h_27 =>
 ∃ (a36 : OA) (n35 k35 : Nat), v_17 = vL a36 n35 k35 ∧
 ∃ (l20 : Bs), BytesAt h_27 a36 n35 l20 ∧
 br (i39 != 0)
 (Q (vT [vA [vL a31 n30 k30, vS l17, vI i34, vI i35, vL a32 n31 k31, vB c19, vB c20, vB c21, vL a33 n32 k32, vI i36], vI i39]) h_27)
 (∀ (b16 : Nat), h_27 b16 = none → ∀ (h_28 : PHeap), h_28 = h_27.put b16 (.cells ⟨[]⟩ 145) →
 Raw Tryz.prog (execOp (rho [(122, vL (ad b16 0) 0 0), (124, vL a33 n32 k32)]) (mkO o135_17 83)) h_28 fun v_18 h_29 =>
 ∃ (a37 : OA) (n36 k36 : Nat), v_18 = vL a37 n36 k36 ∧
 Raw Tryz.prog (execOp (rho [(125, vL a37 n36 k36), (126, vL none 0 0)]) (mkO o135_18 83)) h_29 fun v_19 h_30 =>
 ∃ (a38 : OA) (n37 k37 : Nat), v_19 = vL a38 n37 k37 ∧
 ∃ (m16 : Nat), m16 < m13 ∧ I_4 m16 l20 (IntKind.i64.wrap (i30 + 1)) a28 n27 k27 l16 i31 i32 a29 n28 k28 c16 c17 c18 a30 n29 k29 i33 a31 n30 k30 l17 i34 i35 a32 n31 k31 c19 c20 c21 a38 n37 k37 i36 h_30 ∧
 True))
 (br (l2 == [46, 98, 121, 116, 101])
 (∃ (b17 o10 : Nat), a5 = some ⟨b17, o10, none⟩ ∧ (0 ≤ i30 ∧ i30 < (((((n4 : Nat) : Int).toNat - 1) : Nat) : Int)) ∧
 ∃ (i40 : Int) (l21 : Bs), h_22.row b17 (o10 + (i30).toNat * 2) [vU i40, vS l21] ∧
 Tri Tryz.prog 136 [vA [vU i40, vS l21], vI (-128), vI 255] h_22 fun v_20 h_31 =>
 ∃ (i41 i42 : Int), v_20 = vT [vI i41, vI i42] ∧
 ∀ (b18 : Nat), h_31 b18 = none → ∀ (h_32 : PHeap), h_32 = h_31.put b18 (.cells ⟨[vU (IntKind.u8.wrap (i41))]⟩ 5) →
 ∃ (l22 : Bs), BytesAt h_32 (ad b18 0) 1 l22 ∧
 l15.length + l22.length ≤ 9223372036854775807 ∧
 br (i42 != 0)
 (Q (vT [vA [vL a31 n30 k30, vS l17, vI i34, vI i35, vL a32 n31 k31, vB c19, vB c20, vB c21, vL a33 n32 k32, vI i36], vI i42]) h_32)
 (∀ (b19 : Nat), h_32 b19 = none → ∀ (h_33 : PHeap), h_33 = h_32.put b19 (.cells ⟨[]⟩ 145) →
 Raw Tryz.prog (execOp (rho [(122, vL (ad b19 0) 0 0), (124, vL a33 n32 k32)]) (mkO o135_17 83)) h_33 fun v_21 h_34 =>
 ∃ (a39 : OA) (n38 k38 : Nat), v_21 = vL a39 n38 k38 ∧
 Raw Tryz.prog (execOp (rho [(125, vL a39 n38 k38), (126, vL none 0 0)]) (mkO o135_18 83)) h_34 fun v_22 h_35 =>
 ∃ (a40 : OA) (n39 k39 : Nat), v_22 = vL a40 n39 k39 ∧
 ∃ (m17 : Nat), m17 < m13 ∧ I_4 m17 (l15 ++ l22) (IntKind.i64.wrap (i30 + 1)) a28 n27 k27 l16 i31 i32 a29 n28 k28 c16 c17 c18 a30 n29 k29 i33 a31 n30 k30 l17 i34 i35 a32 n31 k31 c19 c20 c21 a40 n39 k39 i36 h_35 ∧
 True))
 (∃ (b20 o11 : Nat), a5 = some ⟨b20, o11, none⟩ ∧ (0 ≤ i30 ∧ i30 < (((((n4 : Nat) : Int).toNat - 1) : Nat) : Int)) ∧
 ∃ (i43 : Int) (l23 : Bs), h_22.row b20 (o11 + (i30).toNat * 2) [vU i43, vS l23] ∧
 Tri Tryz.prog 137 [vA [vL a31 n30 k30, vS l17, vI i34, vI i35, vL a32 n31 k31, vB c19, vB c20, vB c21, vL a33 n32 k32, vI i36], vA [vU i43, vS l23], vI 1, vI (IntKind.i64.wrap ((l17.length : Int) + (l15.length : Int))), vI (-2147483648), vI 4294967295] h_22 fun v_23 h_36 =>
 ∃ (i44 : Int) (a41 : OA) (n40 k40 : Nat) (i45 : Int), v_23 = vT [vI i44, vL a41 n40 k40, vI i45] ∧
 (tv [vS l17]) ∧
 Tri Tryz.prog 97 [vI i44] h_36 fun v_24 h_37 =>
 ∃ (l24 : Bs), v_24 = vS l24 ∧
 l15.length + l24.length ≤ 9223372036854775807 ∧
 br (i45 != 0)
 (Q (vT [vA [vL a31 n30 k30, vS l17, vI i34, vI i35, vL a32 n31 k31, vB c19, vB c20, vB c21, vL a33 n32 k32, vI i36], vI i45]) h_37)
 (∀ (b21 : Nat), h_37 b21 = none → ∀ (h_38 : PHeap), h_38 = h_37.put b21 (.cells ⟨[]⟩ 145) →
 Raw Tryz.prog (execOp (rho [(122, vL (ad b21 0) 0 0), (124, vL a33 n32 k32)]) (mkO o135_17 83)) h_38 fun v_25 h_39 =>
 ∃ (a42 : OA) (n41 k41 : Nat), v_25 = vL a42 n41 k41 ∧
 Raw Tryz.prog (execOp (rho [(125, vL a42 n41 k41), (126, vL a41 n40 k40)]) (mkO o135_18 83)) h_39 fun v_26 h_40 =>
 ∃ (a43 : OA) (n42 k42 : Nat), v_26 = vL a43 n42 k42 ∧
 ∃ (m18 : Nat), m18 < m13 ∧ I_4 m18 (l15 ++ l24) (IntKind.i64.wrap (i30 + 1)) a28 n27 k27 l16 i31 i32 a29 n28 k28 c16 c17 c18 a30 n29 k29 i33 a31 n30 k30 l17 i34 i35 a32 n31 k31 c19 c20 c21 a43 n42 k42 i36 h_40 ∧
 True)))))
 (br (decide ((IntKind.i64.wrap ((l17.length : Int) + (l15.length : Int))) > 4096))
 (Q (vT [vA [vL a31 n30 k30, vS l17, vI i34, vI i35, vL a32 n31 k31, vB c19, vB c20, vB c21, vL a33 n32 k32, vI i36], vI 9]) h_22)
 (l17.length + l15.length ≤ 9223372036854775807 ∧
 Q (vT [vA [vL a31 n30 k30, vS (l17 ++ l15), vI i34, vI i35, vL a32 n31 k31, vB c19, vB c20, vB c21, vL a33 n32 k32, vI i36], vI 0]) h_22)))))
 (∃ (I_5 : Nat → Int → OA → Nat → Nat → Bs → Int → Int → OA → Nat → Nat → Bool → Bool → Bool → OA → Nat → Nat → Int → PHeap → Prop), (∃ (m20 : Nat), I_5 m20 (0 : Int) none 0 0 [] (0 : Int) (0 : Int) none 0 0 false false false none 0 0 (0 : Int) h) ∧
 ∀ (m19 : Nat) (i46 : Int) (a44 : OA) (n43 : Nat) (k43 : Nat) (l25 : Bs) (i47 : Int) (i48 : Int) (a45 : OA) (n44 : Nat) (k44 : Nat) (c22 : Bool) (c23 : Bool) (c24 : Bool) (a46 : OA) (n45 : Nat) (k45 : Nat) (i49 : Int) (h_41 : PHeap), I_5 m19 i46 a44 n43 k43 l25 i47 i48 a45 n44 k44 c22 c23 c24 a46 n45 k45 i49 h_41 →
 br (decide (i46 < (((((n4 : Nat) : Int).toNat - 1) : Nat) : Int)))
 (∃ (b22 o12 : Nat), a5 = some ⟨b22, o12, none⟩ ∧ (0 ≤ i46 ∧ i46 < (((((n4 : Nat) : Int).toNat - 1) : Nat) : Int)) ∧
 ∃ (i50 : Int), h_41.cell b22 (o12 + (i46).toNat * 2) = some (vU i50) ∧
 br (!((i50 == 115) == (l2 == [46, 116, 101, 120, 116])))
 (Q (vT [vA [vL a1 n1 ez5k1, vS l1, vI i1, vI i2, vL a2 n2 k2, vB c1, vB c2, vB c3, vL a3 n3 k3, vI i3], vI 30]) h_41)
 (∃ (m21 : Nat), m21 < m19 ∧ I_5 m21 (IntKind.i64.wrap (i46 + 1)) a44 n43 k43 l25 i47 i48 a45 n44 k44 c22 c23 c24 a46 n45 k45 i49 h_41 ∧
 tv [vL a1 n1 ez5k1, vS l1, vI i1, vI i2, vL a2 n2 k2, vB c1, vB c2, vB c3, vL a3 n3 k3, vI i3] ∧ True))
 (∃ (I_6 : Nat → Bs → Int → OA → Nat → Nat → Bs → Int → Int → OA → Nat → Nat → Bool → Bool → Bool → OA → Nat → Nat → Int → OA → Nat → Nat → Bs → Int → Int → OA → Nat → Nat → Bool → Bool → Bool → OA → Nat → Nat → Int → PHeap → Prop), (∃ (m23 : Nat), I_6 m23 [] (0 : Int) a44 n43 k43 l25 i47 i48 a45 n44 k44 c22 c23 c24 a46 n45 k45 i49 a1 n1 ez5k1 l1 i1 i2 a2 n2 k2 c1 c2 c3 a3 n3 k3 i3 h_41) ∧
 ∀ (m22 : Nat) (l26 : Bs) (i51 : Int) (a47 : OA) (n46 : Nat) (k46 : Nat) (l27 : Bs) (i52 : Int) (i53 : Int) (a48 : OA) (n47 : Nat) (k47 : Nat) (c25 : Bool) (c26 : Bool) (c27 : Bool) (a49 : OA) (n48 : Nat) (k48 : Nat) (i54 : Int) (a50 : OA) (n49 : Nat) (k49 : Nat) (l28 : Bs) (i55 : Int) (i56 : Int) (a51 : OA) (n50 : Nat) (k50 : Nat) (c28 : Bool) (c29 : Bool) (c30 : Bool) (a52 : OA) (n51 : Nat) (k51 : Nat) (i57 : Int) (h_42 : PHeap), I_6 m22 l26 i51 a47 n46 k46 l27 i52 i53 a48 n47 k47 c25 c26 c27 a49 n48 k48 i54 a50 n49 k49 l28 i55 i56 a51 n50 k50 c28 c29 c30 a52 n51 k51 i57 h_42 →
 br (decide (i51 < (((((n4 : Nat) : Int).toNat - 1) : Nat) : Int)))
 (br (l2 == [46, 116, 101, 120, 116])
 (∃ (b23 o13 : Nat), a5 = some ⟨b23, o13, none⟩ ∧ (0 ≤ i51 ∧ i51 < (((((n4 : Nat) : Int).toNat - 1) : Nat) : Int)) ∧
 ∃ (l29 : Bs), h_42.cell b23 ((o13 + (i51).toNat * 2) + 1) = some (vS l29) ∧
 ∀ (b24 : Nat), h_42 b24 = none → ∀ (h_43 : PHeap), h_43 = h_42.put b24 (.cells ⟨[]⟩ 145) →
 Raw Tryz.prog (execOp (rho [(122, vL (ad b24 0) 0 0), (124, vL a52 n51 k51)]) (mkO o135_17 83)) h_43 fun v_27 h_44 =>
 ∃ (a53 : OA) (n52 k52 : Nat), v_27 = vL a53 n52 k52 ∧
 Raw Tryz.prog (execOp (rho [(125, vL a53 n52 k52), (126, vL none 0 0)]) (mkO o135_18 83)) h_44 fun v_28 h_45 =>
 ∃ (a54 : OA) (n53 k53 : Nat), v_28 = vL a54 n53 k53 ∧
 ∃ (m24 : Nat), m24 < m22 ∧ I_6 m24 l29 (IntKind.i64.wrap (i51 + 1)) a47 n46 k46 l27 i52 i53 a48 n47 k47 c25 c26 c27 a49 n48 k48 i54 a50 n49 k49 l28 i55 i56 a51 n50 k50 c28 c29 c30 a54 n53 k53 i57 h_45 ∧
 True)
 (br (l2 == [46, 115, 112, 97, 99, 101])
 (∃ (b25 o14 : Nat), a5 = some ⟨b25, o14, none⟩ ∧ (0 ≤ i51 ∧ i51 < (((((n4 : Nat) : Int).toNat - 1) : Nat) : Int)) ∧
 ∃ (i58 : Int) (l30 : Bs), h_42.row b25 (o14 + (i51).toNat * 2) [vU i58, vS l30] ∧
 Tri Tryz.prog 136 [vA [vU i58, vS l30], vI 0, vI 4096] h_42 fun v_29 h_46 =>
 ∃ (i59 i60 : Int), v_29 = vT [vI i59, vI i60] ∧
 Raw Tryz.prog (execOp (rho [(99, vI i59), (99, vI i59)]) (mkO o135_9 40)) h_46 fun v_30 h_47 =>
 ∃ (a55 : OA) (n54 k54 : Nat), v_30 = vL a55 n54 k54 ∧
 ∃ (l31 : Bs), BytesAt h_47 a55 n54 l31 ∧
 br (i60 != 0)
 (Q (vT [vA [vL a50 n49 k49, vS l28, vI i55, vI i56, vL a51 n50 k50, vB c28, vB c29, vB c30, vL a52 n51 k51, vI i57], vI i60]) h_47)
 (∀ (b26 : Nat), h_47 b26 = none → ∀ (h_48 : PHeap), h_48 = h_47.put b26 (.cells ⟨[]⟩ 145) →
 Raw Tryz.prog (execOp (rho [(122, vL (ad b26 0) 0 0), (124, vL a52 n51 k51)]) (mkO o135_17 83)) h_48 fun v_31 h_49 =>
 ∃ (a56 : OA) (n55 k55 : Nat), v_31 = vL a56 n55 k55 ∧
 Raw Tryz.prog (execOp (rho [(125, vL a56 n55 k55), (126, vL none 0 0)]) (mkO o135_18 83)) h_49 fun v_32 h_50 =>
 ∃ (a57 : OA) (n56 k56 : Nat), v_32 = vL a57 n56 k56 ∧
 ∃ (m25 : Nat), m25 < m22 ∧ I_6 m25 l31 (IntKind.i64.wrap (i51 + 1)) a47 n46 k46 l27 i52 i53 a48 n47 k47 c25 c26 c27 a49 n48 k48 i54 a50 n49 k49 l28 i55 i56 a51 n50 k50 c28 c29 c30 a57 n56 k56 i57 h_50 ∧
 True))
 (br (l2 == [46, 98, 121, 116, 101])
 (∃ (b27 o15 : Nat), a5 = some ⟨b27, o15, none⟩ ∧ (0 ≤ i51 ∧ i51 < (((((n4 : Nat) : Int).toNat - 1) : Nat) : Int)) ∧
 ∃ (i61 : Int) (l32 : Bs), h_42.row b27 (o15 + (i51).toNat * 2) [vU i61, vS l32] ∧
 Tri Tryz.prog 136 [vA [vU i61, vS l32], vI (-128), vI 255] h_42 fun v_33 h_51 =>
 ∃ (i62 i63 : Int), v_33 = vT [vI i62, vI i63] ∧
 ∀ (b28 : Nat), h_51 b28 = none → ∀ (h_52 : PHeap), h_52 = h_51.put b28 (.cells ⟨[vU (IntKind.u8.wrap (i62))]⟩ 5) →
 ∃ (l33 : Bs), BytesAt h_52 (ad b28 0) 1 l33 ∧
 l26.length + l33.length ≤ 9223372036854775807 ∧
 br (i63 != 0)
 (Q (vT [vA [vL a50 n49 k49, vS l28, vI i55, vI i56, vL a51 n50 k50, vB c28, vB c29, vB c30, vL a52 n51 k51, vI i57], vI i63]) h_52)
 (∀ (b29 : Nat), h_52 b29 = none → ∀ (h_53 : PHeap), h_53 = h_52.put b29 (.cells ⟨[]⟩ 145) →
 Raw Tryz.prog (execOp (rho [(122, vL (ad b29 0) 0 0), (124, vL a52 n51 k51)]) (mkO o135_17 83)) h_53 fun v_34 h_54 =>
 ∃ (a58 : OA) (n57 k57 : Nat), v_34 = vL a58 n57 k57 ∧
 Raw Tryz.prog (execOp (rho [(125, vL a58 n57 k57), (126, vL none 0 0)]) (mkO o135_18 83)) h_54 fun v_35 h_55 =>
 ∃ (a59 : OA) (n58 k58 : Nat), v_35 = vL a59 n58 k58 ∧
 ∃ (m26 : Nat), m26 < m22 ∧ I_6 m26 (l26 ++ l33) (IntKind.i64.wrap (i51 + 1)) a47 n46 k46 l27 i52 i53 a48 n47 k47 c25 c26 c27 a49 n48 k48 i54 a50 n49 k49 l28 i55 i56 a51 n50 k50 c28 c29 c30 a59 n58 k58 i57 h_55 ∧
 True))
 (∃ (b30 o16 : Nat), a5 = some ⟨b30, o16, none⟩ ∧ (0 ≤ i51 ∧ i51 < (((((n4 : Nat) : Int).toNat - 1) : Nat) : Int)) ∧
 ∃ (i64 : Int) (l34 : Bs), h_42.row b30 (o16 + (i51).toNat * 2) [vU i64, vS l34] ∧
 Tri Tryz.prog 137 [vA [vL a50 n49 k49, vS l28, vI i55, vI i56, vL a51 n50 k50, vB c28, vB c29, vB c30, vL a52 n51 k51, vI i57], vA [vU i64, vS l34], vI 1, vI (IntKind.i64.wrap ((l28.length : Int) + (l26.length : Int))), vI (-2147483648), vI 4294967295] h_42 fun v_36 h_56 =>
 ∃ (i65 : Int) (a60 : OA) (n59 k59 : Nat) (i66 : Int), v_36 = vT [vI i65, vL a60 n59 k59, vI i66] ∧
 (tv [vS l28]) ∧
 Tri Tryz.prog 97 [vI i65] h_56 fun v_37 h_57 =>
 ∃ (l35 : Bs), v_37 = vS l35 ∧
 l26.length + l35.length ≤ 9223372036854775807 ∧
 br (i66 != 0)
 (Q (vT [vA [vL a50 n49 k49, vS l28, vI i55, vI i56, vL a51 n50 k50, vB c28, vB c29, vB c30, vL a52 n51 k51, vI i57], vI i66]) h_57)
 (∀ (b31 : Nat), h_57 b31 = none → ∀ (h_58 : PHeap), h_58 = h_57.put b31 (.cells ⟨[]⟩ 145) →
 Raw Tryz.prog (execOp (rho [(122, vL (ad b31 0) 0 0), (124, vL a52 n51 k51)]) (mkO o135_17 83)) h_58 fun v_38 h_59 =>
 ∃ (a61 : OA) (n60 k60 : Nat), v_38 = vL a61 n60 k60 ∧
 Raw Tryz.prog (execOp (rho [(125, vL a61 n60 k60), (126, vL a60 n59 k59)]) (mkO o135_18 83)) h_59 fun v_39 h_60 =>
 ∃ (a62 : OA) (n61 k61 : Nat), v_39 = vL a62 n61 k61 ∧
 ∃ (m27 : Nat), m27 < m22 ∧ I_6 m27 (l26 ++ l35) (IntKind.i64.wrap (i51 + 1)) a47 n46 k46 l27 i52 i53 a48 n47 k47 c25 c26 c27 a49 n48 k48 i54 a50 n49 k49 l28 i55 i56 a51 n50 k50 c28 c29 c30 a62 n61 k61 i57 h_60 ∧
 True)))))
 (br (decide ((IntKind.i64.wrap ((l28.length : Int) + (l26.length : Int))) > 4096))
 (Q (vT [vA [vL a50 n49 k49, vS l28, vI i55, vI i56, vL a51 n50 k50, vB c28, vB c29, vB c30, vL a52 n51 k51, vI i57], vI 9]) h_42)
 (l28.length + l26.length ≤ 9223372036854775807 ∧
 Q (vT [vA [vL a50 n49 k49, vS (l28 ++ l26), vI i55, vI i56, vL a51 n50 k50, vB c28, vB c29, vB c30, vL a52 n51 k51, vI i57], vI 0]) h_42))))))
theorem T135 {a1 : OA} {n1 : Nat} {ez5k1 : Nat} {l1 : Bs} {i1 : Int} {i2 : Int} {a2 : OA} {n2 : Nat} {k2 : Nat} {c1 : Bool} {c2 : Bool} {c3 : Bool} {a3 : OA} {n3 : Nat} {k3 : Nat} {i3 : Int} {a4 : OA} {n4 : Nat} {k4 : Nat} {h : PHeap} {Q : Value → PHeap → Prop} (hR : R135 a1 n1 ez5k1 l1 i1 i2 a2 n2 k2 c1 c2 c3 a3 n3 k3 i3 a4 n4 k4 h Q) : Tri Tryz.prog 135 [vA [vL a1 n1 ez5k1, vS l1, vI i1, vI i2, vL a2 n2 k2, vB c1, vB c2, vB c3, vL a3 n3 k3, vI i3], vL a4 n4 k4] h Q :=
 tri_of_dn mixed Tryz.func135 rfl (by kernel_rfl) low135 (rs := [.cell 4 true 10, .tmp 5]) (by kernel_rfl) rfl (Eq.mpr (by kernel_rfl : dnF Tryz.prog Tryz.f135.ntmps d135 [.cell 4 true 10, .tmp 5] [vA [vL a1 n1 ez5k1, vS l1, vI i1, vI i2, vL a2 n2 k2, vB c1, vB c2, vB c3, vL a3 n3 k3, vI i3], vL a4 n4 k4] h Q = R135 a1 n1 ez5k1 l1 i1 i2 a2 n2 k2 c1 c2 c3 a3 n3 k3 i3 a4 n4 k4 h Q) hR)
end Go.Proofs.D
