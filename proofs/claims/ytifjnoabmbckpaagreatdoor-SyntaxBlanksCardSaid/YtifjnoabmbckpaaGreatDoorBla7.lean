import Derived.Test.YtifjnoabmbckpaaGreatDoorBla6
namespace Go.Proofs.D
open Go Go.Den
set_option maxRecDepth 100000
set_option maxHeartbeats 4000000
abbrev dck1 : List CK := [qi, .str, .slice, .slice, .slice, qi, qi]
abbrev dck2 : List CK := [.str, qi, qi, qi, qi]
abbrev dck3 : List CK := [.str, .slice, .slice, qi, qi]
abbrev dck4 : List CK := [qi, .str, .str, qi, .str, .slice, qi, qi]
abbrev dck5 : List CK := [.str, qi, qi, qi]
abbrev dck6 : List CK := [.str, .slice, .slice, qi]
abbrev dck7 : List CK := [qi, .str, .slice, .slice, .slice, qi]
abbrev dck8 : List CK := [qi, .str, .str, qi, .str, .slice, qi]
noncomputable def d32 : DCode := up ⟨[(7, .l [.slice, .slice]), (8, .c (.one false [.bool])), (11, .l [.slice, .slice]), (12, .c (.one false [.bool])), (16, .l [.slice]), (18, .l [.slice]), (20, .c (.one false [.bool])), (23, .l [.slice]), (25, .l [.slice]), (27, .c (.one false [.bool]))], [], []⟩ (low Tryz.prog (fun _ => false) (Tryz.f32.body.getD .skip))
theorem low32 : low Tryz.prog (fun _ => false) (Tryz.f32.body.getD .skip) = some (eC d32) := by kernel_rfl
def R32 (a1 : OA) (n1 : Nat) (dck1 : Nat) (a2 : OA) (n2 : Nat) (dck2 : Nat) (a3 : OA) (n3 : Nat) (dck3 : Nat) (a4 : OA) (n4 : Nat) (dck4 : Nat) (h : PHeap) (Q : Value → PHeap → Prop) : Prop :=
 Tri Tryz.prog 56 [vA [vL a1 n1 dck1, vL a2 n2 dck2]] h fun v_1 h_1 =>
 ∃ (c1 : Bool), v_1 = vB c1 ∧
 br (!c1)
 (Q (vB false) h_1)
 (Tri Tryz.prog 56 [vA [vL a3 n3 dck3, vL a4 n4 dck4]] h_1 fun v_2 h_2 =>
 ∃ (c2 : Bool), v_2 = vB c2 ∧
 br (!c2)
 (Q (vB false) h_2)
 (Tri Tryz.prog 77 [vL a1 n1 dck1, vL a3 n3 dck3, vF 72 [] []] h_2 fun v_3 h_3 =>
 ∃ (c3 : Bool), v_3 = vB c3 ∧
 br c3
 (Tri Tryz.prog 78 [vL a2 n2 dck2, vL a4 n4 dck4, vF 73 [] []] h_3 fun v_4 h_4 =>
 ∃ (c4 : Bool), v_4 = vB c4 ∧
 Q (vB c4) h_4)
 (Q (vB false) h_3)))
theorem T32 {a1 : OA} {n1 : Nat} {dck1 : Nat} {a2 : OA} {n2 : Nat} {dck2 : Nat} {a3 : OA} {n3 : Nat} {dck3 : Nat} {a4 : OA} {n4 : Nat} {dck4 : Nat} {h : PHeap} {Q : Value → PHeap → Prop} (hR : R32 a1 n1 dck1 a2 n2 dck2 a3 n3 dck3 a4 n4 dck4 h Q) : Tri Tryz.prog 32 [vA [vL a1 n1 dck1, vL a2 n2 dck2], vA [vL a3 n3 dck3, vL a4 n4 dck4]] h Q :=
 tri_of_dn mixed Tryz.func32 rfl (by kernel_rfl) low32 (rs := [.tmp 4]) (by kernel_rfl) rfl (Eq.mpr (by kernel_rfl : dnF Tryz.prog Tryz.f32.ntmps d32 [.tmp 4] [vA [vL a1 n1 dck1, vL a2 n2 dck2], vA [vL a3 n3 dck3, vL a4 n4 dck4]] h Q = R32 a1 n1 dck1 a2 n2 dck2 a3 n3 dck3 a4 n4 dck4 h Q) hR)
noncomputable def d72 : DCode := up ⟨[(6, .l [.str]), (8, .l [.str]), (12, .l [qi]), (14, .l [qi]), (19, .l [qi]), (21, .l [qi])], [], []⟩ (low Tryz.prog (fun _ => false) (Tryz.f72.body.getD .skip))
theorem low72 : low Tryz.prog (fun _ => false) (Tryz.f72.body.getD .skip) = some (eC d72) := by kernel_rfl
def R72 (l1 : Bs) (i1 : Int) (i2 : Int) (i3 : Int) (i4 : Int) (l2 : Bs) (i5 : Int) (i6 : Int) (i7 : Int) (i8 : Int) (h : PHeap) (Q : Value → PHeap → Prop) : Prop :=
 br (l1 == l2)
 (br (i1 == i5)
 (Q (vB (i2 == i6)) h)
 (Q (vB false) h))
 (Q (vB false) h)
theorem T72 {l1 : Bs} {i1 : Int} {i2 : Int} {i3 : Int} {i4 : Int} {l2 : Bs} {i5 : Int} {i6 : Int} {i7 : Int} {i8 : Int} {h : PHeap} {Q : Value → PHeap → Prop} (hR : R72 l1 i1 i2 i3 i4 l2 i5 i6 i7 i8 h Q) : Tri Tryz.prog 72 [vA [vS l1, vI i1, vI i2, vI i3, vI i4], vA [vS l2, vI i5, vI i6, vI i7, vI i8]] h Q :=
 tri_of_dn mixed Tryz.func72 rfl (by kernel_rfl) low72 (rs := [.tmp 4]) (by kernel_rfl) rfl (Eq.mpr (by kernel_rfl : dnF Tryz.prog Tryz.f72.ntmps d72 [.tmp 4] [vA [vS l1, vI i1, vI i2, vI i3, vI i4], vA [vS l2, vI i5, vI i6, vI i7, vI i8]] h Q = R72 l1 i1 i2 i3 i4 l2 i5 i6 i7 i8 h Q) hR)
noncomputable def d73 : DCode := up ⟨[(6, .l [.str]), (8, .l [.str]), (12, .l [.slice]), (14, .l [.slice]), (15, .c (.one false [.bool])), (19, .l [.slice]), (21, .l [.slice]), (22, .c (.one false [.bool]))], [], []⟩ (low Tryz.prog (fun _ => false) (Tryz.f73.body.getD .skip))
theorem low73 : low Tryz.prog (fun _ => false) (Tryz.f73.body.getD .skip) = some (eC d73) := by kernel_rfl
def R73 (l1 : Bs) (a1 : OA) (n1 : Nat) (dck1 : Nat) (a2 : OA) (n2 : Nat) (dck2 : Nat) (i1 : Int) (i2 : Int) (l2 : Bs) (a3 : OA) (n3 : Nat) (dck3 : Nat) (a4 : OA) (n4 : Nat) (dck4 : Nat) (i3 : Int) (i4 : Int) (h : PHeap) (Q : Value → PHeap → Prop) : Prop :=
 br (l1 == l2)
 (Tri Tryz.prog 74 [vL a1 n1 dck1, vL a3 n3 dck3] h fun v_1 h_1 =>
 ∃ (c1 : Bool), v_1 = vB c1 ∧
 br c1
 (Tri Tryz.prog 75 [vL a2 n2 dck2, vL a4 n4 dck4, vF 76 [] []] h_1 fun v_2 h_2 =>
 ∃ (c2 : Bool), v_2 = vB c2 ∧
 Q (vB c2) h_2)
 (Q (vB false) h_1))
 (Q (vB false) h)
theorem T73 {l1 : Bs} {a1 : OA} {n1 : Nat} {dck1 : Nat} {a2 : OA} {n2 : Nat} {dck2 : Nat} {i1 : Int} {i2 : Int} {l2 : Bs} {a3 : OA} {n3 : Nat} {dck3 : Nat} {a4 : OA} {n4 : Nat} {dck4 : Nat} {i3 : Int} {i4 : Int} {h : PHeap} {Q : Value → PHeap → Prop} (hR : R73 l1 a1 n1 dck1 a2 n2 dck2 i1 i2 l2 a3 n3 dck3 a4 n4 dck4 i3 i4 h Q) : Tri Tryz.prog 73 [vA [vS l1, vL a1 n1 dck1, vL a2 n2 dck2, vI i1, vI i2], vA [vS l2, vL a3 n3 dck3, vL a4 n4 dck4, vI i3, vI i4]] h Q :=
 tri_of_dn mixed Tryz.func73 rfl (by kernel_rfl) low73 (rs := [.tmp 4]) (by kernel_rfl) rfl (Eq.mpr (by kernel_rfl : dnF Tryz.prog Tryz.f73.ntmps d73 [.tmp 4] [vA [vS l1, vL a1 n1 dck1, vL a2 n2 dck2, vI i1, vI i2], vA [vS l2, vL a3 n3 dck3, vL a4 n4 dck4, vI i3, vI i4]] h Q = R73 l1 a1 n1 dck1 a2 n2 dck2 i1 i2 l2 a3 n3 dck3 a4 n4 dck4 i3 i4 h Q) hR)
noncomputable def d74 : DCode := up ⟨[(19, .l [.str]), (23, .l [.str])], [], [(14, 15, [(13, qi)], [])]⟩ (low Tryz.prog (fun _ => false) (Tryz.f74.body.getD .skip))
theorem low74 : low Tryz.prog (fun _ => false) (Tryz.f74.body.getD .skip) = some (eC d74) := by kernel_rfl
def R74 (a1 : OA) (n1 : Nat) (dck1 : Nat) (a2 : OA) (n2 : Nat) (dck2 : Nat) (h : PHeap) (Q : Value → PHeap → Prop) : Prop :=
 br (((n1 : Nat) : Int) != ((n2 : Nat) : Int))
 (Q (vB false) h)
 (∃ (I_1 : Nat → Int → PHeap → Prop), (∃ (m2 : Nat), I_1 m2 (0 : Int) h) ∧
 ∀ (m1 : Nat) (i1 : Int) (h_1 : PHeap), I_1 m1 i1 h_1 →
 br (decide (i1 < ((n1 : Nat) : Int)))
 (∃ (b1 o1 : Nat), a1 = some ⟨b1, o1, none⟩ ∧ (0 ≤ i1 ∧ i1 < n1) ∧
 ∃ (l1 : Bs), h_1.cell b1 (o1 + (i1).toNat * 1) = some (vS l1) ∧
 ∃ (b2 o2 : Nat), a2 = some ⟨b2, o2, none⟩ ∧ (0 ≤ i1 ∧ i1 < n2) ∧
 ∃ (l2 : Bs), h_1.cell b2 (o2 + (i1).toNat * 1) = some (vS l2) ∧
 br (!(l1 == l2))
 (Q (vB false) h_1)
 (∃ (m3 : Nat), m3 < m1 ∧ I_1 m3 (IntKind.i64.wrap (i1 + 1)) h_1 ∧
 True))
 (Q (vB true) h_1))
theorem T74 {a1 : OA} {n1 : Nat} {dck1 : Nat} {a2 : OA} {n2 : Nat} {dck2 : Nat} {h : PHeap} {Q : Value → PHeap → Prop} (hR : R74 a1 n1 dck1 a2 n2 dck2 h Q) : Tri Tryz.prog 74 [vL a1 n1 dck1, vL a2 n2 dck2] h Q :=
 tri_of_dn mixed Tryz.func74 rfl (by kernel_rfl) low74 (rs := [.tmp 4]) (by kernel_rfl) rfl (Eq.mpr (by kernel_rfl : dnF Tryz.prog Tryz.f74.ntmps d74 [.tmp 4] [vL a1 n1 dck1, vL a2 n2 dck2] h Q = R74 a1 n1 dck1 a2 n2 dck2 h Q) hR)
noncomputable def d75 : DCode := up ⟨[(21, .l dck1), (25, .l dck1), (27, .l dck1), (28, .l dck1), (29, .c (.one false [.bool]))], [], [(18, 19, [(17, qi)], [])]⟩ (low Tryz.prog (fun _ => false) (Tryz.f75.body.getD .skip))
theorem low75 : low Tryz.prog (fun _ => false) (Tryz.f75.body.getD .skip) = some (eC d75) := by kernel_rfl
def R75 (a1 : OA) (n1 : Nat) (dck1 : Nat) (a2 : OA) (n2 : Nat) (dck2 : Nat) (f1 : Nat) (x1 : List Value) (y1 : List Value) (h : PHeap) (Q : Value → PHeap → Prop) : Prop :=
 br (((n1 : Nat) : Int) != ((n2 : Nat) : Int))
 (Q (vB false) h)
 (∃ (I_1 : Nat → Int → PHeap → Prop), (∃ (m2 : Nat), I_1 m2 (0 : Int) h) ∧
 ∀ (m1 : Nat) (i1 : Int) (h_1 : PHeap), I_1 m1 i1 h_1 →
 br (decide (i1 < ((n1 : Nat) : Int)))
 (∃ (b1 o1 : Nat), a1 = some ⟨b1, o1, none⟩ ∧ (0 ≤ i1 ∧ i1 < n1) ∧
 ∃ (i2 : Int) (l1 : Bs) (a3 : OA) (n3 dck3 : Nat) (a4 : OA) (n4 dck4 : Nat) (a5 : OA) (n5 dck5 : Nat) (i3 i4 : Int), h_1.row b1 (o1 + (i1).toNat * 7) [vI i2, vS l1, vL a3 n3 dck3, vL a4 n4 dck4, vL a5 n5 dck5, vI i3, vI i4] ∧
 ∃ (b2 o2 : Nat), a2 = some ⟨b2, o2, none⟩ ∧ (0 ≤ i1 ∧ i1 < n2) ∧
 ∃ (i5 : Int) (l2 : Bs) (a6 : OA) (n6 dck6 : Nat) (a7 : OA) (n7 dck7 : Nat) (a8 : OA) (n8 dck8 : Nat) (i6 i7 : Int), h_1.row b2 (o2 + (i1).toNat * 7) [vI i5, vS l2, vL a6 n6 dck6, vL a7 n7 dck7, vL a8 n8 dck8, vI i6, vI i7] ∧
 Tri Tryz.prog f1 (x1 ++ [vA [vI i2, vS l1, vL a3 n3 dck3, vL a4 n4 dck4, vL a5 n5 dck5, vI i3, vI i4], vA [vI i5, vS l2, vL a6 n6 dck6, vL a7 n7 dck7, vL a8 n8 dck8, vI i6, vI i7]] ++ y1) h_1 fun v_1 h_2 =>
 ∃ (c1 : Bool), v_1 = vB c1 ∧
 br (!c1)
 (Q (vB false) h_2)
 (∃ (m3 : Nat), m3 < m1 ∧ I_1 m3 (IntKind.i64.wrap (i1 + 1)) h_2 ∧
 True))
 (Q (vB true) h_1))
theorem T75 {a1 : OA} {n1 : Nat} {dck1 : Nat} {a2 : OA} {n2 : Nat} {dck2 : Nat} {f1 : Nat} {x1 : List Value} {y1 : List Value} {h : PHeap} {Q : Value → PHeap → Prop} (hR : R75 a1 n1 dck1 a2 n2 dck2 f1 x1 y1 h Q) : Tri Tryz.prog 75 [vL a1 n1 dck1, vL a2 n2 dck2, vF f1 x1 y1] h Q :=
 tri_of_dn mixed Tryz.func75 rfl (by kernel_rfl) low75 (rs := [.tmp 6]) (by kernel_rfl) rfl (Eq.mpr (by kernel_rfl : dnF Tryz.prog Tryz.f75.ntmps d75 [.tmp 6] [vL a1 n1 dck1, vL a2 n2 dck2, vF f1 x1 y1] h Q = R75 a1 n1 dck1 a2 n2 dck2 f1 x1 y1 h Q) hR)
noncomputable def d76 : DCode := up ⟨[(6, .l [qi]), (8, .l [qi]), (12, .l [.str]), (14, .l [.str]), (19, .l [.slice]), (21, .l [.slice]), (22, .c (.one false [.bool])), (26, .l [.slice]), (28, .l [.slice]), (29, .c (.one false [.bool])), (33, .l [.slice]), (35, .l [.slice]), (36, .c (.one false [.bool]))], [], []⟩ (low Tryz.prog (fun _ => false) (Tryz.f76.body.getD .skip))
theorem low76 : low Tryz.prog (fun _ => false) (Tryz.f76.body.getD .skip) = some (eC d76) := by kernel_rfl
def R76 (i1 : Int) (l1 : Bs) (a1 : OA) (n1 : Nat) (dck1 : Nat) (a2 : OA) (n2 : Nat) (dck2 : Nat) (a3 : OA) (n3 : Nat) (dck3 : Nat) (i2 : Int) (i3 : Int) (i4 : Int) (l2 : Bs) (a4 : OA) (n4 : Nat) (dck4 : Nat) (a5 : OA) (n5 : Nat) (dck5 : Nat) (a6 : OA) (n6 : Nat) (dck6 : Nat) (i5 : Int) (i6 : Int) (h : PHeap) (Q : Value → PHeap → Prop) : Prop :=
 br (i1 == i4)
 (br (l1 == l2)
 (Tri Tryz.prog 121 [vL a1 n1 dck1, vL a4 n4 dck4, vF 122 [] []] h fun v_1 h_1 =>
 ∃ (c1 : Bool), v_1 = vB c1 ∧
 br c1
 (Tri Tryz.prog 75 [vL a2 n2 dck2, vL a5 n5 dck5, vF 76 [] []] h_1 fun v_2 h_2 =>
 ∃ (c2 : Bool), v_2 = vB c2 ∧
 br c2
 (Tri Tryz.prog 75 [vL a3 n3 dck3, vL a6 n6 dck6, vF 76 [] []] h_2 fun v_3 h_3 =>
 ∃ (c3 : Bool), v_3 = vB c3 ∧
 Q (vB c3) h_3)
 (Q (vB false) h_2))
 (Q (vB false) h_1))
 (Q (vB false) h))
 (Q (vB false) h)
theorem T76 {i1 : Int} {l1 : Bs} {a1 : OA} {n1 : Nat} {dck1 : Nat} {a2 : OA} {n2 : Nat} {dck2 : Nat} {a3 : OA} {n3 : Nat} {dck3 : Nat} {i2 : Int} {i3 : Int} {i4 : Int} {l2 : Bs} {a4 : OA} {n4 : Nat} {dck4 : Nat} {a5 : OA} {n5 : Nat} {dck5 : Nat} {a6 : OA} {n6 : Nat} {dck6 : Nat} {i5 : Int} {i6 : Int} {h : PHeap} {Q : Value → PHeap → Prop} (hR : R76 i1 l1 a1 n1 dck1 a2 n2 dck2 a3 n3 dck3 i2 i3 i4 l2 a4 n4 dck4 a5 n5 dck5 a6 n6 dck6 i5 i6 h Q) : Tri Tryz.prog 76 [vA [vI i1, vS l1, vL a1 n1 dck1, vL a2 n2 dck2, vL a3 n3 dck3, vI i2, vI i3], vA [vI i4, vS l2, vL a4 n4 dck4, vL a5 n5 dck5, vL a6 n6 dck6, vI i5, vI i6]] h Q :=
 tri_of_dn mixed Tryz.func76 rfl (by kernel_rfl) low76 (rs := [.tmp 4]) (by kernel_rfl) rfl (Eq.mpr (by kernel_rfl : dnF Tryz.prog Tryz.f76.ntmps d76 [.tmp 4] [vA [vI i1, vS l1, vL a1 n1 dck1, vL a2 n2 dck2, vL a3 n3 dck3, vI i2, vI i3], vA [vI i4, vS l2, vL a4 n4 dck4, vL a5 n5 dck5, vL a6 n6 dck6, vI i5, vI i6]] h Q = R76 i1 l1 a1 n1 dck1 a2 n2 dck2 a3 n3 dck3 i2 i3 i4 l2 a4 n4 dck4 a5 n5 dck5 a6 n6 dck6 i5 i6 h Q) hR)
noncomputable def d77 : DCode := up ⟨[(21, .l dck2), (25, .l dck2), (27, .l dck2), (28, .l dck2), (29, .c (.one false [.bool]))], [], [(18, 19, [(17, qi)], [])]⟩ (low Tryz.prog (fun _ => false) (Tryz.f77.body.getD .skip))
theorem low77 : low Tryz.prog (fun _ => false) (Tryz.f77.body.getD .skip) = some (eC d77) := by kernel_rfl
def R77 (a1 : OA) (n1 : Nat) (dck1 : Nat) (a2 : OA) (n2 : Nat) (dck2 : Nat) (f1 : Nat) (x1 : List Value) (y1 : List Value) (h : PHeap) (Q : Value → PHeap → Prop) : Prop :=
 br (((n1 : Nat) : Int) != ((n2 : Nat) : Int))
 (Q (vB false) h)
 (∃ (I_1 : Nat → Int → PHeap → Prop), (∃ (m2 : Nat), I_1 m2 (0 : Int) h) ∧
 ∀ (m1 : Nat) (i1 : Int) (h_1 : PHeap), I_1 m1 i1 h_1 →
 br (decide (i1 < ((n1 : Nat) : Int)))
 (∃ (b1 o1 : Nat), a1 = some ⟨b1, o1, none⟩ ∧ (0 ≤ i1 ∧ i1 < n1) ∧
 ∃ (l1 : Bs) (i2 i3 i4 i5 : Int), h_1.row b1 (o1 + (i1).toNat * 5) [vS l1, vI i2, vI i3, vI i4, vI i5] ∧
 ∃ (b2 o2 : Nat), a2 = some ⟨b2, o2, none⟩ ∧ (0 ≤ i1 ∧ i1 < n2) ∧
 ∃ (l2 : Bs) (i6 i7 i8 i9 : Int), h_1.row b2 (o2 + (i1).toNat * 5) [vS l2, vI i6, vI i7, vI i8, vI i9] ∧
 Tri Tryz.prog f1 (x1 ++ [vA [vS l1, vI i2, vI i3, vI i4, vI i5], vA [vS l2, vI i6, vI i7, vI i8, vI i9]] ++ y1) h_1 fun v_1 h_2 =>
 ∃ (c1 : Bool), v_1 = vB c1 ∧
 br (!c1)
 (Q (vB false) h_2)
 (∃ (m3 : Nat), m3 < m1 ∧ I_1 m3 (IntKind.i64.wrap (i1 + 1)) h_2 ∧
 True))
 (Q (vB true) h_1))
theorem T77 {a1 : OA} {n1 : Nat} {dck1 : Nat} {a2 : OA} {n2 : Nat} {dck2 : Nat} {f1 : Nat} {x1 : List Value} {y1 : List Value} {h : PHeap} {Q : Value → PHeap → Prop} (hR : R77 a1 n1 dck1 a2 n2 dck2 f1 x1 y1 h Q) : Tri Tryz.prog 77 [vL a1 n1 dck1, vL a2 n2 dck2, vF f1 x1 y1] h Q :=
 tri_of_dn mixed Tryz.func77 rfl (by kernel_rfl) low77 (rs := [.tmp 6]) (by kernel_rfl) rfl (Eq.mpr (by kernel_rfl : dnF Tryz.prog Tryz.f77.ntmps d77 [.tmp 6] [vL a1 n1 dck1, vL a2 n2 dck2, vF f1 x1 y1] h Q = R77 a1 n1 dck1 a2 n2 dck2 f1 x1 y1 h Q) hR)
noncomputable def d78 : DCode := up ⟨[(21, .l dck3), (25, .l dck3), (27, .l dck3), (28, .l dck3), (29, .c (.one false [.bool]))], [], [(18, 19, [(17, qi)], [])]⟩ (low Tryz.prog (fun _ => false) (Tryz.f78.body.getD .skip))
theorem low78 : low Tryz.prog (fun _ => false) (Tryz.f78.body.getD .skip) = some (eC d78) := by kernel_rfl
def R78 (a1 : OA) (n1 : Nat) (dck1 : Nat) (a2 : OA) (n2 : Nat) (dck2 : Nat) (f1 : Nat) (x1 : List Value) (y1 : List Value) (h : PHeap) (Q : Value → PHeap → Prop) : Prop :=
 br (((n1 : Nat) : Int) != ((n2 : Nat) : Int))
 (Q (vB false) h)
 (∃ (I_1 : Nat → Int → PHeap → Prop), (∃ (m2 : Nat), I_1 m2 (0 : Int) h) ∧
 ∀ (m1 : Nat) (i1 : Int) (h_1 : PHeap), I_1 m1 i1 h_1 →
 br (decide (i1 < ((n1 : Nat) : Int)))
 (∃ (b1 o1 : Nat), a1 = some ⟨b1, o1, none⟩ ∧ (0 ≤ i1 ∧ i1 < n1) ∧
 ∃ (l1 : Bs) (a3 : OA) (n3 dck3 : Nat) (a4 : OA) (n4 dck4 : Nat) (i2 i3 : Int), h_1.row b1 (o1 + (i1).toNat * 5) [vS l1, vL a3 n3 dck3, vL a4 n4 dck4, vI i2, vI i3] ∧
 ∃ (b2 o2 : Nat), a2 = some ⟨b2, o2, none⟩ ∧ (0 ≤ i1 ∧ i1 < n2) ∧
 ∃ (l2 : Bs) (a5 : OA) (n5 dck5 : Nat) (a6 : OA) (n6 dck6 : Nat) (i4 i5 : Int), h_1.row b2 (o2 + (i1).toNat * 5) [vS l2, vL a5 n5 dck5, vL a6 n6 dck6, vI i4, vI i5] ∧
 Tri Tryz.prog f1 (x1 ++ [vA [vS l1, vL a3 n3 dck3, vL a4 n4 dck4, vI i2, vI i3], vA [vS l2, vL a5 n5 dck5, vL a6 n6 dck6, vI i4, vI i5]] ++ y1) h_1 fun v_1 h_2 =>
 ∃ (c1 : Bool), v_1 = vB c1 ∧
 br (!c1)
 (Q (vB false) h_2)
 (∃ (m3 : Nat), m3 < m1 ∧ I_1 m3 (IntKind.i64.wrap (i1 + 1)) h_2 ∧
 True))
 (Q (vB true) h_1))
theorem T78 {a1 : OA} {n1 : Nat} {dck1 : Nat} {a2 : OA} {n2 : Nat} {dck2 : Nat} {f1 : Nat} {x1 : List Value} {y1 : List Value} {h : PHeap} {Q : Value → PHeap → Prop} (hR : R78 a1 n1 dck1 a2 n2 dck2 f1 x1 y1 h Q) : Tri Tryz.prog 78 [vL a1 n1 dck1, vL a2 n2 dck2, vF f1 x1 y1] h Q :=
 tri_of_dn mixed Tryz.func78 rfl (by kernel_rfl) low78 (rs := [.tmp 6]) (by kernel_rfl) rfl (Eq.mpr (by kernel_rfl : dnF Tryz.prog Tryz.f78.ntmps d78 [.tmp 6] [vL a1 n1 dck1, vL a2 n2 dck2, vF f1 x1 y1] h Q = R78 a1 n1 dck1 a2 n2 dck2 f1 x1 y1 h Q) hR)
noncomputable def d121 : DCode := up ⟨[(21, .l dck4), (25, .l dck4), (27, .l dck4), (28, .l dck4), (29, .c (.one false [.bool]))], [], [(18, 19, [(17, qi)], [])]⟩ (low Tryz.prog (fun _ => false) (Tryz.f121.body.getD .skip))
theorem low121 : low Tryz.prog (fun _ => false) (Tryz.f121.body.getD .skip) = some (eC d121) := by kernel_rfl
def R121 (a1 : OA) (n1 : Nat) (dck1 : Nat) (a2 : OA) (n2 : Nat) (dck2 : Nat) (f1 : Nat) (x1 : List Value) (y1 : List Value) (h : PHeap) (Q : Value → PHeap → Prop) : Prop :=
 br (((n1 : Nat) : Int) != ((n2 : Nat) : Int))
 (Q (vB false) h)
 (∃ (I_1 : Nat → Int → PHeap → Prop), (∃ (m2 : Nat), I_1 m2 (0 : Int) h) ∧
 ∀ (m1 : Nat) (i1 : Int) (h_1 : PHeap), I_1 m1 i1 h_1 →
 br (decide (i1 < ((n1 : Nat) : Int)))
 (∃ (b1 o1 : Nat), a1 = some ⟨b1, o1, none⟩ ∧ (0 ≤ i1 ∧ i1 < n1) ∧
 ∃ (i2 : Int) (l1 l2 : Bs) (i3 : Int) (l3 : Bs) (a3 : OA) (n3 dck3 : Nat) (i4 i5 : Int), h_1.row b1 (o1 + (i1).toNat * 8) [vI i2, vS l1, vS l2, vI i3, vS l3, vL a3 n3 dck3, vI i4, vI i5] ∧
 ∃ (b2 o2 : Nat), a2 = some ⟨b2, o2, none⟩ ∧ (0 ≤ i1 ∧ i1 < n2) ∧
 ∃ (i6 : Int) (l4 l5 : Bs) (i7 : Int) (l6 : Bs) (a4 : OA) (n4 dck4 : Nat) (i8 i9 : Int), h_1.row b2 (o2 + (i1).toNat * 8) [vI i6, vS l4, vS l5, vI i7, vS l6, vL a4 n4 dck4, vI i8, vI i9] ∧
 Tri Tryz.prog f1 (x1 ++ [vA [vI i2, vS l1, vS l2, vI i3, vS l3, vL a3 n3 dck3, vI i4, vI i5], vA [vI i6, vS l4, vS l5, vI i7, vS l6, vL a4 n4 dck4, vI i8, vI i9]] ++ y1) h_1 fun v_1 h_2 =>
 ∃ (c1 : Bool), v_1 = vB c1 ∧
 br (!c1)
 (Q (vB false) h_2)
 (∃ (m3 : Nat), m3 < m1 ∧ I_1 m3 (IntKind.i64.wrap (i1 + 1)) h_2 ∧
 True))
 (Q (vB true) h_1))
theorem T121 {a1 : OA} {n1 : Nat} {dck1 : Nat} {a2 : OA} {n2 : Nat} {dck2 : Nat} {f1 : Nat} {x1 : List Value} {y1 : List Value} {h : PHeap} {Q : Value → PHeap → Prop} (hR : R121 a1 n1 dck1 a2 n2 dck2 f1 x1 y1 h Q) : Tri Tryz.prog 121 [vL a1 n1 dck1, vL a2 n2 dck2, vF f1 x1 y1] h Q :=
 tri_of_dn mixed Tryz.func121 rfl (by kernel_rfl) low121 (rs := [.tmp 6]) (by kernel_rfl) rfl (Eq.mpr (by kernel_rfl : dnF Tryz.prog Tryz.f121.ntmps d121 [.tmp 6] [vL a1 n1 dck1, vL a2 n2 dck2, vF f1 x1 y1] h Q = R121 a1 n1 dck1 a2 n2 dck2 f1 x1 y1 h Q) hR)
noncomputable def d122 : DCode := up ⟨[(6, .l [qi]), (8, .l [qi]), (12, .l [.str]), (14, .l [.str]), (19, .l [.str]), (21, .l [.str]), (26, .l [qi]), (28, .l [qi]), (33, .l [.str]), (35, .l [.str]), (40, .l [.slice]), (42, .l [.slice]), (43, .c (.one false [.bool]))], [], []⟩ (low Tryz.prog (fun _ => false) (Tryz.f122.body.getD .skip))
theorem low122 : low Tryz.prog (fun _ => false) (Tryz.f122.body.getD .skip) = some (eC d122) := by kernel_rfl
def R122 (i1 : Int) (l1 : Bs) (l2 : Bs) (i2 : Int) (l3 : Bs) (a1 : OA) (n1 : Nat) (dck1 : Nat) (i3 : Int) (i4 : Int) (i5 : Int) (l4 : Bs) (l5 : Bs) (i6 : Int) (l6 : Bs) (a2 : OA) (n2 : Nat) (dck2 : Nat) (i7 : Int) (i8 : Int) (h : PHeap) (Q : Value → PHeap → Prop) : Prop :=
 br (i1 == i5)
 (br (l1 == l4)
 (br (l2 == l5)
 (br (i2 == i6)
 (br (l3 == l6)
 (Tri Tryz.prog 121 [vL a1 n1 dck1, vL a2 n2 dck2, vF 122 [] []] h fun v_1 h_1 =>
 ∃ (c1 : Bool), v_1 = vB c1 ∧
 Q (vB c1) h_1)
 (Q (vB false) h))
 (Q (vB false) h))
 (Q (vB false) h))
 (Q (vB false) h))
 (Q (vB false) h)
theorem T122 {i1 : Int} {l1 : Bs} {l2 : Bs} {i2 : Int} {l3 : Bs} {a1 : OA} {n1 : Nat} {dck1 : Nat} {i3 : Int} {i4 : Int} {i5 : Int} {l4 : Bs} {l5 : Bs} {i6 : Int} {l6 : Bs} {a2 : OA} {n2 : Nat} {dck2 : Nat} {i7 : Int} {i8 : Int} {h : PHeap} {Q : Value → PHeap → Prop} (hR : R122 i1 l1 l2 i2 l3 a1 n1 dck1 i3 i4 i5 l4 l5 i6 l6 a2 n2 dck2 i7 i8 h Q) : Tri Tryz.prog 122 [vA [vI i1, vS l1, vS l2, vI i2, vS l3, vL a1 n1 dck1, vI i3, vI i4], vA [vI i5, vS l4, vS l5, vI i6, vS l6, vL a2 n2 dck2, vI i7, vI i8]] h Q :=
 tri_of_dn mixed Tryz.func122 rfl (by kernel_rfl) low122 (rs := [.tmp 4]) (by kernel_rfl) rfl (Eq.mpr (by kernel_rfl : dnF Tryz.prog Tryz.f122.ntmps d122 [.tmp 4] [vA [vI i1, vS l1, vS l2, vI i2, vS l3, vL a1 n1 dck1, vI i3, vI i4], vA [vI i5, vS l4, vS l5, vI i6, vS l6, vL a2 n2 dck2, vI i7, vI i8]] h Q = R122 i1 l1 l2 i2 l3 a1 n1 dck1 i3 i4 i5 l4 l5 i6 l6 a2 n2 dck2 i7 i8 h Q) hR)
end Go.Proofs.D
namespace Go.Proofs.D
open Go Go.Den Go.Sx
set_option maxRecDepth 100000
attribute [local irreducible] IntKind.wrap Tri parseS
theorem br_and {a r res : Bool} {X Y : Prop} (hres : (a && r) = res) (hf : res = false → X) (ht : a = true → r = res → Y) : br (!a) X Y := by
 cases a with
 | false => exact hf hres.symm
 | true => exact ht rfl hres
theorem br_and2 {a r res : Bool} {X Y : Prop} (hres : (a && r) = res) (hf : res = false → X) (ht : a = true → r = res → Y) : br a Y X := by
 cases a with
 | false => exact hf hres.symm
 | true => exact ht rfl hres
theorem int_beq (a b : Nat) : (((a : Nat) : Int) == ((b : Nat) : Int)) = (a == b) := by rw [Bool.eq_iff_iff, beq_iff_eq, beq_iff_eq]; omega
theorem int_bne (a b : Nat) : (((a : Nat) : Int) != ((b : Nat) : Int)) = !(a == b) := by rw [bne, int_beq]
theorem eqE_c {k k' v v' p p' : Nat} {o o' n n' t t' : Bytes} {a a' : List E} (r : Bool) : (eqE (.mk k o n v t a p) (.mk k' o' n' v' t' a' p') && r) = (k == k' && (o == o' && (n == n' && (v == v' && (t == t' && (eqEs a a' && r)))))) := by simp [eqE, Bool.and_assoc]
theorem eqS_c {k k' p p' : Nat} {n n' : Bytes} {a a' : List E} {b b' e e' : List S} (r : Bool) : (eqS (.mk k n a b e p) (.mk k' n' a' b' e' p') && r) = (k == k' && (n == n' && (eqEs a a' && (eqSs b b' && (eqSs e e' && r))))) := by simp [eqS, Bool.and_assoc]
theorem eqG_c {g g' : G} (r : Bool) : (eqG g g' && r) = (g.name == g'.name && (g.size == g'.size && (g.value == g'.value && r))) := by simp [eqG, Bool.and_assoc]
theorem beqL_len {l m : List Bytes} (h : l.length ≠ m.length) : (l == m) = false := by
 rw [beq_eq_false_iff_ne]; intro e; exact h (by rw [e])
theorem beqL_drop {l m : List Bytes} {j : Nat} (hl : j < l.length) (hm : j < m.length) : (l.drop j == m.drop j) = (l[j] == m[j] && (l.drop (j + 1) == m.drop (j + 1))) := by
 rw [List.drop_eq_getElem_cons hl, List.drop_eq_getElem_cons hm]; rfl
section
variable {s : Bytes} {h : PHeap}
def sa : S → List E | .mk _ _ a _ _ _ => a
def sb : S → List S | .mk _ _ _ b _ _ => b
theorem eqF_c {g g' : F} (r : Bool) : (eqF g g' && r) = (g.name == g'.name && (g.params == g'.params && (eqSs g.body g'.body && r))) := by simp [eqF, Bool.and_assoc]
theorem eqL_nil {α : Type} {q : α → α → Bool} {l m : List α} {j : Nat} (h : l.length ≤ j) (h' : m.length ≤ j) : eqL q (l.drop j) (m.drop j) = true := by
 rw [List.drop_eq_nil_of_le h, List.drop_eq_nil_of_le h']; rfl
end
end Go.Proofs.D
namespace Go.Proofs.D
open Go Go.Den
set_option maxRecDepth 100000
set_option maxHeartbeats 4000000
abbrev dyk1 : List CK := [qi, .str, .str, qi, .str, .slice, qi, qi]
abbrev dyk2 : List CK := [.str, qi, qi, qi, qi]
abbrev dyk3 : List CK := [.str, .slice, .slice, qi, qi]
abbrev dyk4 : List CK := [qi, .str, .slice, .slice, .slice, qi, qi]
noncomputable def d16 : DCode := up ⟨[(9, .c (.tup [(true, [.slice, .slice]), (false, [qi]), (false, [qi]), (false, [qi])])), (18, .l [.slice]), (24, .l [.slice]), (27, .l [.slice]), (33, .l [.slice]), (36, .l [.slice]), (39, .l [.slice]), (44, .l [.slice, .slice]), (45, .c (.tup [(false, [qi]), (false, [qi]), (false, [qi])])), (50, .l [.slice]), (53, .l [.slice]), (56, .l [.slice]), (58, .l dyk1), (59, .c (.one false [.str]))], [], []⟩ (low Tryz.prog (fun _ => false) (Tryz.f16.body.getD .skip))
theorem low16 : low Tryz.prog (fun _ => false) (Tryz.f16.body.getD .skip) = some (eC d16) := by kernel_rfl
def R16 (h : PHeap) (Q : Value → PHeap → Prop) : Prop :=
 Tri Tryz.prog 14 [vS [102, 117, 110, 99, 32, 109, 97, 105, 110, 40, 41, 32, 123, 32, 120, 32, 61, 32, 97, 32, 45, 32, 40, 98, 32, 45, 32, 99, 41, 32, 42, 32, 40, 50, 41, 59, 32, 125]] h fun v_1 h_1 =>
 ∃ (a1 : OA) (n1 dyk1 : Nat) (a2 : OA) (n2 dyk2 : Nat) (i1 i2 i3 : Int), v_1 = vT [vA [vL a1 n1 dyk1, vL a2 n2 dyk2], vI i1, vI i2, vI i3] ∧
 br (i3 != 0)
 (Q (vB false) h_1)
 (br (((n2 : Nat) : Int) != 1)
 (Q (vB false) h_1)
 (∃ (b1 o1 : Nat), a2 = some ⟨b1, o1, none⟩ ∧ (0 ≤ (0 : Int) ∧ (0 : Int) < n2) ∧
 ∃ (a3 : OA) (n3 dyk3 : Nat), h_1.cell b1 (o1 + 2) = some (vL a3 n3 dyk3) ∧
 br (((n3 : Nat) : Int) != 1)
 (Q (vB false) h_1)
 (∃ (b2 o2 : Nat), a2 = some ⟨b2, o2, none⟩ ∧ (0 ≤ (0 : Int) ∧ (0 : Int) < n2) ∧
 ∃ (a4 : OA) (n4 dyk4 : Nat), h_1.cell b2 (o2 + 2) = some (vL a4 n4 dyk4) ∧
 ∃ (b3 o3 : Nat), a4 = some ⟨b3, o3, none⟩ ∧ (0 ≤ (0 : Int) ∧ (0 : Int) < n4) ∧
 ∃ (a5 : OA) (n5 k5 : Nat), h_1.cell b3 (o3 + 2) = some (vL a5 n5 k5) ∧
 br (((n5 : Nat) : Int) != 1)
 (Q (vB false) h_1)
 (Tri Tryz.prog 19 [vA [vL a1 n1 dyk1, vL a2 n2 dyk2]] h_1 fun v_2 h_2 =>
 ∃ (i4 i5 i6 : Int), v_2 = vT [vI i4, vI i5, vI i6] ∧
 ∃ (b4 o4 : Nat), a2 = some ⟨b4, o4, none⟩ ∧ (0 ≤ (0 : Int) ∧ (0 : Int) < n2) ∧
 ∃ (a6 : OA) (n6 k6 : Nat), h_2.cell b4 (o4 + 2) = some (vL a6 n6 k6) ∧
 ∃ (b5 o5 : Nat), a6 = some ⟨b5, o5, none⟩ ∧ (0 ≤ (0 : Int) ∧ (0 : Int) < n6) ∧
 ∃ (a7 : OA) (n7 k7 : Nat), h_2.cell b5 (o5 + 2) = some (vL a7 n7 k7) ∧
 ∃ (b6 o6 : Nat), a7 = some ⟨b6, o6, none⟩ ∧ (0 ≤ (0 : Int) ∧ (0 : Int) < n7) ∧
 ∃ (i7 : Int) (l1 l2 : Bs) (i8 : Int) (l3 : Bs) (a8 : OA) (n8 k8 : Nat) (i9 i10 : Int), h_2.row b6 o6 [vI i7, vS l1, vS l2, vI i8, vS l3, vL a8 n8 k8, vI i9, vI i10] ∧
 Tri Tryz.prog 22 [vA [vI i7, vS l1, vS l2, vI i8, vS l3, vL a8 n8 k8, vI i9, vI i10]] h_2 fun v_3 h_3 =>
 ∃ (l4 : Bs), v_3 = vS l4 ∧
 br (l4 == [97, 32, 45, 32, 40, 98, 32, 45, 32, 99, 41, 32, 42, 32, 50])
 (Q (vB (i6 == 37)) h_3)
 (Q (vB false) h_3)))))
theorem T16 {h : PHeap} {Q : Value → PHeap → Prop} (hR : R16  h Q) : Tri Tryz.prog 16 [] h Q :=
 tri_of_dn mixed Tryz.func16 rfl (by kernel_rfl) low16 (rs := [.tmp 0]) (by kernel_rfl) rfl (Eq.mpr (by kernel_rfl : dnF Tryz.prog Tryz.f16.ntmps d16 [.tmp 0] [] h Q = R16  h Q) hR)
abbrev o19_1 : Op := .makeMap 111 none
abbrev o19_2 : Op := .makeMap 112 none
abbrev o19_7 : Op := .lookup 112 (.tmp 51) (.const (vS [109, 97, 105, 110])) true
noncomputable def d19 : DCode := up ⟨[(14, .l [.slice, .slice]), (15, .c (.one false [.bool])), (17, .c (.one false [.map])), (18, .c (.one false [.map])), (22, .l [.slice]), (28, .l dyk2), (31, .l dyk2), (32, .c (.tup [])), (35, .l [.slice]), (41, .l dyk3), (44, .l dyk3), (45, .c (.tup [])), (51, .l [.map]), (52, .c (.tup [(false, [qi]), (false, [.bool])])), (62, .c (.tup [])), (64, .l [.slice]), (69, .l dyk3), (72, .l [.slice]), (73, .c (.one false [.slice])), (78, .l [.slice]), (84, .l [.slice]), (85, .c (.tup [])), (90, .l [qi]), (94, .l [qi]), (98, .l [qi])], [75, 81], [(25, 12, [(24, qi)], []), (38, 12, [(37, qi)], []), (67, 22, [(66, qi)], [])]⟩ (low Tryz.prog (fun d => Nat.beq d 20) (Tryz.f19.body.getD .skip))
theorem low19 : low Tryz.prog (fun d => Nat.beq d 20) (Tryz.f19.body.getD .skip) = some (eC d19) := by kernel_rfl
def R19 (a1 : OA) (n1 : Nat) (dyk1 : Nat) (a2 : OA) (n2 : Nat) (dyk2 : Nat) (h : PHeap) (Q : Value → PHeap → Prop) : Prop :=
 Tri Tryz.prog 56 [vA [vL a1 n1 dyk1, vL a2 n2 dyk2]] h fun v_1 h_1 =>
 ∃ (c1 : Bool), v_1 = vB c1 ∧
 br (!c1)
 (Q (vT [vI 0, vI 0, vI 30]) h_1)
 (Raw Tryz.prog (execOp (rho []) (mkO o19_1 111)) h_1 fun v_2 h_2 =>
 ∃ (m1 : Nat), v_2 = vM m1 ∧
 Raw Tryz.prog (execOp (rho []) (mkO o19_2 112)) h_2 fun v_3 h_3 =>
 ∃ (m2 : Nat), v_3 = vM m2 ∧
 ∀ (b1 : Nat), h_3 b1 = none → ∀ (h_4 : PHeap), h_4 = h_3.put b1 (.cells ⟨[vM m1, vM m2, vL none 0 0, vI 0, vI 0, vI 0, vI 0]⟩ 114) →
 ∃ (I_1 : Nat → Int → PHeap → Prop), (∃ (m4 : Nat), I_1 m4 (0 : Int) h_4) ∧
 ∀ (m3 : Nat) (i1 : Int) (h_5 : PHeap), I_1 m3 i1 h_5 →
 br (decide (i1 < ((n1 : Nat) : Int)))
 (∃ (b2 o1 : Nat), a1 = some ⟨b2, o1, none⟩ ∧ (0 ≤ i1 ∧ i1 < n1) ∧
 ∃ (l1 : Bs) (i2 i3 i4 i5 : Int), h_5.row b2 (o1 + (i1).toNat * 5) [vS l1, vI i2, vI i3, vI i4, vI i5] ∧
 Tri Tryz.prog 57 [vP b1 0, vI i1, vA [vS l1, vI i2, vI i3, vI i4, vI i5]] h_5 fun v_4 h_6 =>
 v_4 = vT [] ∧
 ∃ (m5 : Nat), m5 < m3 ∧ I_1 m5 (IntKind.i64.wrap (i1 + 1)) h_6 ∧
 tv [vL a1 n1 dyk1, vL a2 n2 dyk2] ∧ True)
 (∃ (I_2 : Nat → Int → PHeap → Prop), (∃ (m7 : Nat), I_2 m7 (0 : Int) h_5) ∧
 ∀ (m6 : Nat) (i6 : Int) (h_7 : PHeap), I_2 m6 i6 h_7 →
 br (decide (i6 < ((n2 : Nat) : Int)))
 (∃ (b3 o2 : Nat), a2 = some ⟨b3, o2, none⟩ ∧ (0 ≤ i6 ∧ i6 < n2) ∧
 ∃ (l2 : Bs) (a3 : OA) (n3 dyk3 : Nat) (a4 : OA) (n4 dyk4 : Nat) (i7 i8 : Int), h_7.row b3 (o2 + (i6).toNat * 5) [vS l2, vL a3 n3 dyk3, vL a4 n4 dyk4, vI i7, vI i8] ∧
 Tri Tryz.prog 58 [vP b1 0, vI i6, vA [vS l2, vL a3 n3 dyk3, vL a4 n4 dyk4, vI i7, vI i8]] h_7 fun v_5 h_8 =>
 v_5 = vT [] ∧
 ∃ (m8 : Nat), m8 < m6 ∧ I_2 m8 (IntKind.i64.wrap (i6 + 1)) h_8 ∧
 tv [vL a1 n1 dyk1, vL a2 n2 dyk2] ∧ True)
 (∃ (m9 : Nat), h_7.cell b1 1 = some (vM m9) ∧
 Raw Tryz.prog (execOp (rho [(51, vM m9)]) (mkO o19_7 117)) h_7 fun v_6 h_9 =>
 ∃ (i9 : Int) (c2 : Bool), v_6 = vT [vI i9, vB c2] ∧
 br (!c2)
 (Tri Tryz.prog 59 [vP b1 0, vB true, vI 1, vI 1, vI 8] h_9 fun v_7 h_10 =>
 v_7 = vT [] ∧
 ∃ (I_3 : Nat → Int → PHeap → Prop), (∃ (m11 : Nat), I_3 m11 (0 : Int) h_10) ∧
 ∀ (m10 : Nat) (i10 : Int) (h_11 : PHeap), I_3 m10 i10 h_11 →
 br (decide (i10 < ((n2 : Nat) : Int)))
 (∃ (b4 o3 : Nat), a2 = some ⟨b4, o3, none⟩ ∧ (0 ≤ i10 ∧ i10 < n2) ∧
 ∃ (l3 : Bs) (a5 : OA) (n5 k5 : Nat) (a6 : OA) (n6 k6 : Nat) (i11 i12 : Int), h_11.row b4 (o3 + (i10).toNat * 5) [vS l3, vL a5 n5 k5, vL a6 n6 k6, vI i11, vI i12] ∧
 Tri Tryz.prog 60 [vL a5 n5 k5] h_11 fun v_8 h_12 =>
 ∃ (a7 : OA) (n7 k7 : Nat), v_8 = vL a7 n7 k7 ∧
 ∃ (l4 : List Value) (t1 : TypeId) (z1 : Nat × Nat), h_12 b1 = some (.cells ⟨l4⟩ t1 z1) ∧ (2 + 1 ≤ l4.length ∧ z1.2 ≤ 2) ∧
 ∀ (h_13 : PHeap), h_13 = h_12.put b1 (.cells ⟨splice l4 2 [vL a7 n7 k7]⟩ t1 z1) →
 ∃ (l5 : List Value) (t2 : TypeId) (z2 : Nat × Nat), h_13 b1 = some (.cells ⟨l5⟩ t2 z2) ∧ (3 + 1 ≤ l5.length ∧ z2.2 ≤ 3) ∧
 ∀ (h_14 : PHeap), h_14 = h_13.put b1 (.cells ⟨splice l5 3 [vI ((n5 : Nat) : Int)]⟩ t2 z2) →
 Tri Tryz.prog 61 [vP b1 0, vL a6 n6 k6, vB false] h_14 fun v_9 h_15 =>
 v_9 = vT [] ∧
 ∃ (m12 : Nat), m12 < m10 ∧ I_3 m12 (IntKind.i64.wrap (i10 + 1)) h_15 ∧
 tv [vL a1 n1 dyk1, vL a2 n2 dyk2] ∧ True)
 (∃ (i13 : Int), h_11.cell b1 4 = some (vI i13) ∧
 ∃ (i14 : Int), h_11.cell b1 5 = some (vI i14) ∧
 ∃ (i15 : Int), h_11.cell b1 6 = some (vI i15) ∧
 Q (vT [vI i13, vI i14, vI i15]) h_11))
 (Tri Tryz.prog 59 [vP b1 0, vB (i9 != 0), vI 1, vI 1, vI 8] h_9 fun v_10 h_16 =>
 v_10 = vT [] ∧
 ∃ (I_4 : Nat → Int → PHeap → Prop), (∃ (m14 : Nat), I_4 m14 (0 : Int) h_16) ∧
 ∀ (m13 : Nat) (i16 : Int) (h_17 : PHeap), I_4 m13 i16 h_17 →
 br (decide (i16 < ((n2 : Nat) : Int)))
 (∃ (b5 o4 : Nat), a2 = some ⟨b5, o4, none⟩ ∧ (0 ≤ i16 ∧ i16 < n2) ∧
 ∃ (l6 : Bs) (a8 : OA) (n8 k8 : Nat) (a9 : OA) (n9 k9 : Nat) (i17 i18 : Int), h_17.row b5 (o4 + (i16).toNat * 5) [vS l6, vL a8 n8 k8, vL a9 n9 k9, vI i17, vI i18] ∧
 Tri Tryz.prog 60 [vL a8 n8 k8] h_17 fun v_11 h_18 =>
 ∃ (a10 : OA) (n10 k10 : Nat), v_11 = vL a10 n10 k10 ∧
 ∃ (l7 : List Value) (t3 : TypeId) (z3 : Nat × Nat), h_18 b1 = some (.cells ⟨l7⟩ t3 z3) ∧ (2 + 1 ≤ l7.length ∧ z3.2 ≤ 2) ∧
 ∀ (h_19 : PHeap), h_19 = h_18.put b1 (.cells ⟨splice l7 2 [vL a10 n10 k10]⟩ t3 z3) →
 ∃ (l8 : List Value) (t4 : TypeId) (z4 : Nat × Nat), h_19 b1 = some (.cells ⟨l8⟩ t4 z4) ∧ (3 + 1 ≤ l8.length ∧ z4.2 ≤ 3) ∧
 ∀ (h_20 : PHeap), h_20 = h_19.put b1 (.cells ⟨splice l8 3 [vI ((n8 : Nat) : Int)]⟩ t4 z4) →
 Tri Tryz.prog 61 [vP b1 0, vL a9 n9 k9, vB false] h_20 fun v_12 h_21 =>
 v_12 = vT [] ∧
 ∃ (m15 : Nat), m15 < m13 ∧ I_4 m15 (IntKind.i64.wrap (i16 + 1)) h_21 ∧
 tv [vL a1 n1 dyk1, vL a2 n2 dyk2] ∧ True)
 (∃ (i19 : Int), h_17.cell b1 4 = some (vI i19) ∧
 ∃ (i20 : Int), h_17.cell b1 5 = some (vI i20) ∧
 ∃ (i21 : Int), h_17.cell b1 6 = some (vI i21) ∧
 Q (vT [vI i19, vI i20, vI i21]) h_17)))))
theorem T19 {a1 : OA} {n1 : Nat} {dyk1 : Nat} {a2 : OA} {n2 : Nat} {dyk2 : Nat} {h : PHeap} {Q : Value → PHeap → Prop} (hR : R19 a1 n1 dyk1 a2 n2 dyk2 h Q) : Tri Tryz.prog 19 [vA [vL a1 n1 dyk1, vL a2 n2 dyk2]] h Q :=
 tri_of_dn mixed Tryz.func19 rfl (by kernel_rfl) low19 (rs := [.tmp 2, .tmp 3, .tmp 4]) (by kernel_rfl) rfl (Eq.mpr (by kernel_rfl : dnF Tryz.prog Tryz.f19.ntmps d19 [.tmp 2, .tmp 3, .tmp 4] [vA [vL a1 n1 dyk1, vL a2 n2 dyk2]] h Q = R19 a1 n1 dyk1 a2 n2 dyk2 h Q) hR)
noncomputable def d24 : DCode := up ⟨[], [], []⟩ (low Tryz.prog (fun _ => false) (Tryz.f24.body.getD .skip))
theorem low24 : low Tryz.prog (fun _ => false) (Tryz.f24.body.getD .skip) = some (eC d24) := by kernel_rfl
def R24 (l1 : Bs) (h : PHeap) (Q : Value → PHeap → Prop) : Prop :=
 br (l1 == [112, 101, 101, 107])
 (Q (vT [vI 1, vI 1, vB true]) h)
 (br (l1 == [112, 111, 107, 101])
 (Q (vT [vI 2, vI 2, vB true]) h)
 (br (l1 == [107, 101, 114, 110, 101, 108])
 (Q (vT [vI 1, vI 5, vB true]) h)
 (Q (vT [vI 0, vI 0, vB false]) h)))
theorem T24 {l1 : Bs} {h : PHeap} {Q : Value → PHeap → Prop} (hR : R24 l1 h Q) : Tri Tryz.prog 24 [vS l1] h Q :=
 tri_of_dn mixed Tryz.func24 rfl (by kernel_rfl) low24 (rs := [.tmp 2, .tmp 3, .tmp 4]) (by kernel_rfl) rfl (Eq.mpr (by kernel_rfl : dnF Tryz.prog Tryz.f24.ntmps d24 [.tmp 2, .tmp 3, .tmp 4] [vS l1] h Q = R24 l1 h Q) hR)
noncomputable def d56 : DCode := up ⟨[(7, .l [.slice]), (9, .c (.one false [.bool]))], [3], []⟩ (low Tryz.prog (fun d => Nat.beq d 3 || Nat.beq d 5) (Tryz.f56.body.getD .skip))
theorem low56 : low Tryz.prog (fun d => Nat.beq d 3 || Nat.beq d 5) (Tryz.f56.body.getD .skip) = some (eC d56) := by kernel_rfl
def R56 (a1 : OA) (n1 : Nat) (dyk1 : Nat) (a2 : OA) (n2 : Nat) (dyk2 : Nat) (h : PHeap) (Q : Value → PHeap → Prop) : Prop :=
 ∀ (b1 : Nat), h b1 = none → ∀ (h_1 : PHeap), h_1 = h.put b1 (.cells ⟨[vI 4096]⟩ 129) →
 ∀ (b2 : Nat), h_1 b2 = none → ∀ (h_2 : PHeap), h_2 = h_1.put b2 (.cells ⟨[.pointer none]⟩ 127) →
 ∃ (l1 : List Value) (t1 : TypeId) (z1 : Nat × Nat), h_2 b2 = some (.cells ⟨l1⟩ t1 z1) ∧ (0 + 1 ≤ l1.length ∧ z1.2 ≤ 0) ∧
 ∀ (h_3 : PHeap), h_3 = h_2.put b2 (.cells ⟨splice l1 0 [vP b1 0]⟩ t1 z1) →
 Tri Tryz.prog 98 [vL a2 n2 dyk2, vF 99 [] [vP b2 0]] h_3 fun v_1 h_4 =>
 ∃ (c1 : Bool), v_1 = vB c1 ∧
 Q (vB (!c1)) h_4
theorem T56 {a1 : OA} {n1 : Nat} {dyk1 : Nat} {a2 : OA} {n2 : Nat} {dyk2 : Nat} {h : PHeap} {Q : Value → PHeap → Prop} (hR : R56 a1 n1 dyk1 a2 n2 dyk2 h Q) : Tri Tryz.prog 56 [vA [vL a1 n1 dyk1, vL a2 n2 dyk2]] h Q :=
 tri_of_dn mixed Tryz.func56 rfl (by kernel_rfl) low56 (rs := [.tmp 2]) (by kernel_rfl) rfl (Eq.mpr (by kernel_rfl : dnF Tryz.prog Tryz.f56.ntmps d56 [.tmp 2] [vA [vL a1 n1 dyk1, vL a2 n2 dyk2]] h Q = R56 a1 n1 dyk1 a2 n2 dyk2 h Q) hR)
abbrev o57_0 : Op := .lookup 111 (.tmp 12) (.tmp 14) true
abbrev o57_6 : Op := .mapUpdate 111 (.tmp 55) (.tmp 57) (.tmp 58)
noncomputable def d57 : DCode := up ⟨[(12, .l [.map]), (14, .l [.str]), (15, .c (.tup [(true, dyk2), (false, [.bool])])), (22, .l [qi]), (24, .l [qi]), (25, .c (.tup [])), (30, .l [.str]), (31, .c (.one false [.bool])), (34, .l [qi]), (36, .l [qi]), (37, .c (.tup [])), (40, .l [qi]), (44, .l [qi]), (48, .l [qi]), (50, .l [qi]), (51, .c (.tup [])), (55, .l [.map]), (57, .l [.str]), (58, .l dyk2)], [], []⟩ (low Tryz.prog (fun _ => false) (Tryz.f57.body.getD .skip))
theorem low57 : low Tryz.prog (fun _ => false) (Tryz.f57.body.getD .skip) = some (eC d57) := by kernel_rfl
def R57 (p1 : Nat) (o1 : Nat) (i1 : Int) (l1 : Bs) (i2 : Int) (i3 : Int) (i4 : Int) (i5 : Int) (h : PHeap) (Q : Value → PHeap → Prop) : Prop :=
 ∃ (m1 : Nat), h.cell p1 o1 = some (vM m1) ∧
 (Raw Tryz.prog (execOp (rho [(12, vM m1), (14, vS l1)]) (mkO o57_0 181)) h fun v_1 h_1 =>
 ∃ (l2 : Bs) (i6 i7 i8 i9 : Int) (c1 : Bool), v_1 = vT [vA [vS l2, vI i6, vI i7, vI i8, vI i9], vB c1] ∧
 Tri Tryz.prog 59 [vP p1 o1, vB (decide (i1 ≥ 64)), vI i4, vI i5, vI 9] h_1 fun v_2 h_2 =>
 v_2 = vT [] ∧
 br c1
 ((tv [vI i5]) ∧
 (tv [vI i4]) ∧
 Tri Tryz.prog 59 [vP p1 o1, vB true, vI i4, vI i5, vI 7] h_2 fun v_3 h_3 =>
 v_3 = vT [] ∧
 br (decide (i2 < 0))
 (Tri Tryz.prog 59 [vP p1 o1, vB true, vI i4, vI i5, vI 2] h_3 fun v_4 h_4 =>
 v_4 = vT [] ∧
 ∃ (m2 : Nat), h_4.cell p1 o1 = some (vM m2) ∧
 Raw Tryz.prog (execOp (rho [(55, vM m2), (57, vS l1), (58, vA [vS l1, vI i2, vI i3, vI i4, vI i5])]) (mkO o57_6 0)) h_4 fun v_5 h_5 =>
 v_5 = vT [] ∧
 Q (vT []) h_5)
 (Tri Tryz.prog 59 [vP p1 o1, vB (decide (i2 > 256)), vI i4, vI i5, vI 2] h_3 fun v_6 h_6 =>
 v_6 = vT [] ∧
 ∃ (m3 : Nat), h_6.cell p1 o1 = some (vM m3) ∧
 Raw Tryz.prog (execOp (rho [(55, vM m3), (57, vS l1), (58, vA [vS l1, vI i2, vI i3, vI i4, vI i5])]) (mkO o57_6 0)) h_6 fun v_7 h_7 =>
 v_7 = vT [] ∧
 Q (vT []) h_7))
 (Tri Tryz.prog 101 [vS l1] h_2 fun v_8 h_8 =>
 ∃ (c2 : Bool), v_8 = vB c2 ∧
 (tv [vI i5]) ∧
 (tv [vI i4]) ∧
 Tri Tryz.prog 59 [vP p1 o1, vB c2, vI i4, vI i5, vI 7] h_8 fun v_9 h_9 =>
 v_9 = vT [] ∧
 br (decide (i2 < 0))
 (Tri Tryz.prog 59 [vP p1 o1, vB true, vI i4, vI i5, vI 2] h_9 fun v_10 h_10 =>
 v_10 = vT [] ∧
 ∃ (m4 : Nat), h_10.cell p1 o1 = some (vM m4) ∧
 Raw Tryz.prog (execOp (rho [(55, vM m4), (57, vS l1), (58, vA [vS l1, vI i2, vI i3, vI i4, vI i5])]) (mkO o57_6 0)) h_10 fun v_11 h_11 =>
 v_11 = vT [] ∧
 Q (vT []) h_11)
 (Tri Tryz.prog 59 [vP p1 o1, vB (decide (i2 > 256)), vI i4, vI i5, vI 2] h_9 fun v_12 h_12 =>
 v_12 = vT [] ∧
 ∃ (m5 : Nat), h_12.cell p1 o1 = some (vM m5) ∧
 Raw Tryz.prog (execOp (rho [(55, vM m5), (57, vS l1), (58, vA [vS l1, vI i2, vI i3, vI i4, vI i5])]) (mkO o57_6 0)) h_12 fun v_13 h_13 =>
 v_13 = vT [] ∧
 Q (vT []) h_13))) ∧
 ((tv [vS l1]) ∧
 (h.cell p1 o1 = some (vM m1)) ∧
 Raw Tryz.prog (execOp (rho [(12, vM m1), (14, vS l1)]) (mkO o57_0 181)) h fun v_14 h_14 =>
 ∃ (l3 : Bs) (i10 i11 i12 i13 : Int) (c3 : Bool), v_14 = vT [vA [vS l3, vI i10, vI i11, vI i12, vI i13], vB c3] ∧
 Tri Tryz.prog 59 [vP p1 o1, vB (decide (i1 ≥ 64)), vI i4, vI i5, vI 9] h_14 fun v_15 h_15 =>
 v_15 = vT [] ∧
 br c3
 ((tv [vI i5]) ∧
 (tv [vI i4]) ∧
 Tri Tryz.prog 59 [vP p1 o1, vB true, vI i4, vI i5, vI 7] h_15 fun v_16 h_16 =>
 v_16 = vT [] ∧
 br (decide (i2 < 0))
 (Tri Tryz.prog 59 [vP p1 o1, vB true, vI i4, vI i5, vI 2] h_16 fun v_17 h_17 =>
 v_17 = vT [] ∧
 ∃ (m6 : Nat), h_17.cell p1 o1 = some (vM m6) ∧
 Raw Tryz.prog (execOp (rho [(55, vM m6), (57, vS l1), (58, vA [vS l1, vI i2, vI i3, vI i4, vI i5])]) (mkO o57_6 0)) h_17 fun v_18 h_18 =>
 v_18 = vT [] ∧
 Q (vT []) h_18)
 (Tri Tryz.prog 59 [vP p1 o1, vB (decide (i2 > 256)), vI i4, vI i5, vI 2] h_16 fun v_19 h_19 =>
 v_19 = vT [] ∧
 ∃ (m7 : Nat), h_19.cell p1 o1 = some (vM m7) ∧
 Raw Tryz.prog (execOp (rho [(55, vM m7), (57, vS l1), (58, vA [vS l1, vI i2, vI i3, vI i4, vI i5])]) (mkO o57_6 0)) h_19 fun v_20 h_20 =>
 v_20 = vT [] ∧
 Q (vT []) h_20))
 (Tri Tryz.prog 101 [vS l1] h_15 fun v_21 h_21 =>
 ∃ (c4 : Bool), v_21 = vB c4 ∧
 (tv [vI i5]) ∧
 (tv [vI i4]) ∧
 Tri Tryz.prog 59 [vP p1 o1, vB c4, vI i4, vI i5, vI 7] h_21 fun v_22 h_22 =>
 v_22 = vT [] ∧
 br (decide (i2 < 0))
 (Tri Tryz.prog 59 [vP p1 o1, vB true, vI i4, vI i5, vI 2] h_22 fun v_23 h_23 =>
 v_23 = vT [] ∧
 ∃ (m8 : Nat), h_23.cell p1 o1 = some (vM m8) ∧
 Raw Tryz.prog (execOp (rho [(55, vM m8), (57, vS l1), (58, vA [vS l1, vI i2, vI i3, vI i4, vI i5])]) (mkO o57_6 0)) h_23 fun v_24 h_24 =>
 v_24 = vT [] ∧
 Q (vT []) h_24)
 (Tri Tryz.prog 59 [vP p1 o1, vB (decide (i2 > 256)), vI i4, vI i5, vI 2] h_22 fun v_25 h_25 =>
 v_25 = vT [] ∧
 ∃ (m9 : Nat), h_25.cell p1 o1 = some (vM m9) ∧
 Raw Tryz.prog (execOp (rho [(55, vM m9), (57, vS l1), (58, vA [vS l1, vI i2, vI i3, vI i4, vI i5])]) (mkO o57_6 0)) h_25 fun v_26 h_26 =>
 v_26 = vT [] ∧
 Q (vT []) h_26)))
theorem T57 {p1 : Nat} {o1 : Nat} {i1 : Int} {l1 : Bs} {i2 : Int} {i3 : Int} {i4 : Int} {i5 : Int} {h : PHeap} {Q : Value → PHeap → Prop} (hR : R57 p1 o1 i1 l1 i2 i3 i4 i5 h Q) : Tri Tryz.prog 57 [vP p1 o1, vI i1, vA [vS l1, vI i2, vI i3, vI i4, vI i5]] h Q :=
 tri_of_dn mixed Tryz.func57 rfl (by kernel_rfl) low57 (rs := []) (by kernel_rfl) rfl (Eq.mpr (by kernel_rfl : dnF Tryz.prog Tryz.f57.ntmps d57 [] [vP p1 o1, vI i1, vA [vS l1, vI i2, vI i3, vI i4, vI i5]] h Q = R57 p1 o1 i1 l1 i2 i3 i4 i5 h Q) hR)
abbrev o58_0 : Op := .lookup 111 (.tmp 16) (.tmp 18) true
abbrev o58_3 : Op := .lookup 112 (.tmp 26) (.tmp 28) true
abbrev o58_10 : Op := .mapUpdate 112 (.tmp 89) (.tmp 91) (.tmp 94)
noncomputable def d58 : DCode := up ⟨[(16, .l [.map]), (18, .l [.str]), (19, .c (.tup [(true, dyk2), (false, [.bool])])), (26, .l [.map]), (28, .l [.str]), (29, .c (.tup [(false, [qi]), (false, [.bool])])), (36, .l [qi]), (38, .l [qi]), (39, .c (.tup [])), (47, .l [.str]), (48, .c (.one false [.bool])), (51, .l [qi]), (53, .l [qi]), (54, .c (.tup [])), (57, .l [.slice]), (61, .l [qi]), (63, .l [qi]), (64, .c (.tup [])), (66, .l [.slice]), (72, .l [.str]), (75, .l [.slice]), (79, .c (.one false [.bool])), (81, .l [qi]), (83, .l [qi]), (84, .c (.tup [])), (89, .l [.map]), (91, .l [.str]), (93, .l [.slice])], [], [(69, 20, [(68, qi)], [])]⟩ (low Tryz.prog (fun _ => false) (Tryz.f58.body.getD .skip))
theorem low58 : low Tryz.prog (fun _ => false) (Tryz.f58.body.getD .skip) = some (eC d58) := by kernel_rfl
def R58 (p1 : Nat) (o1 : Nat) (i1 : Int) (l1 : Bs) (a1 : OA) (n1 : Nat) (dyk1 : Nat) (a2 : OA) (n2 : Nat) (dyk2 : Nat) (i2 : Int) (i3 : Int) (h : PHeap) (Q : Value → PHeap → Prop) : Prop :=
 ∃ (m1 : Nat), h.cell p1 o1 = some (vM m1) ∧
 (Raw Tryz.prog (execOp (rho [(16, vM m1), (18, vS l1)]) (mkO o58_0 181)) h fun v_1 h_1 =>
 ∃ (l2 : Bs) (i4 i5 i6 i7 : Int) (c1 : Bool), v_1 = vT [vA [vS l2, vI i4, vI i5, vI i6, vI i7], vB c1] ∧
 ∃ (m2 : Nat), h_1.cell p1 (o1 + 1) = some (vM m2) ∧
 Raw Tryz.prog (execOp (rho [(26, vM m2), (28, vS l1)]) (mkO o58_3 117)) h_1 fun v_2 h_2 =>
 ∃ (i8 : Int) (c2 : Bool), v_2 = vT [vI i8, vB c2] ∧
 Tri Tryz.prog 59 [vP p1 o1, vB (decide (i1 ≥ 64)), vI i2, vI i3, vI 9] h_2 fun v_3 h_3 =>
 v_3 = vT [] ∧
 br c1
 ((tv [vI i3]) ∧
 (tv [vI i2]) ∧
 Tri Tryz.prog 59 [vP p1 o1, vB true, vI i2, vI i3, vI 7] h_3 fun v_4 h_4 =>
 v_4 = vT [] ∧
 Tri Tryz.prog 59 [vP p1 o1, vB (decide (((n1 : Nat) : Int) > 6)), vI i2, vI i3, vI 9] h_4 fun v_5 h_5 =>
 v_5 = vT [] ∧
 ∃ (I_1 : Nat → Int → PHeap → Prop), (∃ (m4 : Nat), I_1 m4 (0 : Int) h_5) ∧
 ∀ (m3 : Nat) (i9 : Int) (h_6 : PHeap), I_1 m3 i9 h_6 →
 br (decide (i9 < ((n1 : Nat) : Int)))
 (∃ (b1 o2 : Nat), a1 = some ⟨b1, o2, none⟩ ∧ (0 ≤ i9 ∧ i9 < n1) ∧
 ∃ (l3 : Bs), h_6.cell b1 (o2 + (i9).toNat * 1) = some (vS l3) ∧
 (okA a1 n1 dyk1 ∧ 0 ≤ (0 : Int) ∧ (0 : Int) ≤ i9 ∧ i9 ≤ dyk1) ∧ ∀ (a3 : OA), SlA a1 a3 0 dyk1 1 →
 Tri Tryz.prog 102 [vL a3 ((i9).toNat - 0) (dyk1 - 0), vS l3] h_6 fun v_6 h_7 =>
 ∃ (c3 : Bool), v_6 = vB c3 ∧
 (tv [vI i3]) ∧
 (tv [vI i2]) ∧
 (tv [vL a1 n1 dyk1]) ∧
 Tri Tryz.prog 59 [vP p1 o1, vB c3, vI i2, vI i3, vI 7] h_7 fun v_7 h_8 =>
 v_7 = vT [] ∧
 (tv [vL a1 n1 dyk1]) ∧
 ∃ (m5 : Nat), m5 < m3 ∧ I_1 m5 (IntKind.i64.wrap (i9 + 1)) h_8 ∧
 tv [vS l2, vI i4, vI i5, vI i6, vI i7] ∧ tv [vS l1, vL a1 n1 dyk1, vL a2 n2 dyk2, vI i2, vI i3] ∧ True)
 (∃ (m6 : Nat), h_6.cell p1 (o1 + 1) = some (vM m6) ∧
 Raw Tryz.prog (execOp (rho [(89, vM m6), (91, vS l1), (94, vI ((n1 : Nat) : Int))]) (mkO o58_10 0)) h_6 fun v_8 h_9 =>
 v_8 = vT [] ∧
 Q (vT []) h_9))
 (br c2
 ((tv [vI i3]) ∧
 (tv [vI i2]) ∧
 Tri Tryz.prog 59 [vP p1 o1, vB true, vI i2, vI i3, vI 7] h_3 fun v_9 h_10 =>
 v_9 = vT [] ∧
 Tri Tryz.prog 59 [vP p1 o1, vB (decide (((n1 : Nat) : Int) > 6)), vI i2, vI i3, vI 9] h_10 fun v_10 h_11 =>
 v_10 = vT [] ∧
 ∃ (I_2 : Nat → Int → PHeap → Prop), (∃ (m8 : Nat), I_2 m8 (0 : Int) h_11) ∧
 ∀ (m7 : Nat) (i10 : Int) (h_12 : PHeap), I_2 m7 i10 h_12 →
 br (decide (i10 < ((n1 : Nat) : Int)))
 (∃ (b2 o3 : Nat), a1 = some ⟨b2, o3, none⟩ ∧ (0 ≤ i10 ∧ i10 < n1) ∧
 ∃ (l4 : Bs), h_12.cell b2 (o3 + (i10).toNat * 1) = some (vS l4) ∧
 (okA a1 n1 dyk1 ∧ 0 ≤ (0 : Int) ∧ (0 : Int) ≤ i10 ∧ i10 ≤ dyk1) ∧ ∀ (a4 : OA), SlA a1 a4 0 dyk1 1 →
 Tri Tryz.prog 102 [vL a4 ((i10).toNat - 0) (dyk1 - 0), vS l4] h_12 fun v_11 h_13 =>
 ∃ (c4 : Bool), v_11 = vB c4 ∧
 (tv [vI i3]) ∧
 (tv [vI i2]) ∧
 (tv [vL a1 n1 dyk1]) ∧
 Tri Tryz.prog 59 [vP p1 o1, vB c4, vI i2, vI i3, vI 7] h_13 fun v_12 h_14 =>
 v_12 = vT [] ∧
 (tv [vL a1 n1 dyk1]) ∧
 ∃ (m9 : Nat), m9 < m7 ∧ I_2 m9 (IntKind.i64.wrap (i10 + 1)) h_14 ∧
 tv [vS l2, vI i4, vI i5, vI i6, vI i7] ∧ tv [vS l1, vL a1 n1 dyk1, vL a2 n2 dyk2, vI i2, vI i3] ∧ True)
 (∃ (m10 : Nat), h_12.cell p1 (o1 + 1) = some (vM m10) ∧
 Raw Tryz.prog (execOp (rho [(89, vM m10), (91, vS l1), (94, vI ((n1 : Nat) : Int))]) (mkO o58_10 0)) h_12 fun v_13 h_15 =>
 v_13 = vT [] ∧
 Q (vT []) h_15))
 (Tri Tryz.prog 101 [vS l1] h_3 fun v_14 h_16 =>
 ∃ (c5 : Bool), v_14 = vB c5 ∧
 (tv [vI i3]) ∧
 (tv [vI i2]) ∧
 Tri Tryz.prog 59 [vP p1 o1, vB c5, vI i2, vI i3, vI 7] h_16 fun v_15 h_17 =>
 v_15 = vT [] ∧
 Tri Tryz.prog 59 [vP p1 o1, vB (decide (((n1 : Nat) : Int) > 6)), vI i2, vI i3, vI 9] h_17 fun v_16 h_18 =>
 v_16 = vT [] ∧
 ∃ (I_3 : Nat → Int → PHeap → Prop), (∃ (m12 : Nat), I_3 m12 (0 : Int) h_18) ∧
 ∀ (m11 : Nat) (i11 : Int) (h_19 : PHeap), I_3 m11 i11 h_19 →
 br (decide (i11 < ((n1 : Nat) : Int)))
 (∃ (b3 o4 : Nat), a1 = some ⟨b3, o4, none⟩ ∧ (0 ≤ i11 ∧ i11 < n1) ∧
 ∃ (l5 : Bs), h_19.cell b3 (o4 + (i11).toNat * 1) = some (vS l5) ∧
 (okA a1 n1 dyk1 ∧ 0 ≤ (0 : Int) ∧ (0 : Int) ≤ i11 ∧ i11 ≤ dyk1) ∧ ∀ (a5 : OA), SlA a1 a5 0 dyk1 1 →
 Tri Tryz.prog 102 [vL a5 ((i11).toNat - 0) (dyk1 - 0), vS l5] h_19 fun v_17 h_20 =>
 ∃ (c6 : Bool), v_17 = vB c6 ∧
 (tv [vI i3]) ∧
 (tv [vI i2]) ∧
 (tv [vL a1 n1 dyk1]) ∧
 Tri Tryz.prog 59 [vP p1 o1, vB c6, vI i2, vI i3, vI 7] h_20 fun v_18 h_21 =>
 v_18 = vT [] ∧
 (tv [vL a1 n1 dyk1]) ∧
 ∃ (m13 : Nat), m13 < m11 ∧ I_3 m13 (IntKind.i64.wrap (i11 + 1)) h_21 ∧
 tv [vS l2, vI i4, vI i5, vI i6, vI i7] ∧ tv [vS l1, vL a1 n1 dyk1, vL a2 n2 dyk2, vI i2, vI i3] ∧ True)
 (∃ (m14 : Nat), h_19.cell p1 (o1 + 1) = some (vM m14) ∧
 Raw Tryz.prog (execOp (rho [(89, vM m14), (91, vS l1), (94, vI ((n1 : Nat) : Int))]) (mkO o58_10 0)) h_19 fun v_19 h_22 =>
 v_19 = vT [] ∧
 Q (vT []) h_22)))) ∧
 ((tv [vS l1]) ∧
 (h.cell p1 o1 = some (vM m1)) ∧
 Raw Tryz.prog (execOp (rho [(16, vM m1), (18, vS l1)]) (mkO o58_0 181)) h fun v_20 h_23 =>
 ∃ (l6 : Bs) (i12 i13 i14 i15 : Int) (c7 : Bool), v_20 = vT [vA [vS l6, vI i12, vI i13, vI i14, vI i15], vB c7] ∧
 ∃ (m15 : Nat), h_23.cell p1 (o1 + 1) = some (vM m15) ∧
 Raw Tryz.prog (execOp (rho [(26, vM m15), (28, vS l1)]) (mkO o58_3 117)) h_23 fun v_21 h_24 =>
 ∃ (i16 : Int) (c8 : Bool), v_21 = vT [vI i16, vB c8] ∧
 Tri Tryz.prog 59 [vP p1 o1, vB (decide (i1 ≥ 64)), vI i2, vI i3, vI 9] h_24 fun v_22 h_25 =>
 v_22 = vT [] ∧
 br c7
 ((tv [vI i3]) ∧
 (tv [vI i2]) ∧
 Tri Tryz.prog 59 [vP p1 o1, vB true, vI i2, vI i3, vI 7] h_25 fun v_23 h_26 =>
 v_23 = vT [] ∧
 Tri Tryz.prog 59 [vP p1 o1, vB (decide (((n1 : Nat) : Int) > 6)), vI i2, vI i3, vI 9] h_26 fun v_24 h_27 =>
 v_24 = vT [] ∧
 ∃ (I_4 : Nat → Int → PHeap → Prop), (∃ (m17 : Nat), I_4 m17 (0 : Int) h_27) ∧
 ∀ (m16 : Nat) (i17 : Int) (h_28 : PHeap), I_4 m16 i17 h_28 →
 br (decide (i17 < ((n1 : Nat) : Int)))
 (∃ (b4 o5 : Nat), a1 = some ⟨b4, o5, none⟩ ∧ (0 ≤ i17 ∧ i17 < n1) ∧
 ∃ (l7 : Bs), h_28.cell b4 (o5 + (i17).toNat * 1) = some (vS l7) ∧
 (okA a1 n1 dyk1 ∧ 0 ≤ (0 : Int) ∧ (0 : Int) ≤ i17 ∧ i17 ≤ dyk1) ∧ ∀ (a6 : OA), SlA a1 a6 0 dyk1 1 →
 Tri Tryz.prog 102 [vL a6 ((i17).toNat - 0) (dyk1 - 0), vS l7] h_28 fun v_25 h_29 =>
 ∃ (c9 : Bool), v_25 = vB c9 ∧
 (tv [vI i3]) ∧
 (tv [vI i2]) ∧
 (tv [vL a1 n1 dyk1]) ∧
 Tri Tryz.prog 59 [vP p1 o1, vB c9, vI i2, vI i3, vI 7] h_29 fun v_26 h_30 =>
 v_26 = vT [] ∧
 (tv [vL a1 n1 dyk1]) ∧
 ∃ (m18 : Nat), m18 < m16 ∧ I_4 m18 (IntKind.i64.wrap (i17 + 1)) h_30 ∧
 tv [vS l6, vI i12, vI i13, vI i14, vI i15] ∧ tv [vS l1, vL a1 n1 dyk1, vL a2 n2 dyk2, vI i2, vI i3] ∧ True)
 (∃ (m19 : Nat), h_28.cell p1 (o1 + 1) = some (vM m19) ∧
 Raw Tryz.prog (execOp (rho [(89, vM m19), (91, vS l1), (94, vI ((n1 : Nat) : Int))]) (mkO o58_10 0)) h_28 fun v_27 h_31 =>
 v_27 = vT [] ∧
 Q (vT []) h_31))
 (br c8
 ((tv [vI i3]) ∧
 (tv [vI i2]) ∧
 Tri Tryz.prog 59 [vP p1 o1, vB true, vI i2, vI i3, vI 7] h_25 fun v_28 h_32 =>
 v_28 = vT [] ∧
 Tri Tryz.prog 59 [vP p1 o1, vB (decide (((n1 : Nat) : Int) > 6)), vI i2, vI i3, vI 9] h_32 fun v_29 h_33 =>
 v_29 = vT [] ∧
 ∃ (I_5 : Nat → Int → PHeap → Prop), (∃ (m21 : Nat), I_5 m21 (0 : Int) h_33) ∧
 ∀ (m20 : Nat) (i18 : Int) (h_34 : PHeap), I_5 m20 i18 h_34 →
 br (decide (i18 < ((n1 : Nat) : Int)))
 (∃ (b5 o6 : Nat), a1 = some ⟨b5, o6, none⟩ ∧ (0 ≤ i18 ∧ i18 < n1) ∧
 ∃ (l8 : Bs), h_34.cell b5 (o6 + (i18).toNat * 1) = some (vS l8) ∧
 (okA a1 n1 dyk1 ∧ 0 ≤ (0 : Int) ∧ (0 : Int) ≤ i18 ∧ i18 ≤ dyk1) ∧ ∀ (a7 : OA), SlA a1 a7 0 dyk1 1 →
 Tri Tryz.prog 102 [vL a7 ((i18).toNat - 0) (dyk1 - 0), vS l8] h_34 fun v_30 h_35 =>
 ∃ (c10 : Bool), v_30 = vB c10 ∧
 (tv [vI i3]) ∧
 (tv [vI i2]) ∧
 (tv [vL a1 n1 dyk1]) ∧
 Tri Tryz.prog 59 [vP p1 o1, vB c10, vI i2, vI i3, vI 7] h_35 fun v_31 h_36 =>
 v_31 = vT [] ∧
 (tv [vL a1 n1 dyk1]) ∧
 ∃ (m22 : Nat), m22 < m20 ∧ I_5 m22 (IntKind.i64.wrap (i18 + 1)) h_36 ∧
 tv [vS l6, vI i12, vI i13, vI i14, vI i15] ∧ tv [vS l1, vL a1 n1 dyk1, vL a2 n2 dyk2, vI i2, vI i3] ∧ True)
 (∃ (m23 : Nat), h_34.cell p1 (o1 + 1) = some (vM m23) ∧
 Raw Tryz.prog (execOp (rho [(89, vM m23), (91, vS l1), (94, vI ((n1 : Nat) : Int))]) (mkO o58_10 0)) h_34 fun v_32 h_37 =>
 v_32 = vT [] ∧
 Q (vT []) h_37))
 (Tri Tryz.prog 101 [vS l1] h_25 fun v_33 h_38 =>
 ∃ (c11 : Bool), v_33 = vB c11 ∧
 (tv [vI i3]) ∧
 (tv [vI i2]) ∧
 Tri Tryz.prog 59 [vP p1 o1, vB c11, vI i2, vI i3, vI 7] h_38 fun v_34 h_39 =>
 v_34 = vT [] ∧
 Tri Tryz.prog 59 [vP p1 o1, vB (decide (((n1 : Nat) : Int) > 6)), vI i2, vI i3, vI 9] h_39 fun v_35 h_40 =>
 v_35 = vT [] ∧
 ∃ (I_6 : Nat → Int → PHeap → Prop), (∃ (m25 : Nat), I_6 m25 (0 : Int) h_40) ∧
 ∀ (m24 : Nat) (i19 : Int) (h_41 : PHeap), I_6 m24 i19 h_41 →
 br (decide (i19 < ((n1 : Nat) : Int)))
 (∃ (b6 o7 : Nat), a1 = some ⟨b6, o7, none⟩ ∧ (0 ≤ i19 ∧ i19 < n1) ∧
 ∃ (l9 : Bs), h_41.cell b6 (o7 + (i19).toNat * 1) = some (vS l9) ∧
 (okA a1 n1 dyk1 ∧ 0 ≤ (0 : Int) ∧ (0 : Int) ≤ i19 ∧ i19 ≤ dyk1) ∧ ∀ (a8 : OA), SlA a1 a8 0 dyk1 1 →
 Tri Tryz.prog 102 [vL a8 ((i19).toNat - 0) (dyk1 - 0), vS l9] h_41 fun v_36 h_42 =>
 ∃ (c12 : Bool), v_36 = vB c12 ∧
 (tv [vI i3]) ∧
 (tv [vI i2]) ∧
 (tv [vL a1 n1 dyk1]) ∧
 Tri Tryz.prog 59 [vP p1 o1, vB c12, vI i2, vI i3, vI 7] h_42 fun v_37 h_43 =>
 v_37 = vT [] ∧
 (tv [vL a1 n1 dyk1]) ∧
 ∃ (m26 : Nat), m26 < m24 ∧ I_6 m26 (IntKind.i64.wrap (i19 + 1)) h_43 ∧
 tv [vS l6, vI i12, vI i13, vI i14, vI i15] ∧ tv [vS l1, vL a1 n1 dyk1, vL a2 n2 dyk2, vI i2, vI i3] ∧ True)
 (∃ (m27 : Nat), h_41.cell p1 (o1 + 1) = some (vM m27) ∧
 Raw Tryz.prog (execOp (rho [(89, vM m27), (91, vS l1), (94, vI ((n1 : Nat) : Int))]) (mkO o58_10 0)) h_41 fun v_38 h_44 =>
 v_38 = vT [] ∧
 Q (vT []) h_44))))
theorem T58 {p1 : Nat} {o1 : Nat} {i1 : Int} {l1 : Bs} {a1 : OA} {n1 : Nat} {dyk1 : Nat} {a2 : OA} {n2 : Nat} {dyk2 : Nat} {i2 : Int} {i3 : Int} {h : PHeap} {Q : Value → PHeap → Prop} (hR : R58 p1 o1 i1 l1 a1 n1 dyk1 a2 n2 dyk2 i2 i3 h Q) : Tri Tryz.prog 58 [vP p1 o1, vI i1, vA [vS l1, vL a1 n1 dyk1, vL a2 n2 dyk2, vI i2, vI i3]] h Q :=
 tri_of_dn mixed Tryz.func58 rfl (by kernel_rfl) low58 (rs := []) (by kernel_rfl) rfl (Eq.mpr (by kernel_rfl : dnF Tryz.prog Tryz.f58.ntmps d58 [] [vP p1 o1, vI i1, vA [vS l1, vL a1 n1 dyk1, vL a2 n2 dyk2, vI i2, vI i3]] h Q = R58 p1 o1 i1 l1 a1 n1 dyk1 a2 n2 dyk2 i2 i3 h Q) hR)
noncomputable def d59 : DCode := up ⟨[(15, .l [qi])], [25, 27, 29], []⟩ (low Tryz.prog (fun _ => false) (Tryz.f59.body.getD .skip))
theorem low59 : low Tryz.prog (fun _ => false) (Tryz.f59.body.getD .skip) = some (eC d59) := by kernel_rfl
def R59 (p1 : Nat) (o1 : Nat) (c1 : Bool) (i1 : Int) (i2 : Int) (i3 : Int) (h : PHeap) (Q : Value → PHeap → Prop) : Prop :=
 br c1
 (∃ (i4 : Int), h.cell p1 (o1 + 6) = some (vI i4) ∧
 br (i4 == 0)
 (∃ (l1 : List Value) (t1 : TypeId) (z1 : Nat × Nat), h p1 = some (.cells ⟨l1⟩ t1 z1) ∧ ((o1 + 4) + 1 ≤ l1.length ∧ z1.2 ≤ (o1 + 4)) ∧
 ∀ (h_1 : PHeap), h_1 = h.put p1 (.cells ⟨splice l1 (o1 + 4) [vI i1]⟩ t1 z1) →
 ∃ (l2 : List Value) (t2 : TypeId) (z2 : Nat × Nat), h_1 p1 = some (.cells ⟨l2⟩ t2 z2) ∧ ((o1 + 5) + 1 ≤ l2.length ∧ z2.2 ≤ (o1 + 5)) ∧
 ∀ (h_2 : PHeap), h_2 = h_1.put p1 (.cells ⟨splice l2 (o1 + 5) [vI i2]⟩ t2 z2) →
 ∃ (l3 : List Value) (t3 : TypeId) (z3 : Nat × Nat), h_2 p1 = some (.cells ⟨l3⟩ t3 z3) ∧ ((o1 + 6) + 1 ≤ l3.length ∧ z3.2 ≤ (o1 + 6)) ∧
 ∀ (h_3 : PHeap), h_3 = h_2.put p1 (.cells ⟨splice l3 (o1 + 6) [vI i3]⟩ t3 z3) →
 Q (vT []) h_3)
 (Q (vT []) h))
 (Q (vT []) h)
theorem T59 {p1 : Nat} {o1 : Nat} {c1 : Bool} {i1 : Int} {i2 : Int} {i3 : Int} {h : PHeap} {Q : Value → PHeap → Prop} (hR : R59 p1 o1 c1 i1 i2 i3 h Q) : Tri Tryz.prog 59 [vP p1 o1, vB c1, vI i1, vI i2, vI i3] h Q :=
 tri_of_dn mixed Tryz.func59 rfl (by kernel_rfl) low59 (rs := []) (by kernel_rfl) rfl (Eq.mpr (by kernel_rfl : dnF Tryz.prog Tryz.f59.ntmps d59 [] [vP p1 o1, vB c1, vI i1, vI i2, vI i3] h Q = R59 p1 o1 c1 i1 i2 i3 h Q) hR)
noncomputable def d60 : DCode := up ⟨[(7, .c (.one false [.slice]))], [], []⟩ (low Tryz.prog (fun _ => false) (Tryz.f60.body.getD .skip))
theorem low60 : low Tryz.prog (fun _ => false) (Tryz.f60.body.getD .skip) = some (eC d60) := by kernel_rfl
def R60n (h : PHeap) (Q : Value → PHeap → Prop) : Prop :=
 Q (vL none 0 0) h
theorem T60n {h : PHeap} {Q : Value → PHeap → Prop} (hR : R60n  h Q) : Tri Tryz.prog 60 [vL none 0 0] h Q :=
 tri_of_dn mixed Tryz.func60 rfl (by kernel_rfl) low60 (rs := [.tmp 2]) (by kernel_rfl) rfl (Eq.mpr (by kernel_rfl : dnF Tryz.prog Tryz.f60.ntmps d60 [.tmp 2] [vL none 0 0] h Q = R60n  h Q) hR)
abbrev o60_1 : Op := .call { callee := (.builtin .append), args := #[(.tmp 5), (.tmp 6)], argTypes := #[51, 51] }
def R60p (b1 : Nat) (o1 : Nat) (n1 : Nat) (dyk1 : Nat) (h : PHeap) (Q : Value → PHeap → Prop) : Prop :=
 ∀ (b2 : Nat), h b2 = none → ∀ (h_1 : PHeap), h_1 = h.put b2 (.cells ⟨[]⟩ 9) →
 Raw Tryz.prog (execOp (rho [(5, vL (ad b2 0) 0 0), (6, vL (ad b1 o1) n1 dyk1)]) (mkO o60_1 51)) h_1 fun v_1 h_2 =>
 ∃ (a1 : OA) (n2 dyk2 : Nat), v_1 = vL a1 n2 dyk2 ∧
 Q (vL a1 n2 dyk2) h_2
theorem T60p {b1 : Nat} {o1 : Nat} {n1 : Nat} {dyk1 : Nat} {h : PHeap} {Q : Value → PHeap → Prop} (hR : R60p b1 o1 n1 dyk1 h Q) : Tri Tryz.prog 60 [vL (ad b1 o1) n1 dyk1] h Q :=
 tri_of_dn mixed Tryz.func60 rfl (by kernel_rfl) low60 (rs := [.tmp 2]) (by kernel_rfl) rfl (Eq.mpr (by kernel_rfl : dnF Tryz.prog Tryz.f60.ntmps d60 [.tmp 2] [vL (ad b1 o1) n1 dyk1] h Q = R60p b1 o1 n1 dyk1 h Q) hR)
noncomputable def d61 : DCode := up ⟨[(12, .l [.slice]), (19, .l dyk4), (21, .l dyk4), (23, .c (.tup [])), (29, .l [.slice])], [33], [(17, 10, [(16, qi)], [])]⟩ (low Tryz.prog (fun _ => false) (Tryz.f61.body.getD .skip))
theorem low61 : low Tryz.prog (fun _ => false) (Tryz.f61.body.getD .skip) = some (eC d61) := by kernel_rfl
def R61 (p1 : Nat) (o1 : Nat) (a1 : OA) (n1 : Nat) (dyk1 : Nat) (c1 : Bool) (h : PHeap) (Q : Value → PHeap → Prop) : Prop :=
 ∃ (a2 : OA) (n2 dyk2 : Nat), h.cell p1 (o1 + 2) = some (vL a2 n2 dyk2) ∧
 ∃ (I_1 : Nat → Int → PHeap → Prop), (∃ (m2 : Nat), I_1 m2 (0 : Int) h) ∧
 ∀ (m1 : Nat) (i1 : Int) (h_1 : PHeap), I_1 m1 i1 h_1 →
 br (decide (i1 < ((n1 : Nat) : Int)))
 (∃ (b1 o2 : Nat), a1 = some ⟨b1, o2, none⟩ ∧ (0 ≤ i1 ∧ i1 < n1) ∧
 ∃ (i2 : Int) (l1 : Bs) (a3 : OA) (n3 dyk3 : Nat) (a4 : OA) (n4 dyk4 : Nat) (a5 : OA) (n5 k5 : Nat) (i3 i4 : Int), h_1.row b1 (o2 + (i1).toNat * 7) [vI i2, vS l1, vL a3 n3 dyk3, vL a4 n4 dyk4, vL a5 n5 k5, vI i3, vI i4] ∧
 Tri Tryz.prog 103 [vP p1 o1, vA [vI i2, vS l1, vL a3 n3 dyk3, vL a4 n4 dyk4, vL a5 n5 k5, vI i3, vI i4], vB c1] h_1 fun v_1 h_2 =>
 v_1 = vT [] ∧
 ∃ (m3 : Nat), m3 < m1 ∧ I_1 m3 (IntKind.i64.wrap (i1 + 1)) h_2 ∧
 True)
 (∃ (a6 : OA) (n6 k6 : Nat), h_1.cell p1 (o1 + 2) = some (vL a6 n6 k6) ∧
 (okA a6 n6 k6 ∧ 0 ≤ (0 : Int) ∧ (0 : Int) ≤ ((n2 : Nat) : Int) ∧ ((n2 : Nat) : Int) ≤ k6) ∧ ∀ (a7 : OA), SlA a6 a7 0 k6 1 →
 ∃ (l2 : List Value) (t1 : TypeId) (z1 : Nat × Nat), h_1 p1 = some (.cells ⟨l2⟩ t1 z1) ∧ ((o1 + 2) + 1 ≤ l2.length ∧ z1.2 ≤ (o1 + 2)) ∧
 ∀ (h_3 : PHeap), h_3 = h_1.put p1 (.cells ⟨splice l2 (o1 + 2) [vL a7 (((n2 : Nat) : Int).toNat - 0) (k6 - 0)]⟩ t1 z1) →
 Q (vT []) h_3)
theorem T61 {p1 : Nat} {o1 : Nat} {a1 : OA} {n1 : Nat} {dyk1 : Nat} {c1 : Bool} {h : PHeap} {Q : Value → PHeap → Prop} (hR : R61 p1 o1 a1 n1 dyk1 c1 h Q) : Tri Tryz.prog 61 [vP p1 o1, vL a1 n1 dyk1, vB c1] h Q :=
 tri_of_dn mixed Tryz.func61 rfl (by kernel_rfl) low61 (rs := []) (by kernel_rfl) rfl (Eq.mpr (by kernel_rfl : dnF Tryz.prog Tryz.f61.ntmps d61 [] [vP p1 o1, vL a1 n1 dyk1, vB c1] h Q = R61 p1 o1 a1 n1 dyk1 c1 h Q) hR)
noncomputable def d66 : DCode := up ⟨[(6, .l [.ptr]), (7, .c (.one false [.bool])), (10, .l [.slice]), (13, .l [qi]), (26, .l [.ptr]), (28, .l [.slice]), (30, .l dyk1), (31, .c (.one false [.bool])), (38, .l [.ptr]), (40, .l [.slice]), (42, .l dyk1), (43, .c (.one false [.bool])), (46, .l [.ptr]), (48, .l [.slice]), (50, .l dyk1), (51, .c (.one false [.bool])), (56, .l [.slice]), (58, .c (.one false [.bool]))], [], []⟩ (low Tryz.prog (fun d => Nat.beq d 2) (Tryz.f66.body.getD .skip))
theorem low66 : low Tryz.prog (fun d => Nat.beq d 2) (Tryz.f66.body.getD .skip) = some (eC d66) := by kernel_rfl
def R66 (p1 : Nat) (o1 : Nat) (i1 : Int) (l1 : Bs) (l2 : Bs) (i2 : Int) (l3 : Bs) (a1 : OA) (n1 : Nat) (dyk1 : Nat) (i3 : Int) (i4 : Int) (h : PHeap) (Q : Value → PHeap → Prop) : Prop :=
 ∀ (b1 : Nat), h b1 = none → ∀ (h_1 : PHeap), h_1 = h.put b1 (.cells ⟨[vP p1 o1]⟩ 127) →
 ∃ (p2 o2 : Nat), h_1.cell b1 0 = some (vP p2 o2) ∧
 Tri Tryz.prog 106 [vP p2 o2] h_1 fun v_1 h_2 =>
 ∃ (c1 : Bool), v_1 = vB c1 ∧
 br (!c1)
 (Q (vB false) h_2)
 (br (i1 == 1)
 (Q (vB (((n1 : Nat) : Int) == 0)) h_2)
 (br (i1 == 2)
 (Q (vB (((n1 : Nat) : Int) == 0)) h_2)
 (br (i1 == 3)
 (Q (vB (((n1 : Nat) : Int) == 0)) h_2)
 (br (i1 == 4)
 (br (((n1 : Nat) : Int) == 1)
 (∃ (p3 o3 : Nat), h_2.cell b1 0 = some (vP p3 o3) ∧
 ∃ (b2 o4 : Nat), a1 = some ⟨b2, o4, none⟩ ∧ (0 ≤ (0 : Int) ∧ (0 : Int) < n1) ∧
 ∃ (i5 : Int) (l4 l5 : Bs) (i6 : Int) (l6 : Bs) (a2 : OA) (n2 dyk2 : Nat) (i7 i8 : Int), h_2.row b2 o4 [vI i5, vS l4, vS l5, vI i6, vS l6, vL a2 n2 dyk2, vI i7, vI i8] ∧
 Tri Tryz.prog 66 [vP p3 o3, vA [vI i5, vS l4, vS l5, vI i6, vS l6, vL a2 n2 dyk2, vI i7, vI i8]] h_2 fun v_2 h_3 =>
 ∃ (c2 : Bool), v_2 = vB c2 ∧
 (tv [vL a1 n1 dyk1]) ∧
 Q (vB c2) h_3)
 (Q (vB false) h_2))
 (br (i1 == 6)
 (br (((n1 : Nat) : Int) == 1)
 (∃ (p4 o5 : Nat), h_2.cell b1 0 = some (vP p4 o5) ∧
 ∃ (b3 o6 : Nat), a1 = some ⟨b3, o6, none⟩ ∧ (0 ≤ (0 : Int) ∧ (0 : Int) < n1) ∧
 ∃ (i9 : Int) (l7 l8 : Bs) (i10 : Int) (l9 : Bs) (a3 : OA) (n3 dyk3 : Nat) (i11 i12 : Int), h_2.row b3 o6 [vI i9, vS l7, vS l8, vI i10, vS l9, vL a3 n3 dyk3, vI i11, vI i12] ∧
 Tri Tryz.prog 66 [vP p4 o5, vA [vI i9, vS l7, vS l8, vI i10, vS l9, vL a3 n3 dyk3, vI i11, vI i12]] h_2 fun v_3 h_4 =>
 ∃ (c3 : Bool), v_3 = vB c3 ∧
 (tv [vL a1 n1 dyk1]) ∧
 Q (vB c3) h_4)
 (Q (vB false) h_2))
 (br (i1 == 7)
 (br (((n1 : Nat) : Int) == 2)
 (∃ (p5 o7 : Nat), h_2.cell b1 0 = some (vP p5 o7) ∧
 ∃ (b4 o8 : Nat), a1 = some ⟨b4, o8, none⟩ ∧ (0 ≤ (0 : Int) ∧ (0 : Int) < n1) ∧
 ∃ (i13 : Int) (l10 l11 : Bs) (i14 : Int) (l12 : Bs) (a4 : OA) (n4 dyk4 : Nat) (i15 i16 : Int), h_2.row b4 o8 [vI i13, vS l10, vS l11, vI i14, vS l12, vL a4 n4 dyk4, vI i15, vI i16] ∧
 Tri Tryz.prog 66 [vP p5 o7, vA [vI i13, vS l10, vS l11, vI i14, vS l12, vL a4 n4 dyk4, vI i15, vI i16]] h_2 fun v_4 h_5 =>
 ∃ (c4 : Bool), v_4 = vB c4 ∧
 (tv [vL a1 n1 dyk1]) ∧
 br c4
 (∃ (p6 o9 : Nat), h_5.cell b1 0 = some (vP p6 o9) ∧
 ∃ (b5 o10 : Nat), a1 = some ⟨b5, o10, none⟩ ∧ (0 ≤ (1 : Int) ∧ (1 : Int) < n1) ∧
 ∃ (i17 : Int) (l13 l14 : Bs) (i18 : Int) (l15 : Bs) (a5 : OA) (n5 k5 : Nat) (i19 i20 : Int), h_5.row b5 (o10 + 8) [vI i17, vS l13, vS l14, vI i18, vS l15, vL a5 n5 k5, vI i19, vI i20] ∧
 Tri Tryz.prog 66 [vP p6 o9, vA [vI i17, vS l13, vS l14, vI i18, vS l15, vL a5 n5 k5, vI i19, vI i20]] h_5 fun v_5 h_6 =>
 ∃ (c5 : Bool), v_5 = vB c5 ∧
 (tv [vL a1 n1 dyk1]) ∧
 (tv [vL a1 n1 dyk1]) ∧
 Q (vB c5) h_6)
 ((tv [vL a1 n1 dyk1]) ∧
 Q (vB false) h_5))
 (Q (vB false) h_2))
 (br (i1 == 5)
 (Tri Tryz.prog 107 [vL a1 n1 dyk1, vF 108 [] [vP b1 0]] h_2 fun v_6 h_7 =>
 ∃ (c6 : Bool), v_6 = vB c6 ∧
 Q (vB (!c6)) h_7)
 (Q (vB false) h_2))))))))
theorem T66 {p1 : Nat} {o1 : Nat} {i1 : Int} {l1 : Bs} {l2 : Bs} {i2 : Int} {l3 : Bs} {a1 : OA} {n1 : Nat} {dyk1 : Nat} {i3 : Int} {i4 : Int} {h : PHeap} {Q : Value → PHeap → Prop} (hR : R66 p1 o1 i1 l1 l2 i2 l3 a1 n1 dyk1 i3 i4 h Q) : Tri Tryz.prog 66 [vP p1 o1, vA [vI i1, vS l1, vS l2, vI i2, vS l3, vL a1 n1 dyk1, vI i3, vI i4]] h Q :=
 tri_of_dn mixed Tryz.func66 rfl (by kernel_rfl) low66 (rs := [.tmp 4]) (by kernel_rfl) rfl (Eq.mpr (by kernel_rfl : dnF Tryz.prog Tryz.f66.ntmps d66 [.tmp 4] [vP p1 o1, vA [vI i1, vS l1, vS l2, vI i2, vS l3, vL a1 n1 dyk1, vI i3, vI i4]] h Q = R66 p1 o1 i1 l1 l2 i2 l3 a1 n1 dyk1 i3 i4 h Q) hR)
noncomputable def d98 : DCode := up ⟨[(7, .c (.one false [qi]))], [], []⟩ (low Tryz.prog (fun _ => false) (Tryz.f98.body.getD .skip))
theorem low98 : low Tryz.prog (fun _ => false) (Tryz.f98.body.getD .skip) = some (eC d98) := by kernel_rfl
def R98 (a1 : OA) (n1 : Nat) (dyk1 : Nat) (f1 : Nat) (x1 : List Value) (y1 : List Value) (h : PHeap) (Q : Value → PHeap → Prop) : Prop :=
 Tri Tryz.prog 145 [vL a1 n1 dyk1, vF f1 x1 y1] h fun v_1 h_1 =>
 ∃ (i1 : Int), v_1 = vI i1 ∧
 Q (vB (decide (i1 ≥ 0))) h_1
theorem T98 {a1 : OA} {n1 : Nat} {dyk1 : Nat} {f1 : Nat} {x1 : List Value} {y1 : List Value} {h : PHeap} {Q : Value → PHeap → Prop} (hR : R98 a1 n1 dyk1 f1 x1 y1 h Q) : Tri Tryz.prog 98 [vL a1 n1 dyk1, vF f1 x1 y1] h Q :=
 tri_of_dn mixed Tryz.func98 rfl (by kernel_rfl) low98 (rs := [.tmp 4]) (by kernel_rfl) rfl (Eq.mpr (by kernel_rfl : dnF Tryz.prog Tryz.f98.ntmps d98 [.tmp 4] [vL a1 n1 dyk1, vF f1 x1 y1] h Q = R98 a1 n1 dyk1 f1 x1 y1 h Q) hR)
noncomputable def d99 : DCode := up ⟨[(4, .l [.ptr]), (6, .l [.slice]), (7, .c (.one false [.bool]))], [], []⟩ (low Tryz.prog (fun _ => false) (Tryz.f99.body.getD .skip))
theorem low99 : low Tryz.prog (fun _ => false) (Tryz.f99.body.getD .skip) = some (eC d99) := by kernel_rfl
def R99 (l1 : Bs) (a1 : OA) (n1 : Nat) (dyk1 : Nat) (a2 : OA) (n2 : Nat) (dyk2 : Nat) (i1 : Int) (i2 : Int) (p1 : Nat) (o1 : Nat) (h : PHeap) (Q : Value → PHeap → Prop) : Prop :=
 ∃ (p2 o2 : Nat), h.cell p1 o1 = some (vP p2 o2) ∧
 Tri Tryz.prog 100 [vP p2 o2, vL a2 n2 dyk2] h fun v_1 h_1 =>
 ∃ (c1 : Bool), v_1 = vB c1 ∧
 Q (vB (!c1)) h_1
theorem T99 {l1 : Bs} {a1 : OA} {n1 : Nat} {dyk1 : Nat} {a2 : OA} {n2 : Nat} {dyk2 : Nat} {i1 : Int} {i2 : Int} {p1 : Nat} {o1 : Nat} {h : PHeap} {Q : Value → PHeap → Prop} (hR : R99 l1 a1 n1 dyk1 a2 n2 dyk2 i1 i2 p1 o1 h Q) : Tri Tryz.prog 99 [vA [vS l1, vL a1 n1 dyk1, vL a2 n2 dyk2, vI i1, vI i2], vP p1 o1] h Q :=
 tri_of_dn mixed Tryz.func99 rfl (by kernel_rfl) low99 (rs := [.tmp 3]) (by kernel_rfl) rfl (Eq.mpr (by kernel_rfl : dnF Tryz.prog Tryz.f99.ntmps d99 [.tmp 3] [vA [vS l1, vL a1 n1 dyk1, vL a2 n2 dyk2, vI i1, vI i2], vP p1 o1] h Q = R99 l1 a1 n1 dyk1 a2 n2 dyk2 i1 i2 p1 o1 h Q) hR)
noncomputable def d100 : DCode := up ⟨[(7, .c (.one false [.bool]))], [], []⟩ (low Tryz.prog (fun d => Nat.beq d 2) (Tryz.f100.body.getD .skip))
theorem low100 : low Tryz.prog (fun d => Nat.beq d 2) (Tryz.f100.body.getD .skip) = some (eC d100) := by kernel_rfl
def R100 (p1 : Nat) (o1 : Nat) (a1 : OA) (n1 : Nat) (dyk1 : Nat) (h : PHeap) (Q : Value → PHeap → Prop) : Prop :=
 ∀ (b1 : Nat), h b1 = none → ∀ (h_1 : PHeap), h_1 = h.put b1 (.cells ⟨[vP p1 o1]⟩ 127) →
 Tri Tryz.prog 146 [vL a1 n1 dyk1, vF 147 [] [vP b1 0]] h_1 fun v_1 h_2 =>
 ∃ (c1 : Bool), v_1 = vB c1 ∧
 Q (vB (!c1)) h_2
theorem T100 {p1 : Nat} {o1 : Nat} {a1 : OA} {n1 : Nat} {dyk1 : Nat} {h : PHeap} {Q : Value → PHeap → Prop} (hR : R100 p1 o1 a1 n1 dyk1 h Q) : Tri Tryz.prog 100 [vP p1 o1, vL a1 n1 dyk1] h Q :=
 tri_of_dn mixed Tryz.func100 rfl (by kernel_rfl) low100 (rs := [.tmp 4]) (by kernel_rfl) rfl (Eq.mpr (by kernel_rfl : dnF Tryz.prog Tryz.f100.ntmps d100 [.tmp 4] [vP p1 o1, vL a1 n1 dyk1] h Q = R100 p1 o1 a1 n1 dyk1 h Q) hR)
noncomputable def d101 : DCode := up ⟨[(8, .c (.tup [(false, [qi]), (false, [qi]), (false, [.bool])]))], [], []⟩ (low Tryz.prog (fun _ => false) (Tryz.f101.body.getD .skip))
theorem low101 : low Tryz.prog (fun _ => false) (Tryz.f101.body.getD .skip) = some (eC d101) := by kernel_rfl
def R101 (l1 : Bs) (h : PHeap) (Q : Value → PHeap → Prop) : Prop :=
 Tri Tryz.prog 24 [vS l1] h fun v_1 h_1 =>
 ∃ (i1 i2 : Int) (c1 : Bool), v_1 = vT [vI i1, vI i2, vB c1] ∧
 Q (vB c1) h_1
theorem T101 {l1 : Bs} {h : PHeap} {Q : Value → PHeap → Prop} (hR : R101 l1 h Q) : Tri Tryz.prog 101 [vS l1] h Q :=
 tri_of_dn mixed Tryz.func101 rfl (by kernel_rfl) low101 (rs := [.tmp 2]) (by kernel_rfl) rfl (Eq.mpr (by kernel_rfl : dnF Tryz.prog Tryz.f101.ntmps d101 [.tmp 2] [vS l1] h Q = R101 l1 h Q) hR)
abbrev o103_10 : Op := .call { callee := (.builtin .append), args := #[(.tmp 78), (.tmp 81)], argTypes := #[51, 51] }
noncomputable def d103 : DCode := up ⟨[(9, .l [qi]), (15, .l [.str]), (17, .l [qi]), (20, .l [qi]), (22, .l [qi]), (23, .c (.tup [])), (31, .l [qi]), (33, .l [qi]), (34, .c (.tup [])), (36, .l [.slice]), (41, .l dyk1), (43, .l dyk1), (44, .c (.tup [])), (47, .l [qi]), (54, .l [.slice]), (56, .l [.str]), (57, .c (.one false [.bool])), (59, .l [qi]), (61, .l [qi]), (62, .c (.tup [])), (67, .l [qi]), (70, .l [qi]), (72, .l [qi]), (73, .c (.tup [])), (78, .l [.slice]), (80, .l [.str]), (82, .c (.one false [.slice])), (88, .l [qi]), (96, .l [.slice]), (98, .c (.tup [])), (101, .l [.slice]), (103, .c (.tup [])), (108, .l [.slice]), (109, .c (.tup []))], [84, 91], [(39, 9, [(38, qi)], [])]⟩ (low Tryz.prog (fun _ => false) (Tryz.f103.body.getD .skip))
theorem low103 : low Tryz.prog (fun _ => false) (Tryz.f103.body.getD .skip) = some (eC d103) := by kernel_rfl
def R103 (p1 : Nat) (o1 : Nat) (i1 : Int) (l1 : Bs) (a1 : OA) (n1 : Nat) (dyk1 : Nat) (a2 : OA) (n2 : Nat) (dyk2 : Nat) (a3 : OA) (n3 : Nat) (dyk3 : Nat) (i2 : Int) (i3 : Int) (c1 : Bool) (h : PHeap) (Q : Value → PHeap → Prop) : Prop :=
 br (i1 == 2)
 (Tri Tryz.prog 150 [vP p1 o1, vS l1, vB (i1 == 3), vI i2, vI i3] h fun v_1 h_1 =>
 v_1 = vT [] ∧
 ∃ (I_1 : Nat → Int → PHeap → Prop), (∃ (m2 : Nat), I_1 m2 (0 : Int) h_1) ∧
 ∀ (m1 : Nat) (i4 : Int) (h_2 : PHeap), I_1 m1 i4 h_2 →
 br (decide (i4 < ((n1 : Nat) : Int)))
 (∃ (b1 o2 : Nat), a1 = some ⟨b1, o2, none⟩ ∧ (0 ≤ i4 ∧ i4 < n1) ∧
 ∃ (i5 : Int) (l2 l3 : Bs) (i6 : Int) (l4 : Bs) (a4 : OA) (n4 dyk4 : Nat) (i7 i8 : Int), h_2.row b1 (o2 + (i4).toNat * 8) [vI i5, vS l2, vS l3, vI i6, vS l4, vL a4 n4 dyk4, vI i7, vI i8] ∧
 Tri Tryz.prog 151 [vP p1 o1, vA [vI i5, vS l2, vS l3, vI i6, vS l4, vL a4 n4 dyk4, vI i7, vI i8]] h_2 fun v_2 h_3 =>
 v_2 = vT [] ∧
 ∃ (m3 : Nat), m3 < m1 ∧ I_1 m3 (IntKind.i64.wrap (i4 + 1)) h_3 ∧
 tv [vI i1, vS l1, vL a1 n1 dyk1, vL a2 n2 dyk2, vL a3 n3 dyk3, vI i2, vI i3] ∧ True)
 (br (i1 == 1)
 (∃ (a5 : OA) (n5 k5 : Nat), h_2.cell p1 (o1 + 2) = some (vL a5 n5 k5) ∧
 Tri Tryz.prog 102 [vL a5 n5 k5, vS l1] h_2 fun v_3 h_4 =>
 ∃ (c2 : Bool), v_3 = vB c2 ∧
 (tv [vI i3]) ∧
 (tv [vI i2]) ∧
 Tri Tryz.prog 59 [vP p1 o1, vB c2, vI i2, vI i3, vI 7] h_4 fun v_4 h_5 =>
 v_4 = vT [] ∧
 ∃ (i9 : Int), h_5.cell p1 (o1 + 3) = some (vI i9) ∧
 Tri Tryz.prog 59 [vP p1 o1, vB (decide (i9 ≥ 32)), vI i2, vI i3, vI 9] h_5 fun v_5 h_6 =>
 v_5 = vT [] ∧
 (h_6.cell p1 (o1 + 3) = some (vI i9)) ∧
 ∃ (a6 : OA) (n6 k6 : Nat), h_6.cell p1 (o1 + 2) = some (vL a6 n6 k6) ∧
 ∀ (b2 : Nat), h_6 b2 = none → ∀ (h_7 : PHeap), h_7 = h_6.put b2 (.cells ⟨[vS l1]⟩ 9) →
 (h_7.cell p1 (o1 + 2) = some (vL a6 n6 k6)) ∧
 Raw Tryz.prog (execOp (rho [(78, vL a6 n6 k6), (81, vL (ad b2 0) 1 1)]) (mkO o103_10 51)) h_7 fun v_6 h_8 =>
 ∃ (a7 : OA) (n7 k7 : Nat), v_6 = vL a7 n7 k7 ∧
 ∃ (l5 : List Value) (t1 : TypeId) (z1 : Nat × Nat), h_8 p1 = some (.cells ⟨l5⟩ t1 z1) ∧ ((o1 + 2) + 1 ≤ l5.length ∧ z1.2 ≤ (o1 + 2)) ∧
 ∀ (h_9 : PHeap), h_9 = h_8.put p1 (.cells ⟨splice l5 (o1 + 2) [vL a7 n7 k7]⟩ t1 z1) →
 ∃ (i10 : Int), h_9.cell p1 (o1 + 3) = some (vI i10) ∧
 ∃ (l6 : List Value) (t2 : TypeId) (z2 : Nat × Nat), h_9 p1 = some (.cells ⟨l6⟩ t2 z2) ∧ ((o1 + 3) + 1 ≤ l6.length ∧ z2.2 ≤ (o1 + 3)) ∧
 ∀ (h_10 : PHeap), h_10 = h_9.put p1 (.cells ⟨splice l6 (o1 + 3) [vI (IntKind.i64.wrap (i10 + 1))]⟩ t2 z2) →
 Q (vT []) h_10)
 (br (i1 == 5)
 (Tri Tryz.prog 61 [vP p1 o1, vL a2 n2 dyk2, vB c1] h_2 fun v_7 h_11 =>
 v_7 = vT [] ∧
 Tri Tryz.prog 61 [vP p1 o1, vL a3 n3 dyk3, vB c1] h_11 fun v_8 h_12 =>
 v_8 = vT [] ∧
 Q (vT []) h_12)
 (br (i1 == 6)
 (Tri Tryz.prog 61 [vP p1 o1, vL a2 n2 dyk2, vB true] h_2 fun v_9 h_13 =>
 v_9 = vT [] ∧
 Q (vT []) h_13)
 (Q (vT []) h_2)))))
 (br (i1 == 3)
 (Tri Tryz.prog 150 [vP p1 o1, vS l1, vB (i1 == 3), vI i2, vI i3] h fun v_10 h_14 =>
 v_10 = vT [] ∧
 ∃ (I_2 : Nat → Int → PHeap → Prop), (∃ (m5 : Nat), I_2 m5 (0 : Int) h_14) ∧
 ∀ (m4 : Nat) (i11 : Int) (h_15 : PHeap), I_2 m4 i11 h_15 →
 br (decide (i11 < ((n1 : Nat) : Int)))
 (∃ (b3 o3 : Nat), a1 = some ⟨b3, o3, none⟩ ∧ (0 ≤ i11 ∧ i11 < n1) ∧
 ∃ (i12 : Int) (l7 l8 : Bs) (i13 : Int) (l9 : Bs) (a8 : OA) (n8 k8 : Nat) (i14 i15 : Int), h_15.row b3 (o3 + (i11).toNat * 8) [vI i12, vS l7, vS l8, vI i13, vS l9, vL a8 n8 k8, vI i14, vI i15] ∧
 Tri Tryz.prog 151 [vP p1 o1, vA [vI i12, vS l7, vS l8, vI i13, vS l9, vL a8 n8 k8, vI i14, vI i15]] h_15 fun v_11 h_16 =>
 v_11 = vT [] ∧
 ∃ (m6 : Nat), m6 < m4 ∧ I_2 m6 (IntKind.i64.wrap (i11 + 1)) h_16 ∧
 tv [vI i1, vS l1, vL a1 n1 dyk1, vL a2 n2 dyk2, vL a3 n3 dyk3, vI i2, vI i3] ∧ True)
 (br (i1 == 1)
 (∃ (a9 : OA) (n9 k9 : Nat), h_15.cell p1 (o1 + 2) = some (vL a9 n9 k9) ∧
 Tri Tryz.prog 102 [vL a9 n9 k9, vS l1] h_15 fun v_12 h_17 =>
 ∃ (c3 : Bool), v_12 = vB c3 ∧
 (tv [vI i3]) ∧
 (tv [vI i2]) ∧
 Tri Tryz.prog 59 [vP p1 o1, vB c3, vI i2, vI i3, vI 7] h_17 fun v_13 h_18 =>
 v_13 = vT [] ∧
 ∃ (i16 : Int), h_18.cell p1 (o1 + 3) = some (vI i16) ∧
 Tri Tryz.prog 59 [vP p1 o1, vB (decide (i16 ≥ 32)), vI i2, vI i3, vI 9] h_18 fun v_14 h_19 =>
 v_14 = vT [] ∧
 (h_19.cell p1 (o1 + 3) = some (vI i16)) ∧
 ∃ (a10 : OA) (n10 k10 : Nat), h_19.cell p1 (o1 + 2) = some (vL a10 n10 k10) ∧
 ∀ (b4 : Nat), h_19 b4 = none → ∀ (h_20 : PHeap), h_20 = h_19.put b4 (.cells ⟨[vS l1]⟩ 9) →
 (h_20.cell p1 (o1 + 2) = some (vL a10 n10 k10)) ∧
 Raw Tryz.prog (execOp (rho [(78, vL a10 n10 k10), (81, vL (ad b4 0) 1 1)]) (mkO o103_10 51)) h_20 fun v_15 h_21 =>
 ∃ (a11 : OA) (n11 k11 : Nat), v_15 = vL a11 n11 k11 ∧
 ∃ (l10 : List Value) (t3 : TypeId) (z3 : Nat × Nat), h_21 p1 = some (.cells ⟨l10⟩ t3 z3) ∧ ((o1 + 2) + 1 ≤ l10.length ∧ z3.2 ≤ (o1 + 2)) ∧
 ∀ (h_22 : PHeap), h_22 = h_21.put p1 (.cells ⟨splice l10 (o1 + 2) [vL a11 n11 k11]⟩ t3 z3) →
 ∃ (i17 : Int), h_22.cell p1 (o1 + 3) = some (vI i17) ∧
 ∃ (l11 : List Value) (t4 : TypeId) (z4 : Nat × Nat), h_22 p1 = some (.cells ⟨l11⟩ t4 z4) ∧ ((o1 + 3) + 1 ≤ l11.length ∧ z4.2 ≤ (o1 + 3)) ∧
 ∀ (h_23 : PHeap), h_23 = h_22.put p1 (.cells ⟨splice l11 (o1 + 3) [vI (IntKind.i64.wrap (i17 + 1))]⟩ t4 z4) →
 Q (vT []) h_23)
 (br (i1 == 5)
 (Tri Tryz.prog 61 [vP p1 o1, vL a2 n2 dyk2, vB c1] h_15 fun v_16 h_24 =>
 v_16 = vT [] ∧
 Tri Tryz.prog 61 [vP p1 o1, vL a3 n3 dyk3, vB c1] h_24 fun v_17 h_25 =>
 v_17 = vT [] ∧
 Q (vT []) h_25)
 (br (i1 == 6)
 (Tri Tryz.prog 61 [vP p1 o1, vL a2 n2 dyk2, vB true] h_15 fun v_18 h_26 =>
 v_18 = vT [] ∧
 Q (vT []) h_26)
 (Q (vT []) h_15)))))
 (br (i1 == 8)
 (Tri Tryz.prog 59 [vP p1 o1, vB (!c1), vI i2, vI i3, vI 10] h fun v_19 h_27 =>
 v_19 = vT [] ∧
 ∃ (I_3 : Nat → Int → PHeap → Prop), (∃ (m8 : Nat), I_3 m8 (0 : Int) h_27) ∧
 ∀ (m7 : Nat) (i18 : Int) (h_28 : PHeap), I_3 m7 i18 h_28 →
 br (decide (i18 < ((n1 : Nat) : Int)))
 (∃ (b5 o4 : Nat), a1 = some ⟨b5, o4, none⟩ ∧ (0 ≤ i18 ∧ i18 < n1) ∧
 ∃ (i19 : Int) (l12 l13 : Bs) (i20 : Int) (l14 : Bs) (a12 : OA) (n12 k12 : Nat) (i21 i22 : Int), h_28.row b5 (o4 + (i18).toNat * 8) [vI i19, vS l12, vS l13, vI i20, vS l14, vL a12 n12 k12, vI i21, vI i22] ∧
 Tri Tryz.prog 151 [vP p1 o1, vA [vI i19, vS l12, vS l13, vI i20, vS l14, vL a12 n12 k12, vI i21, vI i22]] h_28 fun v_20 h_29 =>
 v_20 = vT [] ∧
 ∃ (m9 : Nat), m9 < m7 ∧ I_3 m9 (IntKind.i64.wrap (i18 + 1)) h_29 ∧
 tv [vI i1, vS l1, vL a1 n1 dyk1, vL a2 n2 dyk2, vL a3 n3 dyk3, vI i2, vI i3] ∧ True)
 (br (i1 == 1)
 (∃ (a13 : OA) (n13 k13 : Nat), h_28.cell p1 (o1 + 2) = some (vL a13 n13 k13) ∧
 Tri Tryz.prog 102 [vL a13 n13 k13, vS l1] h_28 fun v_21 h_30 =>
 ∃ (c4 : Bool), v_21 = vB c4 ∧
 (tv [vI i3]) ∧
 (tv [vI i2]) ∧
 Tri Tryz.prog 59 [vP p1 o1, vB c4, vI i2, vI i3, vI 7] h_30 fun v_22 h_31 =>
 v_22 = vT [] ∧
 ∃ (i23 : Int), h_31.cell p1 (o1 + 3) = some (vI i23) ∧
 Tri Tryz.prog 59 [vP p1 o1, vB (decide (i23 ≥ 32)), vI i2, vI i3, vI 9] h_31 fun v_23 h_32 =>
 v_23 = vT [] ∧
 (h_32.cell p1 (o1 + 3) = some (vI i23)) ∧
 ∃ (a14 : OA) (n14 k14 : Nat), h_32.cell p1 (o1 + 2) = some (vL a14 n14 k14) ∧
 ∀ (b6 : Nat), h_32 b6 = none → ∀ (h_33 : PHeap), h_33 = h_32.put b6 (.cells ⟨[vS l1]⟩ 9) →
 (h_33.cell p1 (o1 + 2) = some (vL a14 n14 k14)) ∧
 Raw Tryz.prog (execOp (rho [(78, vL a14 n14 k14), (81, vL (ad b6 0) 1 1)]) (mkO o103_10 51)) h_33 fun v_24 h_34 =>
 ∃ (a15 : OA) (n15 k15 : Nat), v_24 = vL a15 n15 k15 ∧
 ∃ (l15 : List Value) (t5 : TypeId) (z5 : Nat × Nat), h_34 p1 = some (.cells ⟨l15⟩ t5 z5) ∧ ((o1 + 2) + 1 ≤ l15.length ∧ z5.2 ≤ (o1 + 2)) ∧
 ∀ (h_35 : PHeap), h_35 = h_34.put p1 (.cells ⟨splice l15 (o1 + 2) [vL a15 n15 k15]⟩ t5 z5) →
 ∃ (i24 : Int), h_35.cell p1 (o1 + 3) = some (vI i24) ∧
 ∃ (l16 : List Value) (t6 : TypeId) (z6 : Nat × Nat), h_35 p1 = some (.cells ⟨l16⟩ t6 z6) ∧ ((o1 + 3) + 1 ≤ l16.length ∧ z6.2 ≤ (o1 + 3)) ∧
 ∀ (h_36 : PHeap), h_36 = h_35.put p1 (.cells ⟨splice l16 (o1 + 3) [vI (IntKind.i64.wrap (i24 + 1))]⟩ t6 z6) →
 Q (vT []) h_36)
 (br (i1 == 5)
 (Tri Tryz.prog 61 [vP p1 o1, vL a2 n2 dyk2, vB c1] h_28 fun v_25 h_37 =>
 v_25 = vT [] ∧
 Tri Tryz.prog 61 [vP p1 o1, vL a3 n3 dyk3, vB c1] h_37 fun v_26 h_38 =>
 v_26 = vT [] ∧
 Q (vT []) h_38)
 (br (i1 == 6)
 (Tri Tryz.prog 61 [vP p1 o1, vL a2 n2 dyk2, vB true] h_28 fun v_27 h_39 =>
 v_27 = vT [] ∧
 Q (vT []) h_39)
 (Q (vT []) h_28)))))
 (br (i1 == 9)
 (Tri Tryz.prog 59 [vP p1 o1, vB (!c1), vI i2, vI i3, vI 10] h fun v_28 h_40 =>
 v_28 = vT [] ∧
 ∃ (I_4 : Nat → Int → PHeap → Prop), (∃ (m11 : Nat), I_4 m11 (0 : Int) h_40) ∧
 ∀ (m10 : Nat) (i25 : Int) (h_41 : PHeap), I_4 m10 i25 h_41 →
 br (decide (i25 < ((n1 : Nat) : Int)))
 (∃ (b7 o5 : Nat), a1 = some ⟨b7, o5, none⟩ ∧ (0 ≤ i25 ∧ i25 < n1) ∧
 ∃ (i26 : Int) (l17 l18 : Bs) (i27 : Int) (l19 : Bs) (a16 : OA) (n16 k16 : Nat) (i28 i29 : Int), h_41.row b7 (o5 + (i25).toNat * 8) [vI i26, vS l17, vS l18, vI i27, vS l19, vL a16 n16 k16, vI i28, vI i29] ∧
 Tri Tryz.prog 151 [vP p1 o1, vA [vI i26, vS l17, vS l18, vI i27, vS l19, vL a16 n16 k16, vI i28, vI i29]] h_41 fun v_29 h_42 =>
 v_29 = vT [] ∧
 ∃ (m12 : Nat), m12 < m10 ∧ I_4 m12 (IntKind.i64.wrap (i25 + 1)) h_42 ∧
 tv [vI i1, vS l1, vL a1 n1 dyk1, vL a2 n2 dyk2, vL a3 n3 dyk3, vI i2, vI i3] ∧ True)
 (br (i1 == 1)
 (∃ (a17 : OA) (n17 k17 : Nat), h_41.cell p1 (o1 + 2) = some (vL a17 n17 k17) ∧
 Tri Tryz.prog 102 [vL a17 n17 k17, vS l1] h_41 fun v_30 h_43 =>
 ∃ (c5 : Bool), v_30 = vB c5 ∧
 (tv [vI i3]) ∧
 (tv [vI i2]) ∧
 Tri Tryz.prog 59 [vP p1 o1, vB c5, vI i2, vI i3, vI 7] h_43 fun v_31 h_44 =>
 v_31 = vT [] ∧
 ∃ (i30 : Int), h_44.cell p1 (o1 + 3) = some (vI i30) ∧
 Tri Tryz.prog 59 [vP p1 o1, vB (decide (i30 ≥ 32)), vI i2, vI i3, vI 9] h_44 fun v_32 h_45 =>
 v_32 = vT [] ∧
 (h_45.cell p1 (o1 + 3) = some (vI i30)) ∧
 ∃ (a18 : OA) (n18 k18 : Nat), h_45.cell p1 (o1 + 2) = some (vL a18 n18 k18) ∧
 ∀ (b8 : Nat), h_45 b8 = none → ∀ (h_46 : PHeap), h_46 = h_45.put b8 (.cells ⟨[vS l1]⟩ 9) →
 (h_46.cell p1 (o1 + 2) = some (vL a18 n18 k18)) ∧
 Raw Tryz.prog (execOp (rho [(78, vL a18 n18 k18), (81, vL (ad b8 0) 1 1)]) (mkO o103_10 51)) h_46 fun v_33 h_47 =>
 ∃ (a19 : OA) (n19 k19 : Nat), v_33 = vL a19 n19 k19 ∧
 ∃ (l20 : List Value) (t7 : TypeId) (z7 : Nat × Nat), h_47 p1 = some (.cells ⟨l20⟩ t7 z7) ∧ ((o1 + 2) + 1 ≤ l20.length ∧ z7.2 ≤ (o1 + 2)) ∧
 ∀ (h_48 : PHeap), h_48 = h_47.put p1 (.cells ⟨splice l20 (o1 + 2) [vL a19 n19 k19]⟩ t7 z7) →
 ∃ (i31 : Int), h_48.cell p1 (o1 + 3) = some (vI i31) ∧
 ∃ (l21 : List Value) (t8 : TypeId) (z8 : Nat × Nat), h_48 p1 = some (.cells ⟨l21⟩ t8 z8) ∧ ((o1 + 3) + 1 ≤ l21.length ∧ z8.2 ≤ (o1 + 3)) ∧
 ∀ (h_49 : PHeap), h_49 = h_48.put p1 (.cells ⟨splice l21 (o1 + 3) [vI (IntKind.i64.wrap (i31 + 1))]⟩ t8 z8) →
 Q (vT []) h_49)
 (br (i1 == 5)
 (Tri Tryz.prog 61 [vP p1 o1, vL a2 n2 dyk2, vB c1] h_41 fun v_34 h_50 =>
 v_34 = vT [] ∧
 Tri Tryz.prog 61 [vP p1 o1, vL a3 n3 dyk3, vB c1] h_50 fun v_35 h_51 =>
 v_35 = vT [] ∧
 Q (vT []) h_51)
 (br (i1 == 6)
 (Tri Tryz.prog 61 [vP p1 o1, vL a2 n2 dyk2, vB true] h_41 fun v_36 h_52 =>
 v_36 = vT [] ∧
 Q (vT []) h_52)
 (Q (vT []) h_41)))))
 (∃ (I_5 : Nat → Int → PHeap → Prop), (∃ (m14 : Nat), I_5 m14 (0 : Int) h) ∧
 ∀ (m13 : Nat) (i32 : Int) (h_53 : PHeap), I_5 m13 i32 h_53 →
 br (decide (i32 < ((n1 : Nat) : Int)))
 (∃ (b9 o6 : Nat), a1 = some ⟨b9, o6, none⟩ ∧ (0 ≤ i32 ∧ i32 < n1) ∧
 ∃ (i33 : Int) (l22 l23 : Bs) (i34 : Int) (l24 : Bs) (a20 : OA) (n20 k20 : Nat) (i35 i36 : Int), h_53.row b9 (o6 + (i32).toNat * 8) [vI i33, vS l22, vS l23, vI i34, vS l24, vL a20 n20 k20, vI i35, vI i36] ∧
 Tri Tryz.prog 151 [vP p1 o1, vA [vI i33, vS l22, vS l23, vI i34, vS l24, vL a20 n20 k20, vI i35, vI i36]] h_53 fun v_37 h_54 =>
 v_37 = vT [] ∧
 ∃ (m15 : Nat), m15 < m13 ∧ I_5 m15 (IntKind.i64.wrap (i32 + 1)) h_54 ∧
 tv [vI i1, vS l1, vL a1 n1 dyk1, vL a2 n2 dyk2, vL a3 n3 dyk3, vI i2, vI i3] ∧ True)
 (br (i1 == 1)
 (∃ (a21 : OA) (n21 k21 : Nat), h_53.cell p1 (o1 + 2) = some (vL a21 n21 k21) ∧
 Tri Tryz.prog 102 [vL a21 n21 k21, vS l1] h_53 fun v_38 h_55 =>
 ∃ (c6 : Bool), v_38 = vB c6 ∧
 (tv [vI i3]) ∧
 (tv [vI i2]) ∧
 Tri Tryz.prog 59 [vP p1 o1, vB c6, vI i2, vI i3, vI 7] h_55 fun v_39 h_56 =>
 v_39 = vT [] ∧
 ∃ (i37 : Int), h_56.cell p1 (o1 + 3) = some (vI i37) ∧
 Tri Tryz.prog 59 [vP p1 o1, vB (decide (i37 ≥ 32)), vI i2, vI i3, vI 9] h_56 fun v_40 h_57 =>
 v_40 = vT [] ∧
 (h_57.cell p1 (o1 + 3) = some (vI i37)) ∧
 ∃ (a22 : OA) (n22 k22 : Nat), h_57.cell p1 (o1 + 2) = some (vL a22 n22 k22) ∧
 ∀ (b10 : Nat), h_57 b10 = none → ∀ (h_58 : PHeap), h_58 = h_57.put b10 (.cells ⟨[vS l1]⟩ 9) →
 (h_58.cell p1 (o1 + 2) = some (vL a22 n22 k22)) ∧
 Raw Tryz.prog (execOp (rho [(78, vL a22 n22 k22), (81, vL (ad b10 0) 1 1)]) (mkO o103_10 51)) h_58 fun v_41 h_59 =>
 ∃ (a23 : OA) (n23 k23 : Nat), v_41 = vL a23 n23 k23 ∧
 ∃ (l25 : List Value) (t9 : TypeId) (z9 : Nat × Nat), h_59 p1 = some (.cells ⟨l25⟩ t9 z9) ∧ ((o1 + 2) + 1 ≤ l25.length ∧ z9.2 ≤ (o1 + 2)) ∧
 ∀ (h_60 : PHeap), h_60 = h_59.put p1 (.cells ⟨splice l25 (o1 + 2) [vL a23 n23 k23]⟩ t9 z9) →
 ∃ (i38 : Int), h_60.cell p1 (o1 + 3) = some (vI i38) ∧
 ∃ (l26 : List Value) (t10 : TypeId) (z10 : Nat × Nat), h_60 p1 = some (.cells ⟨l26⟩ t10 z10) ∧ ((o1 + 3) + 1 ≤ l26.length ∧ z10.2 ≤ (o1 + 3)) ∧
 ∀ (h_61 : PHeap), h_61 = h_60.put p1 (.cells ⟨splice l26 (o1 + 3) [vI (IntKind.i64.wrap (i38 + 1))]⟩ t10 z10) →
 Q (vT []) h_61)
 (br (i1 == 5)
 (Tri Tryz.prog 61 [vP p1 o1, vL a2 n2 dyk2, vB c1] h_53 fun v_42 h_62 =>
 v_42 = vT [] ∧
 Tri Tryz.prog 61 [vP p1 o1, vL a3 n3 dyk3, vB c1] h_62 fun v_43 h_63 =>
 v_43 = vT [] ∧
 Q (vT []) h_63)
 (br (i1 == 6)
 (Tri Tryz.prog 61 [vP p1 o1, vL a2 n2 dyk2, vB true] h_53 fun v_44 h_64 =>
 v_44 = vT [] ∧
 Q (vT []) h_64)
 (Q (vT []) h_53))))))))
theorem T103 {p1 : Nat} {o1 : Nat} {i1 : Int} {l1 : Bs} {a1 : OA} {n1 : Nat} {dyk1 : Nat} {a2 : OA} {n2 : Nat} {dyk2 : Nat} {a3 : OA} {n3 : Nat} {dyk3 : Nat} {i2 : Int} {i3 : Int} {c1 : Bool} {h : PHeap} {Q : Value → PHeap → Prop} (hR : R103 p1 o1 i1 l1 a1 n1 dyk1 a2 n2 dyk2 a3 n3 dyk3 i2 i3 c1 h Q) : Tri Tryz.prog 103 [vP p1 o1, vA [vI i1, vS l1, vL a1 n1 dyk1, vL a2 n2 dyk2, vL a3 n3 dyk3, vI i2, vI i3], vB c1] h Q :=
 tri_of_dn mixed Tryz.func103 rfl (by kernel_rfl) low103 (rs := []) (by kernel_rfl) rfl (Eq.mpr (by kernel_rfl : dnF Tryz.prog Tryz.f103.ntmps d103 [] [vP p1 o1, vA [vI i1, vS l1, vL a1 n1 dyk1, vL a2 n2 dyk2, vL a3 n3 dyk3, vI i2, vI i3], vB c1] h Q = R103 p1 o1 i1 l1 a1 n1 dyk1 a2 n2 dyk2 a3 n3 dyk3 i2 i3 c1 h Q) hR)
noncomputable def d106 : DCode := up ⟨[(6, .l [qi]), (13, .l [qi])], [9], []⟩ (low Tryz.prog (fun _ => false) (Tryz.f106.body.getD .skip))
theorem low106 : low Tryz.prog (fun _ => false) (Tryz.f106.body.getD .skip) = some (eC d106) := by kernel_rfl
def R106 (p1 : Nat) (o1 : Nat) (h : PHeap) (Q : Value → PHeap → Prop) : Prop :=
 ∃ (i1 : Int), h.cell p1 o1 = some (vI i1) ∧
 ∃ (l1 : List Value) (t1 : TypeId) (z1 : Nat × Nat), h p1 = some (.cells ⟨l1⟩ t1 z1) ∧ (o1 + 1 ≤ l1.length ∧ z1.2 ≤ o1) ∧
 ∀ (h_1 : PHeap), h_1 = h.put p1 (.cells ⟨splice l1 o1 [vI (IntKind.i64.wrap (i1 - 1))]⟩ t1 z1) →
 ∃ (i2 : Int), h_1.cell p1 o1 = some (vI i2) ∧
 Q (vB (decide (i2 ≥ 0))) h_1
theorem T106 {p1 : Nat} {o1 : Nat} {h : PHeap} {Q : Value → PHeap → Prop} (hR : R106 p1 o1 h Q) : Tri Tryz.prog 106 [vP p1 o1] h Q :=
 tri_of_dn mixed Tryz.func106 rfl (by kernel_rfl) low106 (rs := [.tmp 2]) (by kernel_rfl) rfl (Eq.mpr (by kernel_rfl : dnF Tryz.prog Tryz.f106.ntmps d106 [.tmp 2] [vP p1 o1] h Q = R106 p1 o1 h Q) hR)
noncomputable def d107 : DCode := up ⟨[(7, .c (.one false [qi]))], [], []⟩ (low Tryz.prog (fun _ => false) (Tryz.f107.body.getD .skip))
theorem low107 : low Tryz.prog (fun _ => false) (Tryz.f107.body.getD .skip) = some (eC d107) := by kernel_rfl
def R107 (a1 : OA) (n1 : Nat) (dyk1 : Nat) (f1 : Nat) (x1 : List Value) (y1 : List Value) (h : PHeap) (Q : Value → PHeap → Prop) : Prop :=
 Tri Tryz.prog 153 [vL a1 n1 dyk1, vF f1 x1 y1] h fun v_1 h_1 =>
 ∃ (i1 : Int), v_1 = vI i1 ∧
 Q (vB (decide (i1 ≥ 0))) h_1
theorem T107 {a1 : OA} {n1 : Nat} {dyk1 : Nat} {f1 : Nat} {x1 : List Value} {y1 : List Value} {h : PHeap} {Q : Value → PHeap → Prop} (hR : R107 a1 n1 dyk1 f1 x1 y1 h Q) : Tri Tryz.prog 107 [vL a1 n1 dyk1, vF f1 x1 y1] h Q :=
 tri_of_dn mixed Tryz.func107 rfl (by kernel_rfl) low107 (rs := [.tmp 4]) (by kernel_rfl) rfl (Eq.mpr (by kernel_rfl : dnF Tryz.prog Tryz.f107.ntmps d107 [.tmp 4] [vL a1 n1 dyk1, vF f1 x1 y1] h Q = R107 a1 n1 dyk1 f1 x1 y1 h Q) hR)
noncomputable def d108 : DCode := up ⟨[(4, .l [.ptr]), (5, .l dyk1), (6, .c (.one false [.bool]))], [], []⟩ (low Tryz.prog (fun _ => false) (Tryz.f108.body.getD .skip))
theorem low108 : low Tryz.prog (fun _ => false) (Tryz.f108.body.getD .skip) = some (eC d108) := by kernel_rfl
def R108 (i1 : Int) (l1 : Bs) (l2 : Bs) (i2 : Int) (l3 : Bs) (a1 : OA) (n1 : Nat) (dyk1 : Nat) (i3 : Int) (i4 : Int) (p1 : Nat) (o1 : Nat) (h : PHeap) (Q : Value → PHeap → Prop) : Prop :=
 ∃ (p2 o2 : Nat), h.cell p1 o1 = some (vP p2 o2) ∧
 Tri Tryz.prog 66 [vP p2 o2, vA [vI i1, vS l1, vS l2, vI i2, vS l3, vL a1 n1 dyk1, vI i3, vI i4]] h fun v_1 h_1 =>
 ∃ (c1 : Bool), v_1 = vB c1 ∧
 Q (vB (!c1)) h_1
theorem T108 {i1 : Int} {l1 : Bs} {l2 : Bs} {i2 : Int} {l3 : Bs} {a1 : OA} {n1 : Nat} {dyk1 : Nat} {i3 : Int} {i4 : Int} {p1 : Nat} {o1 : Nat} {h : PHeap} {Q : Value → PHeap → Prop} (hR : R108 i1 l1 l2 i2 l3 a1 n1 dyk1 i3 i4 p1 o1 h Q) : Tri Tryz.prog 108 [vA [vI i1, vS l1, vS l2, vI i2, vS l3, vL a1 n1 dyk1, vI i3, vI i4], vP p1 o1] h Q :=
 tri_of_dn mixed Tryz.func108 rfl (by kernel_rfl) low108 (rs := [.tmp 3]) (by kernel_rfl) rfl (Eq.mpr (by kernel_rfl : dnF Tryz.prog Tryz.f108.ntmps d108 [.tmp 3] [vA [vI i1, vS l1, vS l2, vI i2, vS l3, vL a1 n1 dyk1, vI i3, vI i4], vP p1 o1] h Q = R108 i1 l1 l2 i2 l3 a1 n1 dyk1 i3 i4 p1 o1 h Q) hR)
noncomputable def d145 : DCode := up ⟨[(15, .l dyk3), (16, .c (.one false [.bool]))], [], [(9, 13, [(8, qi)], [])]⟩ (low Tryz.prog (fun _ => false) (Tryz.f145.body.getD .skip))
theorem low145 : low Tryz.prog (fun _ => false) (Tryz.f145.body.getD .skip) = some (eC d145) := by kernel_rfl
def R145 (a1 : OA) (n1 : Nat) (dyk1 : Nat) (f1 : Nat) (x1 : List Value) (y1 : List Value) (h : PHeap) (Q : Value → PHeap → Prop) : Prop :=
 ∃ (I_1 : Nat → Int → PHeap → Prop), (∃ (m2 : Nat), I_1 m2 (0 : Int) h) ∧
 ∀ (m1 : Nat) (i1 : Int) (h_1 : PHeap), I_1 m1 i1 h_1 →
 br (decide (i1 < ((n1 : Nat) : Int)))
 (∃ (b1 o1 : Nat), a1 = some ⟨b1, o1, none⟩ ∧ (0 ≤ i1 ∧ i1 < n1) ∧
 ∃ (l1 : Bs) (a2 : OA) (n2 dyk2 : Nat) (a3 : OA) (n3 dyk3 : Nat) (i2 i3 : Int), h_1.row b1 (o1 + (i1).toNat * 5) [vS l1, vL a2 n2 dyk2, vL a3 n3 dyk3, vI i2, vI i3] ∧
 Tri Tryz.prog f1 (x1 ++ [vA [vS l1, vL a2 n2 dyk2, vL a3 n3 dyk3, vI i2, vI i3]] ++ y1) h_1 fun v_1 h_2 =>
 ∃ (c1 : Bool), v_1 = vB c1 ∧
 br c1
 (Q (vI i1) h_2)
 (∃ (m3 : Nat), m3 < m1 ∧ I_1 m3 (IntKind.i64.wrap (i1 + 1)) h_2 ∧
 True))
 (Q (vI (-1)) h_1)
theorem T145 {a1 : OA} {n1 : Nat} {dyk1 : Nat} {f1 : Nat} {x1 : List Value} {y1 : List Value} {h : PHeap} {Q : Value → PHeap → Prop} (hR : R145 a1 n1 dyk1 f1 x1 y1 h Q) : Tri Tryz.prog 145 [vL a1 n1 dyk1, vF f1 x1 y1] h Q :=
 tri_of_dn mixed Tryz.func145 rfl (by kernel_rfl) low145 (rs := [.tmp 4]) (by kernel_rfl) rfl (Eq.mpr (by kernel_rfl : dnF Tryz.prog Tryz.f145.ntmps d145 [.tmp 4] [vL a1 n1 dyk1, vF f1 x1 y1] h Q = R145 a1 n1 dyk1 f1 x1 y1 h Q) hR)
noncomputable def d146 : DCode := up ⟨[(7, .c (.one false [qi]))], [], []⟩ (low Tryz.prog (fun _ => false) (Tryz.f146.body.getD .skip))
theorem low146 : low Tryz.prog (fun _ => false) (Tryz.f146.body.getD .skip) = some (eC d146) := by kernel_rfl
def R146 (a1 : OA) (n1 : Nat) (dyk1 : Nat) (f1 : Nat) (x1 : List Value) (y1 : List Value) (h : PHeap) (Q : Value → PHeap → Prop) : Prop :=
 Tri Tryz.prog 175 [vL a1 n1 dyk1, vF f1 x1 y1] h fun v_1 h_1 =>
 ∃ (i1 : Int), v_1 = vI i1 ∧
 Q (vB (decide (i1 ≥ 0))) h_1
theorem T146 {a1 : OA} {n1 : Nat} {dyk1 : Nat} {f1 : Nat} {x1 : List Value} {y1 : List Value} {h : PHeap} {Q : Value → PHeap → Prop} (hR : R146 a1 n1 dyk1 f1 x1 y1 h Q) : Tri Tryz.prog 146 [vL a1 n1 dyk1, vF f1 x1 y1] h Q :=
 tri_of_dn mixed Tryz.func146 rfl (by kernel_rfl) low146 (rs := [.tmp 4]) (by kernel_rfl) rfl (Eq.mpr (by kernel_rfl : dnF Tryz.prog Tryz.f146.ntmps d146 [.tmp 4] [vL a1 n1 dyk1, vF f1 x1 y1] h Q = R146 a1 n1 dyk1 f1 x1 y1 h Q) hR)
noncomputable def d147 : DCode := up ⟨[(4, .l [.ptr]), (5, .l dyk4), (6, .c (.one false [.bool]))], [], []⟩ (low Tryz.prog (fun _ => false) (Tryz.f147.body.getD .skip))
theorem low147 : low Tryz.prog (fun _ => false) (Tryz.f147.body.getD .skip) = some (eC d147) := by kernel_rfl
def R147 (i1 : Int) (l1 : Bs) (a1 : OA) (n1 : Nat) (dyk1 : Nat) (a2 : OA) (n2 : Nat) (dyk2 : Nat) (a3 : OA) (n3 : Nat) (dyk3 : Nat) (i2 : Int) (i3 : Int) (p1 : Nat) (o1 : Nat) (h : PHeap) (Q : Value → PHeap → Prop) : Prop :=
 ∃ (p2 o2 : Nat), h.cell p1 o1 = some (vP p2 o2) ∧
 Tri Tryz.prog 148 [vP p2 o2, vA [vI i1, vS l1, vL a1 n1 dyk1, vL a2 n2 dyk2, vL a3 n3 dyk3, vI i2, vI i3]] h fun v_1 h_1 =>
 ∃ (c1 : Bool), v_1 = vB c1 ∧
 Q (vB (!c1)) h_1
theorem T147 {i1 : Int} {l1 : Bs} {a1 : OA} {n1 : Nat} {dyk1 : Nat} {a2 : OA} {n2 : Nat} {dyk2 : Nat} {a3 : OA} {n3 : Nat} {dyk3 : Nat} {i2 : Int} {i3 : Int} {p1 : Nat} {o1 : Nat} {h : PHeap} {Q : Value → PHeap → Prop} (hR : R147 i1 l1 a1 n1 dyk1 a2 n2 dyk2 a3 n3 dyk3 i2 i3 p1 o1 h Q) : Tri Tryz.prog 147 [vA [vI i1, vS l1, vL a1 n1 dyk1, vL a2 n2 dyk2, vL a3 n3 dyk3, vI i2, vI i3], vP p1 o1] h Q :=
 tri_of_dn mixed Tryz.func147 rfl (by kernel_rfl) low147 (rs := [.tmp 3]) (by kernel_rfl) rfl (Eq.mpr (by kernel_rfl : dnF Tryz.prog Tryz.f147.ntmps d147 [.tmp 3] [vA [vI i1, vS l1, vL a1 n1 dyk1, vL a2 n2 dyk2, vL a3 n3 dyk3, vI i2, vI i3], vP p1 o1] h Q = R147 i1 l1 a1 n1 dyk1 a2 n2 dyk2 a3 n3 dyk3 i2 i3 p1 o1 h Q) hR)
abbrev o150_1 : Op := .lookup 111 (.tmp 24) (.tmp 25) true
noncomputable def d150 : DCode := up ⟨[(16, .l [.slice]), (18, .c (.one false [.bool])), (24, .l [.map]), (26, .c (.tup [(true, dyk2), (false, [.bool])])), (34, .c (.tup [])), (36, .l [qi]), (44, .c (.tup []))], [], []⟩ (low Tryz.prog (fun _ => false) (Tryz.f150.body.getD .skip))
theorem low150 : low Tryz.prog (fun _ => false) (Tryz.f150.body.getD .skip) = some (eC d150) := by kernel_rfl
def R150 (p1 : Nat) (o1 : Nat) (l1 : Bs) (c1 : Bool) (i1 : Int) (i2 : Int) (h : PHeap) (Q : Value → PHeap → Prop) : Prop :=
 ∃ (a1 : OA) (n1 dyk1 : Nat), h.cell p1 (o1 + 2) = some (vL a1 n1 dyk1) ∧
 Tri Tryz.prog 102 [vL a1 n1 dyk1, vS l1] h fun v_1 h_1 =>
 ∃ (c2 : Bool), v_1 = vB c2 ∧
 br (!c2)
 (∃ (m1 : Nat), h_1.cell p1 o1 = some (vM m1) ∧
 Raw Tryz.prog (execOp (rho [(24, vM m1), (25, vS l1)]) (mkO o150_1 181)) h_1 fun v_2 h_2 =>
 ∃ (l2 : Bs) (i3 i4 i5 i6 : Int) (c3 : Bool), v_2 = vT [vA [vS l2, vI i3, vI i4, vI i5, vI i6], vB c3] ∧
 Tri Tryz.prog 59 [vP p1 o1, vB (!c3), vI i1, vI i2, vI 37] h_2 fun v_3 h_3 =>
 v_3 = vT [] ∧
 Tri Tryz.prog 59 [vP p1 o1, vB (!(c1 == (i3 != 0))), vI i1, vI i2, vI 31] h_3 fun v_4 h_4 =>
 v_4 = vT [] ∧
 Q (vT []) h_4)
 (Tri Tryz.prog 59 [vP p1 o1, vB (!(c1 == false)), vI i1, vI i2, vI 31] h_1 fun v_5 h_5 =>
 v_5 = vT [] ∧
 Q (vT []) h_5)
theorem T150 {p1 : Nat} {o1 : Nat} {l1 : Bs} {c1 : Bool} {i1 : Int} {i2 : Int} {h : PHeap} {Q : Value → PHeap → Prop} (hR : R150 p1 o1 l1 c1 i1 i2 h Q) : Tri Tryz.prog 150 [vP p1 o1, vS l1, vB c1, vI i1, vI i2] h Q :=
 tri_of_dn mixed Tryz.func150 rfl (by kernel_rfl) low150 (rs := []) (by kernel_rfl) rfl (Eq.mpr (by kernel_rfl : dnF Tryz.prog Tryz.f150.ntmps d150 [] [vP p1 o1, vS l1, vB c1, vI i1, vI i2] h Q = R150 p1 o1 l1 c1 i1 i2 h Q) hR)
abbrev o151_8 : Op := .lookup 112 (.tmp 40) (.tmp 42) true
noncomputable def d151 : DCode := up ⟨[(10, .l [qi]), (16, .l [.str]), (18, .l [qi]), (21, .l [qi]), (23, .l [qi]), (24, .c (.tup [])), (29, .l [.str]), (30, .c (.tup [(false, [qi]), (false, [qi]), (false, [.bool])])), (40, .l [.map]), (42, .l [.str]), (43, .c (.tup [(false, [qi]), (false, [.bool])])), (51, .l [qi]), (53, .l [qi]), (54, .c (.tup [])), (57, .l [.slice]), (63, .l [.slice]), (69, .l [qi]), (71, .l [qi]), (72, .c (.tup [])), (74, .l [.slice]), (79, .l dyk1), (81, .l dyk1), (82, .c (.tup []))], [], [(77, 9, [(76, qi)], [])]⟩ (low Tryz.prog (fun _ => false) (Tryz.f151.body.getD .skip))
theorem low151 : low Tryz.prog (fun _ => false) (Tryz.f151.body.getD .skip) = some (eC d151) := by kernel_rfl
def R151 (p1 : Nat) (o1 : Nat) (i1 : Int) (l1 : Bs) (l2 : Bs) (i2 : Int) (l3 : Bs) (a1 : OA) (n1 : Nat) (dyk1 : Nat) (i3 : Int) (i4 : Int) (h : PHeap) (Q : Value → PHeap → Prop) : Prop :=
 br (i1 == 3)
 (Tri Tryz.prog 150 [vP p1 o1, vS l2, vB (i1 == 4), vI i3, vI i4] h fun v_1 h_1 =>
 v_1 = vT [] ∧
 ∃ (I_1 : Nat → Int → PHeap → Prop), (∃ (m2 : Nat), I_1 m2 (0 : Int) h_1) ∧
 ∀ (m1 : Nat) (i5 : Int) (h_2 : PHeap), I_1 m1 i5 h_2 →
 br (decide (i5 < ((n1 : Nat) : Int)))
 (∃ (b1 o2 : Nat), a1 = some ⟨b1, o2, none⟩ ∧ (0 ≤ i5 ∧ i5 < n1) ∧
 ∃ (i6 : Int) (l4 l5 : Bs) (i7 : Int) (l6 : Bs) (a2 : OA) (n2 dyk2 : Nat) (i8 i9 : Int), h_2.row b1 (o2 + (i5).toNat * 8) [vI i6, vS l4, vS l5, vI i7, vS l6, vL a2 n2 dyk2, vI i8, vI i9] ∧
 Tri Tryz.prog 151 [vP p1 o1, vA [vI i6, vS l4, vS l5, vI i7, vS l6, vL a2 n2 dyk2, vI i8, vI i9]] h_2 fun v_2 h_3 =>
 v_2 = vT [] ∧
 ∃ (m3 : Nat), m3 < m1 ∧ I_1 m3 (IntKind.i64.wrap (i5 + 1)) h_3 ∧
 tv [vI i1, vS l1, vS l2, vI i2, vS l3, vL a1 n1 dyk1, vI i3, vI i4] ∧ True)
 (Q (vT []) h_2))
 (br (i1 == 4)
 (Tri Tryz.prog 150 [vP p1 o1, vS l2, vB (i1 == 4), vI i3, vI i4] h fun v_3 h_4 =>
 v_3 = vT [] ∧
 ∃ (I_2 : Nat → Int → PHeap → Prop), (∃ (m5 : Nat), I_2 m5 (0 : Int) h_4) ∧
 ∀ (m4 : Nat) (i10 : Int) (h_5 : PHeap), I_2 m4 i10 h_5 →
 br (decide (i10 < ((n1 : Nat) : Int)))
 (∃ (b2 o3 : Nat), a1 = some ⟨b2, o3, none⟩ ∧ (0 ≤ i10 ∧ i10 < n1) ∧
 ∃ (i11 : Int) (l7 l8 : Bs) (i12 : Int) (l9 : Bs) (a3 : OA) (n3 dyk3 : Nat) (i13 i14 : Int), h_5.row b2 (o3 + (i10).toNat * 8) [vI i11, vS l7, vS l8, vI i12, vS l9, vL a3 n3 dyk3, vI i13, vI i14] ∧
 Tri Tryz.prog 151 [vP p1 o1, vA [vI i11, vS l7, vS l8, vI i12, vS l9, vL a3 n3 dyk3, vI i13, vI i14]] h_5 fun v_4 h_6 =>
 v_4 = vT [] ∧
 ∃ (m6 : Nat), m6 < m4 ∧ I_2 m6 (IntKind.i64.wrap (i10 + 1)) h_6 ∧
 tv [vI i1, vS l1, vS l2, vI i2, vS l3, vL a1 n1 dyk1, vI i3, vI i4] ∧ True)
 (Q (vT []) h_5))
 (br (i1 == 5)
 (Tri Tryz.prog 24 [vS l2] h fun v_5 h_7 =>
 ∃ (i15 i16 : Int) (c1 : Bool), v_5 = vT [vI i15, vI i16, vB c1] ∧
 br (!c1)
 (∃ (m7 : Nat), h_7.cell p1 (o1 + 1) = some (vM m7) ∧
 Raw Tryz.prog (execOp (rho [(40, vM m7), (42, vS l2)]) (mkO o151_8 117)) h_7 fun v_6 h_8 =>
 ∃ (i17 : Int) (c2 : Bool), v_6 = vT [vI i17, vB c2] ∧
 Tri Tryz.prog 59 [vP p1 o1, vB (!c2), vI i3, vI i4, vI 37] h_8 fun v_7 h_9 =>
 v_7 = vT [] ∧
 br (decide (((n1 : Nat) : Int) < i17))
 (Tri Tryz.prog 59 [vP p1 o1, vB true, vI i3, vI i4, vI 31] h_9 fun v_8 h_10 =>
 v_8 = vT [] ∧
 ∃ (I_3 : Nat → Int → PHeap → Prop), (∃ (m9 : Nat), I_3 m9 (0 : Int) h_10) ∧
 ∀ (m8 : Nat) (i18 : Int) (h_11 : PHeap), I_3 m8 i18 h_11 →
 br (decide (i18 < ((n1 : Nat) : Int)))
 (∃ (b3 o4 : Nat), a1 = some ⟨b3, o4, none⟩ ∧ (0 ≤ i18 ∧ i18 < n1) ∧
 ∃ (i19 : Int) (l10 l11 : Bs) (i20 : Int) (l12 : Bs) (a4 : OA) (n4 dyk4 : Nat) (i21 i22 : Int), h_11.row b3 (o4 + (i18).toNat * 8) [vI i19, vS l10, vS l11, vI i20, vS l12, vL a4 n4 dyk4, vI i21, vI i22] ∧
 Tri Tryz.prog 151 [vP p1 o1, vA [vI i19, vS l10, vS l11, vI i20, vS l12, vL a4 n4 dyk4, vI i21, vI i22]] h_11 fun v_9 h_12 =>
 v_9 = vT [] ∧
 ∃ (m10 : Nat), m10 < m8 ∧ I_3 m10 (IntKind.i64.wrap (i18 + 1)) h_12 ∧
 tv [vI i1, vS l1, vS l2, vI i2, vS l3, vL a1 n1 dyk1, vI i3, vI i4] ∧ True)
 (Q (vT []) h_11))
 (Tri Tryz.prog 59 [vP p1 o1, vB (decide (((n1 : Nat) : Int) > i17)), vI i3, vI i4, vI 31] h_9 fun v_10 h_13 =>
 v_10 = vT [] ∧
 ∃ (I_4 : Nat → Int → PHeap → Prop), (∃ (m12 : Nat), I_4 m12 (0 : Int) h_13) ∧
 ∀ (m11 : Nat) (i23 : Int) (h_14 : PHeap), I_4 m11 i23 h_14 →
 br (decide (i23 < ((n1 : Nat) : Int)))
 (∃ (b4 o5 : Nat), a1 = some ⟨b4, o5, none⟩ ∧ (0 ≤ i23 ∧ i23 < n1) ∧
 ∃ (i24 : Int) (l13 l14 : Bs) (i25 : Int) (l15 : Bs) (a5 : OA) (n5 k5 : Nat) (i26 i27 : Int), h_14.row b4 (o5 + (i23).toNat * 8) [vI i24, vS l13, vS l14, vI i25, vS l15, vL a5 n5 k5, vI i26, vI i27] ∧
 Tri Tryz.prog 151 [vP p1 o1, vA [vI i24, vS l13, vS l14, vI i25, vS l15, vL a5 n5 k5, vI i26, vI i27]] h_14 fun v_11 h_15 =>
 v_11 = vT [] ∧
 ∃ (m13 : Nat), m13 < m11 ∧ I_4 m13 (IntKind.i64.wrap (i23 + 1)) h_15 ∧
 tv [vI i1, vS l1, vS l2, vI i2, vS l3, vL a1 n1 dyk1, vI i3, vI i4] ∧ True)
 (Q (vT []) h_14)))
 (Tri Tryz.prog 59 [vP p1 o1, vB (!c1), vI i3, vI i4, vI 37] h_7 fun v_12 h_16 =>
 v_12 = vT [] ∧
 br (decide (((n1 : Nat) : Int) < i15))
 (Tri Tryz.prog 59 [vP p1 o1, vB true, vI i3, vI i4, vI 31] h_16 fun v_13 h_17 =>
 v_13 = vT [] ∧
 ∃ (I_5 : Nat → Int → PHeap → Prop), (∃ (m15 : Nat), I_5 m15 (0 : Int) h_17) ∧
 ∀ (m14 : Nat) (i28 : Int) (h_18 : PHeap), I_5 m14 i28 h_18 →
 br (decide (i28 < ((n1 : Nat) : Int)))
 (∃ (b5 o6 : Nat), a1 = some ⟨b5, o6, none⟩ ∧ (0 ≤ i28 ∧ i28 < n1) ∧
 ∃ (i29 : Int) (l16 l17 : Bs) (i30 : Int) (l18 : Bs) (a6 : OA) (n6 k6 : Nat) (i31 i32 : Int), h_18.row b5 (o6 + (i28).toNat * 8) [vI i29, vS l16, vS l17, vI i30, vS l18, vL a6 n6 k6, vI i31, vI i32] ∧
 Tri Tryz.prog 151 [vP p1 o1, vA [vI i29, vS l16, vS l17, vI i30, vS l18, vL a6 n6 k6, vI i31, vI i32]] h_18 fun v_14 h_19 =>
 v_14 = vT [] ∧
 ∃ (m16 : Nat), m16 < m14 ∧ I_5 m16 (IntKind.i64.wrap (i28 + 1)) h_19 ∧
 tv [vI i1, vS l1, vS l2, vI i2, vS l3, vL a1 n1 dyk1, vI i3, vI i4] ∧ True)
 (Q (vT []) h_18))
 (Tri Tryz.prog 59 [vP p1 o1, vB (decide (((n1 : Nat) : Int) > i16)), vI i3, vI i4, vI 31] h_16 fun v_15 h_20 =>
 v_15 = vT [] ∧
 ∃ (I_6 : Nat → Int → PHeap → Prop), (∃ (m18 : Nat), I_6 m18 (0 : Int) h_20) ∧
 ∀ (m17 : Nat) (i33 : Int) (h_21 : PHeap), I_6 m17 i33 h_21 →
 br (decide (i33 < ((n1 : Nat) : Int)))
 (∃ (b6 o7 : Nat), a1 = some ⟨b6, o7, none⟩ ∧ (0 ≤ i33 ∧ i33 < n1) ∧
 ∃ (i34 : Int) (l19 l20 : Bs) (i35 : Int) (l21 : Bs) (a7 : OA) (n7 k7 : Nat) (i36 i37 : Int), h_21.row b6 (o7 + (i33).toNat * 8) [vI i34, vS l19, vS l20, vI i35, vS l21, vL a7 n7 k7, vI i36, vI i37] ∧
 Tri Tryz.prog 151 [vP p1 o1, vA [vI i34, vS l19, vS l20, vI i35, vS l21, vL a7 n7 k7, vI i36, vI i37]] h_21 fun v_16 h_22 =>
 v_16 = vT [] ∧
 ∃ (m19 : Nat), m19 < m17 ∧ I_6 m19 (IntKind.i64.wrap (i33 + 1)) h_22 ∧
 tv [vI i1, vS l1, vS l2, vI i2, vS l3, vL a1 n1 dyk1, vI i3, vI i4] ∧ True)
 (Q (vT []) h_21))))
 (∃ (I_7 : Nat → Int → PHeap → Prop), (∃ (m21 : Nat), I_7 m21 (0 : Int) h) ∧
 ∀ (m20 : Nat) (i38 : Int) (h_23 : PHeap), I_7 m20 i38 h_23 →
 br (decide (i38 < ((n1 : Nat) : Int)))
 (∃ (b7 o8 : Nat), a1 = some ⟨b7, o8, none⟩ ∧ (0 ≤ i38 ∧ i38 < n1) ∧
 ∃ (i39 : Int) (l22 l23 : Bs) (i40 : Int) (l24 : Bs) (a8 : OA) (n8 k8 : Nat) (i41 i42 : Int), h_23.row b7 (o8 + (i38).toNat * 8) [vI i39, vS l22, vS l23, vI i40, vS l24, vL a8 n8 k8, vI i41, vI i42] ∧
 Tri Tryz.prog 151 [vP p1 o1, vA [vI i39, vS l22, vS l23, vI i40, vS l24, vL a8 n8 k8, vI i41, vI i42]] h_23 fun v_17 h_24 =>
 v_17 = vT [] ∧
 ∃ (m22 : Nat), m22 < m20 ∧ I_7 m22 (IntKind.i64.wrap (i38 + 1)) h_24 ∧
 tv [vI i1, vS l1, vS l2, vI i2, vS l3, vL a1 n1 dyk1, vI i3, vI i4] ∧ True)
 (Q (vT []) h_23))))
theorem T151 {p1 : Nat} {o1 : Nat} {i1 : Int} {l1 : Bs} {l2 : Bs} {i2 : Int} {l3 : Bs} {a1 : OA} {n1 : Nat} {dyk1 : Nat} {i3 : Int} {i4 : Int} {h : PHeap} {Q : Value → PHeap → Prop} (hR : R151 p1 o1 i1 l1 l2 i2 l3 a1 n1 dyk1 i3 i4 h Q) : Tri Tryz.prog 151 [vP p1 o1, vA [vI i1, vS l1, vS l2, vI i2, vS l3, vL a1 n1 dyk1, vI i3, vI i4]] h Q :=
 tri_of_dn mixed Tryz.func151 rfl (by kernel_rfl) low151 (rs := []) (by kernel_rfl) rfl (Eq.mpr (by kernel_rfl : dnF Tryz.prog Tryz.f151.ntmps d151 [] [vP p1 o1, vA [vI i1, vS l1, vS l2, vI i2, vS l3, vL a1 n1 dyk1, vI i3, vI i4]] h Q = R151 p1 o1 i1 l1 l2 i2 l3 a1 n1 dyk1 i3 i4 h Q) hR)
noncomputable def d153 : DCode := up ⟨[(15, .l dyk1), (16, .c (.one false [.bool]))], [], [(9, 13, [(8, qi)], [])]⟩ (low Tryz.prog (fun _ => false) (Tryz.f153.body.getD .skip))
theorem low153 : low Tryz.prog (fun _ => false) (Tryz.f153.body.getD .skip) = some (eC d153) := by kernel_rfl
def R153 (a1 : OA) (n1 : Nat) (dyk1 : Nat) (f1 : Nat) (x1 : List Value) (y1 : List Value) (h : PHeap) (Q : Value → PHeap → Prop) : Prop :=
 ∃ (I_1 : Nat → Int → PHeap → Prop), (∃ (m2 : Nat), I_1 m2 (0 : Int) h) ∧
 ∀ (m1 : Nat) (i1 : Int) (h_1 : PHeap), I_1 m1 i1 h_1 →
 br (decide (i1 < ((n1 : Nat) : Int)))
 (∃ (b1 o1 : Nat), a1 = some ⟨b1, o1, none⟩ ∧ (0 ≤ i1 ∧ i1 < n1) ∧
 ∃ (i2 : Int) (l1 l2 : Bs) (i3 : Int) (l3 : Bs) (a2 : OA) (n2 dyk2 : Nat) (i4 i5 : Int), h_1.row b1 (o1 + (i1).toNat * 8) [vI i2, vS l1, vS l2, vI i3, vS l3, vL a2 n2 dyk2, vI i4, vI i5] ∧
 Tri Tryz.prog f1 (x1 ++ [vA [vI i2, vS l1, vS l2, vI i3, vS l3, vL a2 n2 dyk2, vI i4, vI i5]] ++ y1) h_1 fun v_1 h_2 =>
 ∃ (c1 : Bool), v_1 = vB c1 ∧
 br c1
 (Q (vI i1) h_2)
 (∃ (m3 : Nat), m3 < m1 ∧ I_1 m3 (IntKind.i64.wrap (i1 + 1)) h_2 ∧
 True))
 (Q (vI (-1)) h_1)
theorem T153 {a1 : OA} {n1 : Nat} {dyk1 : Nat} {f1 : Nat} {x1 : List Value} {y1 : List Value} {h : PHeap} {Q : Value → PHeap → Prop} (hR : R153 a1 n1 dyk1 f1 x1 y1 h Q) : Tri Tryz.prog 153 [vL a1 n1 dyk1, vF f1 x1 y1] h Q :=
 tri_of_dn mixed Tryz.func153 rfl (by kernel_rfl) low153 (rs := [.tmp 4]) (by kernel_rfl) rfl (Eq.mpr (by kernel_rfl : dnF Tryz.prog Tryz.f153.ntmps d153 [.tmp 4] [vL a1 n1 dyk1, vF f1 x1 y1] h Q = R153 a1 n1 dyk1 f1 x1 y1 h Q) hR)
noncomputable def d175 : DCode := up ⟨[(15, .l dyk4), (16, .c (.one false [.bool]))], [], [(9, 13, [(8, qi)], [])]⟩ (low Tryz.prog (fun _ => false) (Tryz.f175.body.getD .skip))
theorem low175 : low Tryz.prog (fun _ => false) (Tryz.f175.body.getD .skip) = some (eC d175) := by kernel_rfl
def R175 (a1 : OA) (n1 : Nat) (dyk1 : Nat) (f1 : Nat) (x1 : List Value) (y1 : List Value) (h : PHeap) (Q : Value → PHeap → Prop) : Prop :=
 ∃ (I_1 : Nat → Int → PHeap → Prop), (∃ (m2 : Nat), I_1 m2 (0 : Int) h) ∧
 ∀ (m1 : Nat) (i1 : Int) (h_1 : PHeap), I_1 m1 i1 h_1 →
 br (decide (i1 < ((n1 : Nat) : Int)))
 (∃ (b1 o1 : Nat), a1 = some ⟨b1, o1, none⟩ ∧ (0 ≤ i1 ∧ i1 < n1) ∧
 ∃ (i2 : Int) (l1 : Bs) (a2 : OA) (n2 dyk2 : Nat) (a3 : OA) (n3 dyk3 : Nat) (a4 : OA) (n4 dyk4 : Nat) (i3 i4 : Int), h_1.row b1 (o1 + (i1).toNat * 7) [vI i2, vS l1, vL a2 n2 dyk2, vL a3 n3 dyk3, vL a4 n4 dyk4, vI i3, vI i4] ∧
 Tri Tryz.prog f1 (x1 ++ [vA [vI i2, vS l1, vL a2 n2 dyk2, vL a3 n3 dyk3, vL a4 n4 dyk4, vI i3, vI i4]] ++ y1) h_1 fun v_1 h_2 =>
 ∃ (c1 : Bool), v_1 = vB c1 ∧
 br c1
 (Q (vI i1) h_2)
 (∃ (m3 : Nat), m3 < m1 ∧ I_1 m3 (IntKind.i64.wrap (i1 + 1)) h_2 ∧
 True))
 (Q (vI (-1)) h_1)
theorem T175 {a1 : OA} {n1 : Nat} {dyk1 : Nat} {f1 : Nat} {x1 : List Value} {y1 : List Value} {h : PHeap} {Q : Value → PHeap → Prop} (hR : R175 a1 n1 dyk1 f1 x1 y1 h Q) : Tri Tryz.prog 175 [vL a1 n1 dyk1, vF f1 x1 y1] h Q :=
 tri_of_dn mixed Tryz.func175 rfl (by kernel_rfl) low175 (rs := [.tmp 4]) (by kernel_rfl) rfl (Eq.mpr (by kernel_rfl : dnF Tryz.prog Tryz.f175.ntmps d175 [.tmp 4] [vL a1 n1 dyk1, vF f1 x1 y1] h Q = R175 a1 n1 dyk1 f1 x1 y1 h Q) hR)
noncomputable def d176 : DCode := up ⟨[(4, .l [.ptr]), (5, .l dyk1), (6, .c (.one false [.bool]))], [], []⟩ (low Tryz.prog (fun _ => false) (Tryz.f176.body.getD .skip))
theorem low176 : low Tryz.prog (fun _ => false) (Tryz.f176.body.getD .skip) = some (eC d176) := by kernel_rfl
def R176 (i1 : Int) (l1 : Bs) (l2 : Bs) (i2 : Int) (l3 : Bs) (a1 : OA) (n1 : Nat) (dyk1 : Nat) (i3 : Int) (i4 : Int) (p1 : Nat) (o1 : Nat) (h : PHeap) (Q : Value → PHeap → Prop) : Prop :=
 ∃ (p2 o2 : Nat), h.cell p1 o1 = some (vP p2 o2) ∧
 Tri Tryz.prog 66 [vP p2 o2, vA [vI i1, vS l1, vS l2, vI i2, vS l3, vL a1 n1 dyk1, vI i3, vI i4]] h fun v_1 h_1 =>
 ∃ (c1 : Bool), v_1 = vB c1 ∧
 Q (vB (!c1)) h_1
theorem T176 {i1 : Int} {l1 : Bs} {l2 : Bs} {i2 : Int} {l3 : Bs} {a1 : OA} {n1 : Nat} {dyk1 : Nat} {i3 : Int} {i4 : Int} {p1 : Nat} {o1 : Nat} {h : PHeap} {Q : Value → PHeap → Prop} (hR : R176 i1 l1 l2 i2 l3 a1 n1 dyk1 i3 i4 p1 o1 h Q) : Tri Tryz.prog 176 [vA [vI i1, vS l1, vS l2, vI i2, vS l3, vL a1 n1 dyk1, vI i3, vI i4], vP p1 o1] h Q :=
 tri_of_dn mixed Tryz.func176 rfl (by kernel_rfl) low176 (rs := [.tmp 3]) (by kernel_rfl) rfl (Eq.mpr (by kernel_rfl : dnF Tryz.prog Tryz.f176.ntmps d176 [.tmp 3] [vA [vI i1, vS l1, vS l2, vI i2, vS l3, vL a1 n1 dyk1, vI i3, vI i4], vP p1 o1] h Q = R176 i1 l1 l2 i2 l3 a1 n1 dyk1 i3 i4 p1 o1 h Q) hR)
end Go.Proofs.D
namespace Go.Proofs.D
open Go Go.Den
set_option maxRecDepth 100000
set_option maxHeartbeats 4000000
noncomputable def d148 : DCode := up ⟨[(7, .l [.ptr]), (8, .c (.one false [.bool])), (11, .l [qi]), (26, .l [.slice]), (32, .l [.slice]), (38, .l [.slice]), (43, .l [qi]), (48, .l [qi]), (53, .l [.slice]), (58, .l [qi]), (63, .l [.slice]), (65, .c (.one false [.bool])), (68, .l [.ptr]), (70, .l [.slice]), (71, .c (.one false [.bool])), (74, .l [.ptr]), (76, .l [.slice]), (77, .c (.one false [.bool]))], [], []⟩ (low Tryz.prog (fun d => Nat.beq d 2) (Tryz.f148.body.getD .skip))
theorem low148 : low Tryz.prog (fun d => Nat.beq d 2) (Tryz.f148.body.getD .skip) = some (eC d148) := by kernel_rfl
def R148 (p1 : Nat) (o1 : Nat) (i1 : Int) (l1 : Bs) (a1 : OA) (n1 : Nat) (k1 : Nat) (a2 : OA) (n2 : Nat) (k2 : Nat) (a3 : OA) (n3 : Nat) (k3 : Nat) (i2 : Int) (i3 : Int) (h : PHeap) (Q : Value → PHeap → Prop) : Prop :=
 ∀ (b1 : Nat), h b1 = none → ∀ (h_1 : PHeap), h_1 = h.put b1 (.cells ⟨[vP p1 o1]⟩ 127) →
 ∃ (p2 o2 : Nat), h_1.cell b1 0 = some (vP p2 o2) ∧
 Tri Tryz.prog 106 [vP p2 o2] h_1 fun v_1 h_2 =>
 ∃ (c1 : Bool), v_1 = vB c1 ∧
 br (!c1)
 (Q (vB false) h_2)
 (br (i1 == 1)
 (br (decide (((n1 : Nat) : Int) < 0))
 (Q (vB false) h_2)
 (br (decide (((n1 : Nat) : Int) > 1))
 (Q (vB false) h_2)
 (br (decide (((n2 : Nat) : Int) > 0))
 (br (i1 != 5)
 (br (i1 != 6)
 (Q (vB false) h_2)
 (br (decide (((n3 : Nat) : Int) > 0))
 (br (i1 != 5)
 (Q (vB false) h_2)
 (Tri Tryz.prog 107 [vL a1 n1 k1, vF 176 [] [vP b1 0]] h_2 fun v_2 h_3 =>
 ∃ (c2 : Bool), v_2 = vB c2 ∧
 br (!c2)
 (∃ (p3 o3 : Nat), h_3.cell b1 0 = some (vP p3 o3) ∧
 Tri Tryz.prog 100 [vP p3 o3, vL a2 n2 k2] h_3 fun v_3 h_4 =>
 ∃ (c3 : Bool), v_3 = vB c3 ∧
 br c3
 (∃ (p4 o4 : Nat), h_4.cell b1 0 = some (vP p4 o4) ∧
 Tri Tryz.prog 100 [vP p4 o4, vL a3 n3 k3] h_4 fun v_4 h_5 =>
 ∃ (c4 : Bool), v_4 = vB c4 ∧
 Q (vB c4) h_5)
 (Q (vB false) h_4))
 (Q (vB false) h_3)))
 (Tri Tryz.prog 107 [vL a1 n1 k1, vF 176 [] [vP b1 0]] h_2 fun v_5 h_6 =>
 ∃ (c5 : Bool), v_5 = vB c5 ∧
 br (!c5)
 (∃ (p5 o5 : Nat), h_6.cell b1 0 = some (vP p5 o5) ∧
 Tri Tryz.prog 100 [vP p5 o5, vL a2 n2 k2] h_6 fun v_6 h_7 =>
 ∃ (c6 : Bool), v_6 = vB c6 ∧
 br c6
 (∃ (p6 o6 : Nat), h_7.cell b1 0 = some (vP p6 o6) ∧
 Tri Tryz.prog 100 [vP p6 o6, vL a3 n3 k3] h_7 fun v_7 h_8 =>
 ∃ (c7 : Bool), v_7 = vB c7 ∧
 Q (vB c7) h_8)
 (Q (vB false) h_7))
 (Q (vB false) h_6))))
 (br (decide (((n3 : Nat) : Int) > 0))
 (br (i1 != 5)
 (Q (vB false) h_2)
 (Tri Tryz.prog 107 [vL a1 n1 k1, vF 176 [] [vP b1 0]] h_2 fun v_8 h_9 =>
 ∃ (c8 : Bool), v_8 = vB c8 ∧
 br (!c8)
 (∃ (p7 o7 : Nat), h_9.cell b1 0 = some (vP p7 o7) ∧
 Tri Tryz.prog 100 [vP p7 o7, vL a2 n2 k2] h_9 fun v_9 h_10 =>
 ∃ (c9 : Bool), v_9 = vB c9 ∧
 br c9
 (∃ (p8 o8 : Nat), h_10.cell b1 0 = some (vP p8 o8) ∧
 Tri Tryz.prog 100 [vP p8 o8, vL a3 n3 k3] h_10 fun v_10 h_11 =>
 ∃ (c10 : Bool), v_10 = vB c10 ∧
 Q (vB c10) h_11)
 (Q (vB false) h_10))
 (Q (vB false) h_9)))
 (Tri Tryz.prog 107 [vL a1 n1 k1, vF 176 [] [vP b1 0]] h_2 fun v_11 h_12 =>
 ∃ (c11 : Bool), v_11 = vB c11 ∧
 br (!c11)
 (∃ (p9 o9 : Nat), h_12.cell b1 0 = some (vP p9 o9) ∧
 Tri Tryz.prog 100 [vP p9 o9, vL a2 n2 k2] h_12 fun v_12 h_13 =>
 ∃ (c12 : Bool), v_12 = vB c12 ∧
 br c12
 (∃ (p10 o10 : Nat), h_13.cell b1 0 = some (vP p10 o10) ∧
 Tri Tryz.prog 100 [vP p10 o10, vL a3 n3 k3] h_13 fun v_13 h_14 =>
 ∃ (c13 : Bool), v_13 = vB c13 ∧
 Q (vB c13) h_14)
 (Q (vB false) h_13))
 (Q (vB false) h_12))))
 (br (decide (((n3 : Nat) : Int) > 0))
 (br (i1 != 5)
 (Q (vB false) h_2)
 (Tri Tryz.prog 107 [vL a1 n1 k1, vF 176 [] [vP b1 0]] h_2 fun v_14 h_15 =>
 ∃ (c14 : Bool), v_14 = vB c14 ∧
 br (!c14)
 (∃ (p11 o11 : Nat), h_15.cell b1 0 = some (vP p11 o11) ∧
 Tri Tryz.prog 100 [vP p11 o11, vL a2 n2 k2] h_15 fun v_15 h_16 =>
 ∃ (c15 : Bool), v_15 = vB c15 ∧
 br c15
 (∃ (p12 o12 : Nat), h_16.cell b1 0 = some (vP p12 o12) ∧
 Tri Tryz.prog 100 [vP p12 o12, vL a3 n3 k3] h_16 fun v_16 h_17 =>
 ∃ (c16 : Bool), v_16 = vB c16 ∧
 Q (vB c16) h_17)
 (Q (vB false) h_16))
 (Q (vB false) h_15)))
 (Tri Tryz.prog 107 [vL a1 n1 k1, vF 176 [] [vP b1 0]] h_2 fun v_17 h_18 =>
 ∃ (c17 : Bool), v_17 = vB c17 ∧
 br (!c17)
 (∃ (p13 o13 : Nat), h_18.cell b1 0 = some (vP p13 o13) ∧
 Tri Tryz.prog 100 [vP p13 o13, vL a2 n2 k2] h_18 fun v_18 h_19 =>
 ∃ (c18 : Bool), v_18 = vB c18 ∧
 br c18
 (∃ (p14 o14 : Nat), h_19.cell b1 0 = some (vP p14 o14) ∧
 Tri Tryz.prog 100 [vP p14 o14, vL a3 n3 k3] h_19 fun v_19 h_20 =>
 ∃ (c19 : Bool), v_19 = vB c19 ∧
 Q (vB c19) h_20)
 (Q (vB false) h_19))
 (Q (vB false) h_18))))))
 (br (i1 == 7)
 (br (decide (((n1 : Nat) : Int) < 0))
 (Q (vB false) h_2)
 (br (decide (((n1 : Nat) : Int) > 1))
 (Q (vB false) h_2)
 (br (decide (((n2 : Nat) : Int) > 0))
 (br (i1 != 5)
 (br (i1 != 6)
 (Q (vB false) h_2)
 (br (decide (((n3 : Nat) : Int) > 0))
 (br (i1 != 5)
 (Q (vB false) h_2)
 (Tri Tryz.prog 107 [vL a1 n1 k1, vF 176 [] [vP b1 0]] h_2 fun v_20 h_21 =>
 ∃ (c20 : Bool), v_20 = vB c20 ∧
 br (!c20)
 (∃ (p15 o15 : Nat), h_21.cell b1 0 = some (vP p15 o15) ∧
 Tri Tryz.prog 100 [vP p15 o15, vL a2 n2 k2] h_21 fun v_21 h_22 =>
 ∃ (c21 : Bool), v_21 = vB c21 ∧
 br c21
 (∃ (p16 o16 : Nat), h_22.cell b1 0 = some (vP p16 o16) ∧
 Tri Tryz.prog 100 [vP p16 o16, vL a3 n3 k3] h_22 fun v_22 h_23 =>
 ∃ (c22 : Bool), v_22 = vB c22 ∧
 Q (vB c22) h_23)
 (Q (vB false) h_22))
 (Q (vB false) h_21)))
 (Tri Tryz.prog 107 [vL a1 n1 k1, vF 176 [] [vP b1 0]] h_2 fun v_23 h_24 =>
 ∃ (c23 : Bool), v_23 = vB c23 ∧
 br (!c23)
 (∃ (p17 o17 : Nat), h_24.cell b1 0 = some (vP p17 o17) ∧
 Tri Tryz.prog 100 [vP p17 o17, vL a2 n2 k2] h_24 fun v_24 h_25 =>
 ∃ (c24 : Bool), v_24 = vB c24 ∧
 br c24
 (∃ (p18 o18 : Nat), h_25.cell b1 0 = some (vP p18 o18) ∧
 Tri Tryz.prog 100 [vP p18 o18, vL a3 n3 k3] h_25 fun v_25 h_26 =>
 ∃ (c25 : Bool), v_25 = vB c25 ∧
 Q (vB c25) h_26)
 (Q (vB false) h_25))
 (Q (vB false) h_24))))
 (br (decide (((n3 : Nat) : Int) > 0))
 (br (i1 != 5)
 (Q (vB false) h_2)
 (Tri Tryz.prog 107 [vL a1 n1 k1, vF 176 [] [vP b1 0]] h_2 fun v_26 h_27 =>
 ∃ (c26 : Bool), v_26 = vB c26 ∧
 br (!c26)
 (∃ (p19 o19 : Nat), h_27.cell b1 0 = some (vP p19 o19) ∧
 Tri Tryz.prog 100 [vP p19 o19, vL a2 n2 k2] h_27 fun v_27 h_28 =>
 ∃ (c27 : Bool), v_27 = vB c27 ∧
 br c27
 (∃ (p20 o20 : Nat), h_28.cell b1 0 = some (vP p20 o20) ∧
 Tri Tryz.prog 100 [vP p20 o20, vL a3 n3 k3] h_28 fun v_28 h_29 =>
 ∃ (c28 : Bool), v_28 = vB c28 ∧
 Q (vB c28) h_29)
 (Q (vB false) h_28))
 (Q (vB false) h_27)))
 (Tri Tryz.prog 107 [vL a1 n1 k1, vF 176 [] [vP b1 0]] h_2 fun v_29 h_30 =>
 ∃ (c29 : Bool), v_29 = vB c29 ∧
 br (!c29)
 (∃ (p21 o21 : Nat), h_30.cell b1 0 = some (vP p21 o21) ∧
 Tri Tryz.prog 100 [vP p21 o21, vL a2 n2 k2] h_30 fun v_30 h_31 =>
 ∃ (c30 : Bool), v_30 = vB c30 ∧
 br c30
 (∃ (p22 o22 : Nat), h_31.cell b1 0 = some (vP p22 o22) ∧
 Tri Tryz.prog 100 [vP p22 o22, vL a3 n3 k3] h_31 fun v_31 h_32 =>
 ∃ (c31 : Bool), v_31 = vB c31 ∧
 Q (vB c31) h_32)
 (Q (vB false) h_31))
 (Q (vB false) h_30))))
 (br (decide (((n3 : Nat) : Int) > 0))
 (br (i1 != 5)
 (Q (vB false) h_2)
 (Tri Tryz.prog 107 [vL a1 n1 k1, vF 176 [] [vP b1 0]] h_2 fun v_32 h_33 =>
 ∃ (c32 : Bool), v_32 = vB c32 ∧
 br (!c32)
 (∃ (p23 o23 : Nat), h_33.cell b1 0 = some (vP p23 o23) ∧
 Tri Tryz.prog 100 [vP p23 o23, vL a2 n2 k2] h_33 fun v_33 h_34 =>
 ∃ (c33 : Bool), v_33 = vB c33 ∧
 br c33
 (∃ (p24 o24 : Nat), h_34.cell b1 0 = some (vP p24 o24) ∧
 Tri Tryz.prog 100 [vP p24 o24, vL a3 n3 k3] h_34 fun v_34 h_35 =>
 ∃ (c34 : Bool), v_34 = vB c34 ∧
 Q (vB c34) h_35)
 (Q (vB false) h_34))
 (Q (vB false) h_33)))
 (Tri Tryz.prog 107 [vL a1 n1 k1, vF 176 [] [vP b1 0]] h_2 fun v_35 h_36 =>
 ∃ (c35 : Bool), v_35 = vB c35 ∧
 br (!c35)
 (∃ (p25 o25 : Nat), h_36.cell b1 0 = some (vP p25 o25) ∧
 Tri Tryz.prog 100 [vP p25 o25, vL a2 n2 k2] h_36 fun v_36 h_37 =>
 ∃ (c36 : Bool), v_36 = vB c36 ∧
 br c36
 (∃ (p26 o26 : Nat), h_37.cell b1 0 = some (vP p26 o26) ∧
 Tri Tryz.prog 100 [vP p26 o26, vL a3 n3 k3] h_37 fun v_37 h_38 =>
 ∃ (c37 : Bool), v_37 = vB c37 ∧
 Q (vB c37) h_38)
 (Q (vB false) h_37))
 (Q (vB false) h_36))))))
 (br (i1 == 2)
 (br (decide (((n1 : Nat) : Int) < 1))
 (Q (vB false) h_2)
 (br (decide (((n1 : Nat) : Int) > 1))
 (Q (vB false) h_2)
 (br (decide (((n2 : Nat) : Int) > 0))
 (br (i1 != 5)
 (br (i1 != 6)
 (Q (vB false) h_2)
 (br (decide (((n3 : Nat) : Int) > 0))
 (br (i1 != 5)
 (Q (vB false) h_2)
 (Tri Tryz.prog 107 [vL a1 n1 k1, vF 176 [] [vP b1 0]] h_2 fun v_38 h_39 =>
 ∃ (c38 : Bool), v_38 = vB c38 ∧
 br (!c38)
 (∃ (p27 o27 : Nat), h_39.cell b1 0 = some (vP p27 o27) ∧
 Tri Tryz.prog 100 [vP p27 o27, vL a2 n2 k2] h_39 fun v_39 h_40 =>
 ∃ (c39 : Bool), v_39 = vB c39 ∧
 br c39
 (∃ (p28 o28 : Nat), h_40.cell b1 0 = some (vP p28 o28) ∧
 Tri Tryz.prog 100 [vP p28 o28, vL a3 n3 k3] h_40 fun v_40 h_41 =>
 ∃ (c40 : Bool), v_40 = vB c40 ∧
 Q (vB c40) h_41)
 (Q (vB false) h_40))
 (Q (vB false) h_39)))
 (Tri Tryz.prog 107 [vL a1 n1 k1, vF 176 [] [vP b1 0]] h_2 fun v_41 h_42 =>
 ∃ (c41 : Bool), v_41 = vB c41 ∧
 br (!c41)
 (∃ (p29 o29 : Nat), h_42.cell b1 0 = some (vP p29 o29) ∧
 Tri Tryz.prog 100 [vP p29 o29, vL a2 n2 k2] h_42 fun v_42 h_43 =>
 ∃ (c42 : Bool), v_42 = vB c42 ∧
 br c42
 (∃ (p30 o30 : Nat), h_43.cell b1 0 = some (vP p30 o30) ∧
 Tri Tryz.prog 100 [vP p30 o30, vL a3 n3 k3] h_43 fun v_43 h_44 =>
 ∃ (c43 : Bool), v_43 = vB c43 ∧
 Q (vB c43) h_44)
 (Q (vB false) h_43))
 (Q (vB false) h_42))))
 (br (decide (((n3 : Nat) : Int) > 0))
 (br (i1 != 5)
 (Q (vB false) h_2)
 (Tri Tryz.prog 107 [vL a1 n1 k1, vF 176 [] [vP b1 0]] h_2 fun v_44 h_45 =>
 ∃ (c44 : Bool), v_44 = vB c44 ∧
 br (!c44)
 (∃ (p31 o31 : Nat), h_45.cell b1 0 = some (vP p31 o31) ∧
 Tri Tryz.prog 100 [vP p31 o31, vL a2 n2 k2] h_45 fun v_45 h_46 =>
 ∃ (c45 : Bool), v_45 = vB c45 ∧
 br c45
 (∃ (p32 o32 : Nat), h_46.cell b1 0 = some (vP p32 o32) ∧
 Tri Tryz.prog 100 [vP p32 o32, vL a3 n3 k3] h_46 fun v_46 h_47 =>
 ∃ (c46 : Bool), v_46 = vB c46 ∧
 Q (vB c46) h_47)
 (Q (vB false) h_46))
 (Q (vB false) h_45)))
 (Tri Tryz.prog 107 [vL a1 n1 k1, vF 176 [] [vP b1 0]] h_2 fun v_47 h_48 =>
 ∃ (c47 : Bool), v_47 = vB c47 ∧
 br (!c47)
 (∃ (p33 o33 : Nat), h_48.cell b1 0 = some (vP p33 o33) ∧
 Tri Tryz.prog 100 [vP p33 o33, vL a2 n2 k2] h_48 fun v_48 h_49 =>
 ∃ (c48 : Bool), v_48 = vB c48 ∧
 br c48
 (∃ (p34 o34 : Nat), h_49.cell b1 0 = some (vP p34 o34) ∧
 Tri Tryz.prog 100 [vP p34 o34, vL a3 n3 k3] h_49 fun v_49 h_50 =>
 ∃ (c49 : Bool), v_49 = vB c49 ∧
 Q (vB c49) h_50)
 (Q (vB false) h_49))
 (Q (vB false) h_48))))
 (br (decide (((n3 : Nat) : Int) > 0))
 (br (i1 != 5)
 (Q (vB false) h_2)
 (Tri Tryz.prog 107 [vL a1 n1 k1, vF 176 [] [vP b1 0]] h_2 fun v_50 h_51 =>
 ∃ (c50 : Bool), v_50 = vB c50 ∧
 br (!c50)
 (∃ (p35 o35 : Nat), h_51.cell b1 0 = some (vP p35 o35) ∧
 Tri Tryz.prog 100 [vP p35 o35, vL a2 n2 k2] h_51 fun v_51 h_52 =>
 ∃ (c51 : Bool), v_51 = vB c51 ∧
 br c51
 (∃ (p36 o36 : Nat), h_52.cell b1 0 = some (vP p36 o36) ∧
 Tri Tryz.prog 100 [vP p36 o36, vL a3 n3 k3] h_52 fun v_52 h_53 =>
 ∃ (c52 : Bool), v_52 = vB c52 ∧
 Q (vB c52) h_53)
 (Q (vB false) h_52))
 (Q (vB false) h_51)))
 (Tri Tryz.prog 107 [vL a1 n1 k1, vF 176 [] [vP b1 0]] h_2 fun v_53 h_54 =>
 ∃ (c53 : Bool), v_53 = vB c53 ∧
 br (!c53)
 (∃ (p37 o37 : Nat), h_54.cell b1 0 = some (vP p37 o37) ∧
 Tri Tryz.prog 100 [vP p37 o37, vL a2 n2 k2] h_54 fun v_54 h_55 =>
 ∃ (c54 : Bool), v_54 = vB c54 ∧
 br c54
 (∃ (p38 o38 : Nat), h_55.cell b1 0 = some (vP p38 o38) ∧
 Tri Tryz.prog 100 [vP p38 o38, vL a3 n3 k3] h_55 fun v_55 h_56 =>
 ∃ (c55 : Bool), v_55 = vB c55 ∧
 Q (vB c55) h_56)
 (Q (vB false) h_55))
 (Q (vB false) h_54))))))
 (br (i1 == 4)
 (br (decide (((n1 : Nat) : Int) < 1))
 (Q (vB false) h_2)
 (br (decide (((n1 : Nat) : Int) > 1))
 (Q (vB false) h_2)
 (br (decide (((n2 : Nat) : Int) > 0))
 (br (i1 != 5)
 (br (i1 != 6)
 (Q (vB false) h_2)
 (br (decide (((n3 : Nat) : Int) > 0))
 (br (i1 != 5)
 (Q (vB false) h_2)
 (Tri Tryz.prog 107 [vL a1 n1 k1, vF 176 [] [vP b1 0]] h_2 fun v_56 h_57 =>
 ∃ (c56 : Bool), v_56 = vB c56 ∧
 br (!c56)
 (∃ (p39 o39 : Nat), h_57.cell b1 0 = some (vP p39 o39) ∧
 Tri Tryz.prog 100 [vP p39 o39, vL a2 n2 k2] h_57 fun v_57 h_58 =>
 ∃ (c57 : Bool), v_57 = vB c57 ∧
 br c57
 (∃ (p40 o40 : Nat), h_58.cell b1 0 = some (vP p40 o40) ∧
 Tri Tryz.prog 100 [vP p40 o40, vL a3 n3 k3] h_58 fun v_58 h_59 =>
 ∃ (c58 : Bool), v_58 = vB c58 ∧
 Q (vB c58) h_59)
 (Q (vB false) h_58))
 (Q (vB false) h_57)))
 (Tri Tryz.prog 107 [vL a1 n1 k1, vF 176 [] [vP b1 0]] h_2 fun v_59 h_60 =>
 ∃ (c59 : Bool), v_59 = vB c59 ∧
 br (!c59)
 (∃ (p41 o41 : Nat), h_60.cell b1 0 = some (vP p41 o41) ∧
 Tri Tryz.prog 100 [vP p41 o41, vL a2 n2 k2] h_60 fun v_60 h_61 =>
 ∃ (c60 : Bool), v_60 = vB c60 ∧
 br c60
 (∃ (p42 o42 : Nat), h_61.cell b1 0 = some (vP p42 o42) ∧
 Tri Tryz.prog 100 [vP p42 o42, vL a3 n3 k3] h_61 fun v_61 h_62 =>
 ∃ (c61 : Bool), v_61 = vB c61 ∧
 Q (vB c61) h_62)
 (Q (vB false) h_61))
 (Q (vB false) h_60))))
 (br (decide (((n3 : Nat) : Int) > 0))
 (br (i1 != 5)
 (Q (vB false) h_2)
 (Tri Tryz.prog 107 [vL a1 n1 k1, vF 176 [] [vP b1 0]] h_2 fun v_62 h_63 =>
 ∃ (c62 : Bool), v_62 = vB c62 ∧
 br (!c62)
 (∃ (p43 o43 : Nat), h_63.cell b1 0 = some (vP p43 o43) ∧
 Tri Tryz.prog 100 [vP p43 o43, vL a2 n2 k2] h_63 fun v_63 h_64 =>
 ∃ (c63 : Bool), v_63 = vB c63 ∧
 br c63
 (∃ (p44 o44 : Nat), h_64.cell b1 0 = some (vP p44 o44) ∧
 Tri Tryz.prog 100 [vP p44 o44, vL a3 n3 k3] h_64 fun v_64 h_65 =>
 ∃ (c64 : Bool), v_64 = vB c64 ∧
 Q (vB c64) h_65)
 (Q (vB false) h_64))
 (Q (vB false) h_63)))
 (Tri Tryz.prog 107 [vL a1 n1 k1, vF 176 [] [vP b1 0]] h_2 fun v_65 h_66 =>
 ∃ (c65 : Bool), v_65 = vB c65 ∧
 br (!c65)
 (∃ (p45 o45 : Nat), h_66.cell b1 0 = some (vP p45 o45) ∧
 Tri Tryz.prog 100 [vP p45 o45, vL a2 n2 k2] h_66 fun v_66 h_67 =>
 ∃ (c66 : Bool), v_66 = vB c66 ∧
 br c66
 (∃ (p46 o46 : Nat), h_67.cell b1 0 = some (vP p46 o46) ∧
 Tri Tryz.prog 100 [vP p46 o46, vL a3 n3 k3] h_67 fun v_67 h_68 =>
 ∃ (c67 : Bool), v_67 = vB c67 ∧
 Q (vB c67) h_68)
 (Q (vB false) h_67))
 (Q (vB false) h_66))))
 (br (decide (((n3 : Nat) : Int) > 0))
 (br (i1 != 5)
 (Q (vB false) h_2)
 (Tri Tryz.prog 107 [vL a1 n1 k1, vF 176 [] [vP b1 0]] h_2 fun v_68 h_69 =>
 ∃ (c68 : Bool), v_68 = vB c68 ∧
 br (!c68)
 (∃ (p47 o47 : Nat), h_69.cell b1 0 = some (vP p47 o47) ∧
 Tri Tryz.prog 100 [vP p47 o47, vL a2 n2 k2] h_69 fun v_69 h_70 =>
 ∃ (c69 : Bool), v_69 = vB c69 ∧
 br c69
 (∃ (p48 o48 : Nat), h_70.cell b1 0 = some (vP p48 o48) ∧
 Tri Tryz.prog 100 [vP p48 o48, vL a3 n3 k3] h_70 fun v_70 h_71 =>
 ∃ (c70 : Bool), v_70 = vB c70 ∧
 Q (vB c70) h_71)
 (Q (vB false) h_70))
 (Q (vB false) h_69)))
 (Tri Tryz.prog 107 [vL a1 n1 k1, vF 176 [] [vP b1 0]] h_2 fun v_71 h_72 =>
 ∃ (c71 : Bool), v_71 = vB c71 ∧
 br (!c71)
 (∃ (p49 o49 : Nat), h_72.cell b1 0 = some (vP p49 o49) ∧
 Tri Tryz.prog 100 [vP p49 o49, vL a2 n2 k2] h_72 fun v_72 h_73 =>
 ∃ (c72 : Bool), v_72 = vB c72 ∧
 br c72
 (∃ (p50 o50 : Nat), h_73.cell b1 0 = some (vP p50 o50) ∧
 Tri Tryz.prog 100 [vP p50 o50, vL a3 n3 k3] h_73 fun v_73 h_74 =>
 ∃ (c73 : Bool), v_73 = vB c73 ∧
 Q (vB c73) h_74)
 (Q (vB false) h_73))
 (Q (vB false) h_72))))))
 (br (i1 == 5)
 (br (decide (((n1 : Nat) : Int) < 1))
 (Q (vB false) h_2)
 (br (decide (((n1 : Nat) : Int) > 1))
 (Q (vB false) h_2)
 (br (decide (((n2 : Nat) : Int) > 0))
 (br (i1 != 5)
 (br (i1 != 6)
 (Q (vB false) h_2)
 (br (decide (((n3 : Nat) : Int) > 0))
 (br (i1 != 5)
 (Q (vB false) h_2)
 (Tri Tryz.prog 107 [vL a1 n1 k1, vF 176 [] [vP b1 0]] h_2 fun v_74 h_75 =>
 ∃ (c74 : Bool), v_74 = vB c74 ∧
 br (!c74)
 (∃ (p51 o51 : Nat), h_75.cell b1 0 = some (vP p51 o51) ∧
 Tri Tryz.prog 100 [vP p51 o51, vL a2 n2 k2] h_75 fun v_75 h_76 =>
 ∃ (c75 : Bool), v_75 = vB c75 ∧
 br c75
 (∃ (p52 o52 : Nat), h_76.cell b1 0 = some (vP p52 o52) ∧
 Tri Tryz.prog 100 [vP p52 o52, vL a3 n3 k3] h_76 fun v_76 h_77 =>
 ∃ (c76 : Bool), v_76 = vB c76 ∧
 Q (vB c76) h_77)
 (Q (vB false) h_76))
 (Q (vB false) h_75)))
 (Tri Tryz.prog 107 [vL a1 n1 k1, vF 176 [] [vP b1 0]] h_2 fun v_77 h_78 =>
 ∃ (c77 : Bool), v_77 = vB c77 ∧
 br (!c77)
 (∃ (p53 o53 : Nat), h_78.cell b1 0 = some (vP p53 o53) ∧
 Tri Tryz.prog 100 [vP p53 o53, vL a2 n2 k2] h_78 fun v_78 h_79 =>
 ∃ (c78 : Bool), v_78 = vB c78 ∧
 br c78
 (∃ (p54 o54 : Nat), h_79.cell b1 0 = some (vP p54 o54) ∧
 Tri Tryz.prog 100 [vP p54 o54, vL a3 n3 k3] h_79 fun v_79 h_80 =>
 ∃ (c79 : Bool), v_79 = vB c79 ∧
 Q (vB c79) h_80)
 (Q (vB false) h_79))
 (Q (vB false) h_78))))
 (br (decide (((n3 : Nat) : Int) > 0))
 (br (i1 != 5)
 (Q (vB false) h_2)
 (Tri Tryz.prog 107 [vL a1 n1 k1, vF 176 [] [vP b1 0]] h_2 fun v_80 h_81 =>
 ∃ (c80 : Bool), v_80 = vB c80 ∧
 br (!c80)
 (∃ (p55 o55 : Nat), h_81.cell b1 0 = some (vP p55 o55) ∧
 Tri Tryz.prog 100 [vP p55 o55, vL a2 n2 k2] h_81 fun v_81 h_82 =>
 ∃ (c81 : Bool), v_81 = vB c81 ∧
 br c81
 (∃ (p56 o56 : Nat), h_82.cell b1 0 = some (vP p56 o56) ∧
 Tri Tryz.prog 100 [vP p56 o56, vL a3 n3 k3] h_82 fun v_82 h_83 =>
 ∃ (c82 : Bool), v_82 = vB c82 ∧
 Q (vB c82) h_83)
 (Q (vB false) h_82))
 (Q (vB false) h_81)))
 (Tri Tryz.prog 107 [vL a1 n1 k1, vF 176 [] [vP b1 0]] h_2 fun v_83 h_84 =>
 ∃ (c83 : Bool), v_83 = vB c83 ∧
 br (!c83)
 (∃ (p57 o57 : Nat), h_84.cell b1 0 = some (vP p57 o57) ∧
 Tri Tryz.prog 100 [vP p57 o57, vL a2 n2 k2] h_84 fun v_84 h_85 =>
 ∃ (c84 : Bool), v_84 = vB c84 ∧
 br c84
 (∃ (p58 o58 : Nat), h_85.cell b1 0 = some (vP p58 o58) ∧
 Tri Tryz.prog 100 [vP p58 o58, vL a3 n3 k3] h_85 fun v_85 h_86 =>
 ∃ (c85 : Bool), v_85 = vB c85 ∧
 Q (vB c85) h_86)
 (Q (vB false) h_85))
 (Q (vB false) h_84))))
 (br (decide (((n3 : Nat) : Int) > 0))
 (br (i1 != 5)
 (Q (vB false) h_2)
 (Tri Tryz.prog 107 [vL a1 n1 k1, vF 176 [] [vP b1 0]] h_2 fun v_86 h_87 =>
 ∃ (c86 : Bool), v_86 = vB c86 ∧
 br (!c86)
 (∃ (p59 o59 : Nat), h_87.cell b1 0 = some (vP p59 o59) ∧
 Tri Tryz.prog 100 [vP p59 o59, vL a2 n2 k2] h_87 fun v_87 h_88 =>
 ∃ (c87 : Bool), v_87 = vB c87 ∧
 br c87
 (∃ (p60 o60 : Nat), h_88.cell b1 0 = some (vP p60 o60) ∧
 Tri Tryz.prog 100 [vP p60 o60, vL a3 n3 k3] h_88 fun v_88 h_89 =>
 ∃ (c88 : Bool), v_88 = vB c88 ∧
 Q (vB c88) h_89)
 (Q (vB false) h_88))
 (Q (vB false) h_87)))
 (Tri Tryz.prog 107 [vL a1 n1 k1, vF 176 [] [vP b1 0]] h_2 fun v_89 h_90 =>
 ∃ (c89 : Bool), v_89 = vB c89 ∧
 br (!c89)
 (∃ (p61 o61 : Nat), h_90.cell b1 0 = some (vP p61 o61) ∧
 Tri Tryz.prog 100 [vP p61 o61, vL a2 n2 k2] h_90 fun v_90 h_91 =>
 ∃ (c90 : Bool), v_90 = vB c90 ∧
 br c90
 (∃ (p62 o62 : Nat), h_91.cell b1 0 = some (vP p62 o62) ∧
 Tri Tryz.prog 100 [vP p62 o62, vL a3 n3 k3] h_91 fun v_91 h_92 =>
 ∃ (c91 : Bool), v_91 = vB c91 ∧
 Q (vB c91) h_92)
 (Q (vB false) h_91))
 (Q (vB false) h_90))))))
 (br (i1 == 6)
 (br (decide (((n1 : Nat) : Int) < 1))
 (Q (vB false) h_2)
 (br (decide (((n1 : Nat) : Int) > 1))
 (Q (vB false) h_2)
 (br (decide (((n2 : Nat) : Int) > 0))
 (br (i1 != 5)
 (br (i1 != 6)
 (Q (vB false) h_2)
 (br (decide (((n3 : Nat) : Int) > 0))
 (br (i1 != 5)
 (Q (vB false) h_2)
 (Tri Tryz.prog 107 [vL a1 n1 k1, vF 176 [] [vP b1 0]] h_2 fun v_92 h_93 =>
 ∃ (c92 : Bool), v_92 = vB c92 ∧
 br (!c92)
 (∃ (p63 o63 : Nat), h_93.cell b1 0 = some (vP p63 o63) ∧
 Tri Tryz.prog 100 [vP p63 o63, vL a2 n2 k2] h_93 fun v_93 h_94 =>
 ∃ (c93 : Bool), v_93 = vB c93 ∧
 br c93
 (∃ (p64 o64 : Nat), h_94.cell b1 0 = some (vP p64 o64) ∧
 Tri Tryz.prog 100 [vP p64 o64, vL a3 n3 k3] h_94 fun v_94 h_95 =>
 ∃ (c94 : Bool), v_94 = vB c94 ∧
 Q (vB c94) h_95)
 (Q (vB false) h_94))
 (Q (vB false) h_93)))
 (Tri Tryz.prog 107 [vL a1 n1 k1, vF 176 [] [vP b1 0]] h_2 fun v_95 h_96 =>
 ∃ (c95 : Bool), v_95 = vB c95 ∧
 br (!c95)
 (∃ (p65 o65 : Nat), h_96.cell b1 0 = some (vP p65 o65) ∧
 Tri Tryz.prog 100 [vP p65 o65, vL a2 n2 k2] h_96 fun v_96 h_97 =>
 ∃ (c96 : Bool), v_96 = vB c96 ∧
 br c96
 (∃ (p66 o66 : Nat), h_97.cell b1 0 = some (vP p66 o66) ∧
 Tri Tryz.prog 100 [vP p66 o66, vL a3 n3 k3] h_97 fun v_97 h_98 =>
 ∃ (c97 : Bool), v_97 = vB c97 ∧
 Q (vB c97) h_98)
 (Q (vB false) h_97))
 (Q (vB false) h_96))))
 (br (decide (((n3 : Nat) : Int) > 0))
 (br (i1 != 5)
 (Q (vB false) h_2)
 (Tri Tryz.prog 107 [vL a1 n1 k1, vF 176 [] [vP b1 0]] h_2 fun v_98 h_99 =>
 ∃ (c98 : Bool), v_98 = vB c98 ∧
 br (!c98)
 (∃ (p67 o67 : Nat), h_99.cell b1 0 = some (vP p67 o67) ∧
 Tri Tryz.prog 100 [vP p67 o67, vL a2 n2 k2] h_99 fun v_99 h_100 =>
 ∃ (c99 : Bool), v_99 = vB c99 ∧
 br c99
 (∃ (p68 o68 : Nat), h_100.cell b1 0 = some (vP p68 o68) ∧
 Tri Tryz.prog 100 [vP p68 o68, vL a3 n3 k3] h_100 fun v_100 h_101 =>
 ∃ (c100 : Bool), v_100 = vB c100 ∧
 Q (vB c100) h_101)
 (Q (vB false) h_100))
 (Q (vB false) h_99)))
 (Tri Tryz.prog 107 [vL a1 n1 k1, vF 176 [] [vP b1 0]] h_2 fun v_101 h_102 =>
 ∃ (c101 : Bool), v_101 = vB c101 ∧
 br (!c101)
 (∃ (p69 o69 : Nat), h_102.cell b1 0 = some (vP p69 o69) ∧
 Tri Tryz.prog 100 [vP p69 o69, vL a2 n2 k2] h_102 fun v_102 h_103 =>
 ∃ (c102 : Bool), v_102 = vB c102 ∧
 br c102
 (∃ (p70 o70 : Nat), h_103.cell b1 0 = some (vP p70 o70) ∧
 Tri Tryz.prog 100 [vP p70 o70, vL a3 n3 k3] h_103 fun v_103 h_104 =>
 ∃ (c103 : Bool), v_103 = vB c103 ∧
 Q (vB c103) h_104)
 (Q (vB false) h_103))
 (Q (vB false) h_102))))
 (br (decide (((n3 : Nat) : Int) > 0))
 (br (i1 != 5)
 (Q (vB false) h_2)
 (Tri Tryz.prog 107 [vL a1 n1 k1, vF 176 [] [vP b1 0]] h_2 fun v_104 h_105 =>
 ∃ (c104 : Bool), v_104 = vB c104 ∧
 br (!c104)
 (∃ (p71 o71 : Nat), h_105.cell b1 0 = some (vP p71 o71) ∧
 Tri Tryz.prog 100 [vP p71 o71, vL a2 n2 k2] h_105 fun v_105 h_106 =>
 ∃ (c105 : Bool), v_105 = vB c105 ∧
 br c105
 (∃ (p72 o72 : Nat), h_106.cell b1 0 = some (vP p72 o72) ∧
 Tri Tryz.prog 100 [vP p72 o72, vL a3 n3 k3] h_106 fun v_106 h_107 =>
 ∃ (c106 : Bool), v_106 = vB c106 ∧
 Q (vB c106) h_107)
 (Q (vB false) h_106))
 (Q (vB false) h_105)))
 (Tri Tryz.prog 107 [vL a1 n1 k1, vF 176 [] [vP b1 0]] h_2 fun v_107 h_108 =>
 ∃ (c107 : Bool), v_107 = vB c107 ∧
 br (!c107)
 (∃ (p73 o73 : Nat), h_108.cell b1 0 = some (vP p73 o73) ∧
 Tri Tryz.prog 100 [vP p73 o73, vL a2 n2 k2] h_108 fun v_108 h_109 =>
 ∃ (c108 : Bool), v_108 = vB c108 ∧
 br c108
 (∃ (p74 o74 : Nat), h_109.cell b1 0 = some (vP p74 o74) ∧
 Tri Tryz.prog 100 [vP p74 o74, vL a3 n3 k3] h_109 fun v_109 h_110 =>
 ∃ (c109 : Bool), v_109 = vB c109 ∧
 Q (vB c109) h_110)
 (Q (vB false) h_109))
 (Q (vB false) h_108))))))
 (br (i1 == 3)
 (br (decide (((n1 : Nat) : Int) < 2))
 (Q (vB false) h_2)
 (br (decide (((n1 : Nat) : Int) > 2))
 (Q (vB false) h_2)
 (br (decide (((n2 : Nat) : Int) > 0))
 (br (i1 != 5)
 (br (i1 != 6)
 (Q (vB false) h_2)
 (br (decide (((n3 : Nat) : Int) > 0))
 (br (i1 != 5)
 (Q (vB false) h_2)
 (Tri Tryz.prog 107 [vL a1 n1 k1, vF 176 [] [vP b1 0]] h_2 fun v_110 h_111 =>
 ∃ (c110 : Bool), v_110 = vB c110 ∧
 br (!c110)
 (∃ (p75 o75 : Nat), h_111.cell b1 0 = some (vP p75 o75) ∧
 Tri Tryz.prog 100 [vP p75 o75, vL a2 n2 k2] h_111 fun v_111 h_112 =>
 ∃ (c111 : Bool), v_111 = vB c111 ∧
 br c111
 (∃ (p76 o76 : Nat), h_112.cell b1 0 = some (vP p76 o76) ∧
 Tri Tryz.prog 100 [vP p76 o76, vL a3 n3 k3] h_112 fun v_112 h_113 =>
 ∃ (c112 : Bool), v_112 = vB c112 ∧
 Q (vB c112) h_113)
 (Q (vB false) h_112))
 (Q (vB false) h_111)))
 (Tri Tryz.prog 107 [vL a1 n1 k1, vF 176 [] [vP b1 0]] h_2 fun v_113 h_114 =>
 ∃ (c113 : Bool), v_113 = vB c113 ∧
 br (!c113)
 (∃ (p77 o77 : Nat), h_114.cell b1 0 = some (vP p77 o77) ∧
 Tri Tryz.prog 100 [vP p77 o77, vL a2 n2 k2] h_114 fun v_114 h_115 =>
 ∃ (c114 : Bool), v_114 = vB c114 ∧
 br c114
 (∃ (p78 o78 : Nat), h_115.cell b1 0 = some (vP p78 o78) ∧
 Tri Tryz.prog 100 [vP p78 o78, vL a3 n3 k3] h_115 fun v_115 h_116 =>
 ∃ (c115 : Bool), v_115 = vB c115 ∧
 Q (vB c115) h_116)
 (Q (vB false) h_115))
 (Q (vB false) h_114))))
 (br (decide (((n3 : Nat) : Int) > 0))
 (br (i1 != 5)
 (Q (vB false) h_2)
 (Tri Tryz.prog 107 [vL a1 n1 k1, vF 176 [] [vP b1 0]] h_2 fun v_116 h_117 =>
 ∃ (c116 : Bool), v_116 = vB c116 ∧
 br (!c116)
 (∃ (p79 o79 : Nat), h_117.cell b1 0 = some (vP p79 o79) ∧
 Tri Tryz.prog 100 [vP p79 o79, vL a2 n2 k2] h_117 fun v_117 h_118 =>
 ∃ (c117 : Bool), v_117 = vB c117 ∧
 br c117
 (∃ (p80 o80 : Nat), h_118.cell b1 0 = some (vP p80 o80) ∧
 Tri Tryz.prog 100 [vP p80 o80, vL a3 n3 k3] h_118 fun v_118 h_119 =>
 ∃ (c118 : Bool), v_118 = vB c118 ∧
 Q (vB c118) h_119)
 (Q (vB false) h_118))
 (Q (vB false) h_117)))
 (Tri Tryz.prog 107 [vL a1 n1 k1, vF 176 [] [vP b1 0]] h_2 fun v_119 h_120 =>
 ∃ (c119 : Bool), v_119 = vB c119 ∧
 br (!c119)
 (∃ (p81 o81 : Nat), h_120.cell b1 0 = some (vP p81 o81) ∧
 Tri Tryz.prog 100 [vP p81 o81, vL a2 n2 k2] h_120 fun v_120 h_121 =>
 ∃ (c120 : Bool), v_120 = vB c120 ∧
 br c120
 (∃ (p82 o82 : Nat), h_121.cell b1 0 = some (vP p82 o82) ∧
 Tri Tryz.prog 100 [vP p82 o82, vL a3 n3 k3] h_121 fun v_121 h_122 =>
 ∃ (c121 : Bool), v_121 = vB c121 ∧
 Q (vB c121) h_122)
 (Q (vB false) h_121))
 (Q (vB false) h_120))))
 (br (decide (((n3 : Nat) : Int) > 0))
 (br (i1 != 5)
 (Q (vB false) h_2)
 (Tri Tryz.prog 107 [vL a1 n1 k1, vF 176 [] [vP b1 0]] h_2 fun v_122 h_123 =>
 ∃ (c122 : Bool), v_122 = vB c122 ∧
 br (!c122)
 (∃ (p83 o83 : Nat), h_123.cell b1 0 = some (vP p83 o83) ∧
 Tri Tryz.prog 100 [vP p83 o83, vL a2 n2 k2] h_123 fun v_123 h_124 =>
 ∃ (c123 : Bool), v_123 = vB c123 ∧
 br c123
 (∃ (p84 o84 : Nat), h_124.cell b1 0 = some (vP p84 o84) ∧
 Tri Tryz.prog 100 [vP p84 o84, vL a3 n3 k3] h_124 fun v_124 h_125 =>
 ∃ (c124 : Bool), v_124 = vB c124 ∧
 Q (vB c124) h_125)
 (Q (vB false) h_124))
 (Q (vB false) h_123)))
 (Tri Tryz.prog 107 [vL a1 n1 k1, vF 176 [] [vP b1 0]] h_2 fun v_125 h_126 =>
 ∃ (c125 : Bool), v_125 = vB c125 ∧
 br (!c125)
 (∃ (p85 o85 : Nat), h_126.cell b1 0 = some (vP p85 o85) ∧
 Tri Tryz.prog 100 [vP p85 o85, vL a2 n2 k2] h_126 fun v_126 h_127 =>
 ∃ (c126 : Bool), v_126 = vB c126 ∧
 br c126
 (∃ (p86 o86 : Nat), h_127.cell b1 0 = some (vP p86 o86) ∧
 Tri Tryz.prog 100 [vP p86 o86, vL a3 n3 k3] h_127 fun v_127 h_128 =>
 ∃ (c127 : Bool), v_127 = vB c127 ∧
 Q (vB c127) h_128)
 (Q (vB false) h_127))
 (Q (vB false) h_126))))))
 (br (i1 == 8)
 (br (decide (((n1 : Nat) : Int) < 0))
 (Q (vB false) h_2)
 (br (decide (((n1 : Nat) : Int) > 0))
 (Q (vB false) h_2)
 (br (decide (((n2 : Nat) : Int) > 0))
 (br (i1 != 5)
 (br (i1 != 6)
 (Q (vB false) h_2)
 (br (decide (((n3 : Nat) : Int) > 0))
 (br (i1 != 5)
 (Q (vB false) h_2)
 (Tri Tryz.prog 107 [vL a1 n1 k1, vF 176 [] [vP b1 0]] h_2 fun v_128 h_129 =>
 ∃ (c128 : Bool), v_128 = vB c128 ∧
 br (!c128)
 (∃ (p87 o87 : Nat), h_129.cell b1 0 = some (vP p87 o87) ∧
 Tri Tryz.prog 100 [vP p87 o87, vL a2 n2 k2] h_129 fun v_129 h_130 =>
 ∃ (c129 : Bool), v_129 = vB c129 ∧
 br c129
 (∃ (p88 o88 : Nat), h_130.cell b1 0 = some (vP p88 o88) ∧
 Tri Tryz.prog 100 [vP p88 o88, vL a3 n3 k3] h_130 fun v_130 h_131 =>
 ∃ (c130 : Bool), v_130 = vB c130 ∧
 Q (vB c130) h_131)
 (Q (vB false) h_130))
 (Q (vB false) h_129)))
 (Tri Tryz.prog 107 [vL a1 n1 k1, vF 176 [] [vP b1 0]] h_2 fun v_131 h_132 =>
 ∃ (c131 : Bool), v_131 = vB c131 ∧
 br (!c131)
 (∃ (p89 o89 : Nat), h_132.cell b1 0 = some (vP p89 o89) ∧
 Tri Tryz.prog 100 [vP p89 o89, vL a2 n2 k2] h_132 fun v_132 h_133 =>
 ∃ (c132 : Bool), v_132 = vB c132 ∧
 br c132
 (∃ (p90 o90 : Nat), h_133.cell b1 0 = some (vP p90 o90) ∧
 Tri Tryz.prog 100 [vP p90 o90, vL a3 n3 k3] h_133 fun v_133 h_134 =>
 ∃ (c133 : Bool), v_133 = vB c133 ∧
 Q (vB c133) h_134)
 (Q (vB false) h_133))
 (Q (vB false) h_132))))
 (br (decide (((n3 : Nat) : Int) > 0))
 (br (i1 != 5)
 (Q (vB false) h_2)
 (Tri Tryz.prog 107 [vL a1 n1 k1, vF 176 [] [vP b1 0]] h_2 fun v_134 h_135 =>
 ∃ (c134 : Bool), v_134 = vB c134 ∧
 br (!c134)
 (∃ (p91 o91 : Nat), h_135.cell b1 0 = some (vP p91 o91) ∧
 Tri Tryz.prog 100 [vP p91 o91, vL a2 n2 k2] h_135 fun v_135 h_136 =>
 ∃ (c135 : Bool), v_135 = vB c135 ∧
 br c135
 (∃ (p92 o92 : Nat), h_136.cell b1 0 = some (vP p92 o92) ∧
 Tri Tryz.prog 100 [vP p92 o92, vL a3 n3 k3] h_136 fun v_136 h_137 =>
 ∃ (c136 : Bool), v_136 = vB c136 ∧
 Q (vB c136) h_137)
 (Q (vB false) h_136))
 (Q (vB false) h_135)))
 (Tri Tryz.prog 107 [vL a1 n1 k1, vF 176 [] [vP b1 0]] h_2 fun v_137 h_138 =>
 ∃ (c137 : Bool), v_137 = vB c137 ∧
 br (!c137)
 (∃ (p93 o93 : Nat), h_138.cell b1 0 = some (vP p93 o93) ∧
 Tri Tryz.prog 100 [vP p93 o93, vL a2 n2 k2] h_138 fun v_138 h_139 =>
 ∃ (c138 : Bool), v_138 = vB c138 ∧
 br c138
 (∃ (p94 o94 : Nat), h_139.cell b1 0 = some (vP p94 o94) ∧
 Tri Tryz.prog 100 [vP p94 o94, vL a3 n3 k3] h_139 fun v_139 h_140 =>
 ∃ (c139 : Bool), v_139 = vB c139 ∧
 Q (vB c139) h_140)
 (Q (vB false) h_139))
 (Q (vB false) h_138))))
 (br (decide (((n3 : Nat) : Int) > 0))
 (br (i1 != 5)
 (Q (vB false) h_2)
 (Tri Tryz.prog 107 [vL a1 n1 k1, vF 176 [] [vP b1 0]] h_2 fun v_140 h_141 =>
 ∃ (c140 : Bool), v_140 = vB c140 ∧
 br (!c140)
 (∃ (p95 o95 : Nat), h_141.cell b1 0 = some (vP p95 o95) ∧
 Tri Tryz.prog 100 [vP p95 o95, vL a2 n2 k2] h_141 fun v_141 h_142 =>
 ∃ (c141 : Bool), v_141 = vB c141 ∧
 br c141
 (∃ (p96 o96 : Nat), h_142.cell b1 0 = some (vP p96 o96) ∧
 Tri Tryz.prog 100 [vP p96 o96, vL a3 n3 k3] h_142 fun v_142 h_143 =>
 ∃ (c142 : Bool), v_142 = vB c142 ∧
 Q (vB c142) h_143)
 (Q (vB false) h_142))
 (Q (vB false) h_141)))
 (Tri Tryz.prog 107 [vL a1 n1 k1, vF 176 [] [vP b1 0]] h_2 fun v_143 h_144 =>
 ∃ (c143 : Bool), v_143 = vB c143 ∧
 br (!c143)
 (∃ (p97 o97 : Nat), h_144.cell b1 0 = some (vP p97 o97) ∧
 Tri Tryz.prog 100 [vP p97 o97, vL a2 n2 k2] h_144 fun v_144 h_145 =>
 ∃ (c144 : Bool), v_144 = vB c144 ∧
 br c144
 (∃ (p98 o98 : Nat), h_145.cell b1 0 = some (vP p98 o98) ∧
 Tri Tryz.prog 100 [vP p98 o98, vL a3 n3 k3] h_145 fun v_145 h_146 =>
 ∃ (c145 : Bool), v_145 = vB c145 ∧
 Q (vB c145) h_146)
 (Q (vB false) h_145))
 (Q (vB false) h_144))))))
 (br (i1 == 9)
 (br (decide (((n1 : Nat) : Int) < 0))
 (Q (vB false) h_2)
 (br (decide (((n1 : Nat) : Int) > 0))
 (Q (vB false) h_2)
 (br (decide (((n2 : Nat) : Int) > 0))
 (br (i1 != 5)
 (br (i1 != 6)
 (Q (vB false) h_2)
 (br (decide (((n3 : Nat) : Int) > 0))
 (br (i1 != 5)
 (Q (vB false) h_2)
 (Tri Tryz.prog 107 [vL a1 n1 k1, vF 176 [] [vP b1 0]] h_2 fun v_146 h_147 =>
 ∃ (c146 : Bool), v_146 = vB c146 ∧
 br (!c146)
 (∃ (p99 o99 : Nat), h_147.cell b1 0 = some (vP p99 o99) ∧
 Tri Tryz.prog 100 [vP p99 o99, vL a2 n2 k2] h_147 fun v_147 h_148 =>
 ∃ (c147 : Bool), v_147 = vB c147 ∧
 br c147
 (∃ (p100 o100 : Nat), h_148.cell b1 0 = some (vP p100 o100) ∧
 Tri Tryz.prog 100 [vP p100 o100, vL a3 n3 k3] h_148 fun v_148 h_149 =>
 ∃ (c148 : Bool), v_148 = vB c148 ∧
 Q (vB c148) h_149)
 (Q (vB false) h_148))
 (Q (vB false) h_147)))
 (Tri Tryz.prog 107 [vL a1 n1 k1, vF 176 [] [vP b1 0]] h_2 fun v_149 h_150 =>
 ∃ (c149 : Bool), v_149 = vB c149 ∧
 br (!c149)
 (∃ (p101 o101 : Nat), h_150.cell b1 0 = some (vP p101 o101) ∧
 Tri Tryz.prog 100 [vP p101 o101, vL a2 n2 k2] h_150 fun v_150 h_151 =>
 ∃ (c150 : Bool), v_150 = vB c150 ∧
 br c150
 (∃ (p102 o102 : Nat), h_151.cell b1 0 = some (vP p102 o102) ∧
 Tri Tryz.prog 100 [vP p102 o102, vL a3 n3 k3] h_151 fun v_151 h_152 =>
 ∃ (c151 : Bool), v_151 = vB c151 ∧
 Q (vB c151) h_152)
 (Q (vB false) h_151))
 (Q (vB false) h_150))))
 (br (decide (((n3 : Nat) : Int) > 0))
 (br (i1 != 5)
 (Q (vB false) h_2)
 (Tri Tryz.prog 107 [vL a1 n1 k1, vF 176 [] [vP b1 0]] h_2 fun v_152 h_153 =>
 ∃ (c152 : Bool), v_152 = vB c152 ∧
 br (!c152)
 (∃ (p103 o103 : Nat), h_153.cell b1 0 = some (vP p103 o103) ∧
 Tri Tryz.prog 100 [vP p103 o103, vL a2 n2 k2] h_153 fun v_153 h_154 =>
 ∃ (c153 : Bool), v_153 = vB c153 ∧
 br c153
 (∃ (p104 o104 : Nat), h_154.cell b1 0 = some (vP p104 o104) ∧
 Tri Tryz.prog 100 [vP p104 o104, vL a3 n3 k3] h_154 fun v_154 h_155 =>
 ∃ (c154 : Bool), v_154 = vB c154 ∧
 Q (vB c154) h_155)
 (Q (vB false) h_154))
 (Q (vB false) h_153)))
 (Tri Tryz.prog 107 [vL a1 n1 k1, vF 176 [] [vP b1 0]] h_2 fun v_155 h_156 =>
 ∃ (c155 : Bool), v_155 = vB c155 ∧
 br (!c155)
 (∃ (p105 o105 : Nat), h_156.cell b1 0 = some (vP p105 o105) ∧
 Tri Tryz.prog 100 [vP p105 o105, vL a2 n2 k2] h_156 fun v_156 h_157 =>
 ∃ (c156 : Bool), v_156 = vB c156 ∧
 br c156
 (∃ (p106 o106 : Nat), h_157.cell b1 0 = some (vP p106 o106) ∧
 Tri Tryz.prog 100 [vP p106 o106, vL a3 n3 k3] h_157 fun v_157 h_158 =>
 ∃ (c157 : Bool), v_157 = vB c157 ∧
 Q (vB c157) h_158)
 (Q (vB false) h_157))
 (Q (vB false) h_156))))
 (br (decide (((n3 : Nat) : Int) > 0))
 (br (i1 != 5)
 (Q (vB false) h_2)
 (Tri Tryz.prog 107 [vL a1 n1 k1, vF 176 [] [vP b1 0]] h_2 fun v_158 h_159 =>
 ∃ (c158 : Bool), v_158 = vB c158 ∧
 br (!c158)
 (∃ (p107 o107 : Nat), h_159.cell b1 0 = some (vP p107 o107) ∧
 Tri Tryz.prog 100 [vP p107 o107, vL a2 n2 k2] h_159 fun v_159 h_160 =>
 ∃ (c159 : Bool), v_159 = vB c159 ∧
 br c159
 (∃ (p108 o108 : Nat), h_160.cell b1 0 = some (vP p108 o108) ∧
 Tri Tryz.prog 100 [vP p108 o108, vL a3 n3 k3] h_160 fun v_160 h_161 =>
 ∃ (c160 : Bool), v_160 = vB c160 ∧
 Q (vB c160) h_161)
 (Q (vB false) h_160))
 (Q (vB false) h_159)))
 (Tri Tryz.prog 107 [vL a1 n1 k1, vF 176 [] [vP b1 0]] h_2 fun v_161 h_162 =>
 ∃ (c161 : Bool), v_161 = vB c161 ∧
 br (!c161)
 (∃ (p109 o109 : Nat), h_162.cell b1 0 = some (vP p109 o109) ∧
 Tri Tryz.prog 100 [vP p109 o109, vL a2 n2 k2] h_162 fun v_162 h_163 =>
 ∃ (c162 : Bool), v_162 = vB c162 ∧
 br c162
 (∃ (p110 o110 : Nat), h_163.cell b1 0 = some (vP p110 o110) ∧
 Tri Tryz.prog 100 [vP p110 o110, vL a3 n3 k3] h_163 fun v_163 h_164 =>
 ∃ (c163 : Bool), v_163 = vB c163 ∧
 Q (vB c163) h_164)
 (Q (vB false) h_163))
 (Q (vB false) h_162))))))
 (Q (vB false) h_2))))))))))
theorem T148 {p1 : Nat} {o1 : Nat} {i1 : Int} {l1 : Bs} {a1 : OA} {n1 : Nat} {k1 : Nat} {a2 : OA} {n2 : Nat} {k2 : Nat} {a3 : OA} {n3 : Nat} {k3 : Nat} {i2 : Int} {i3 : Int} {h : PHeap} {Q : Value → PHeap → Prop} (hR : R148 p1 o1 i1 l1 a1 n1 k1 a2 n2 k2 a3 n3 k3 i2 i3 h Q) : Tri Tryz.prog 148 [vP p1 o1, vA [vI i1, vS l1, vL a1 n1 k1, vL a2 n2 k2, vL a3 n3 k3, vI i2, vI i3]] h Q :=
 tri_of_dn mixed Tryz.func148 rfl (by kernel_rfl) low148 (rs := [.tmp 4]) (by kernel_rfl) rfl (Eq.mpr (by kernel_rfl : dnF Tryz.prog Tryz.f148.ntmps d148 [.tmp 4] [vP p1 o1, vA [vI i1, vS l1, vL a1 n1 k1, vL a2 n2 k2, vL a3 n3 k3, vI i2, vI i3]] h Q = R148 p1 o1 i1 l1 a1 n1 k1 a2 n2 k2 a3 n3 k3 i2 i3 h Q) hR)
end Go.Proofs.D
namespace Go.Sx
def shapeE (k n : Nat) : Prop := (k = 1 ∨ k = 2 ∨ k = 3) ∧ n = 0 ∨ (k = 4 ∨ k = 6) ∧ n = 1 ∨ k = 7 ∧ n = 2 ∨ k = 5
def shapeS (k a b c : Nat) : Prop := (k = 1 ∨ k = 7) ∧ a ≤ 1 ∧ b = 0 ∧ c = 0 ∨ (k = 2 ∨ k = 4) ∧ a = 1 ∧ b = 0 ∧ c = 0 ∨ k = 3 ∧ a = 2 ∧ b = 0 ∧ c = 0 ∨ (k = 8 ∨ k = 9) ∧ a = 0 ∧ b = 0 ∧ c = 0 ∨ k = 6 ∧ a = 1 ∧ c = 0 ∨ k = 5 ∧ a = 1
mutual
def wfE : E → Prop
 | .mk k _ _ _ _ args _ => shapeE k args.length ∧ wfEs args
def wfEs : List E → Prop
 | [] => True
 | e :: es => wfE e ∧ wfEs es
end
mutual
def wfS : S → Prop
 | .mk k _ args body els _ => shapeS k args.length body.length els.length ∧ wfEs args ∧ wfSs body ∧ wfSs els
def wfSs : List S → Prop
 | [] => True
 | s :: ss => wfS s ∧ wfSs ss
end
theorem wfEs_iff : ∀ {l : List E}, wfEs l ↔ ∀ e ∈ l, wfE e
 | [] => by simp [wfEs]
 | e :: l => by simp [wfEs, wfEs_iff (l := l)]
theorem wfSs_iff : ∀ {l : List S}, wfSs l ↔ ∀ e ∈ l, wfS e
 | [] => by simp [wfSs]
 | e :: l => by simp [wfSs, wfSs_iff (l := l)]
theorem wfClE : ClE (fun _ => True) (fun _ => True) wfE where
 z := trivial
 t _ _ := trivial
 c1 t _ _ := by simp [wfE, wfEs, shapeE]
 c2 t _ _ := by simp [wfE, wfEs, shapeE]
 c3 t _ _ := by simp [wfE, wfEs, shapeE]
 c4 t e _ _ h := by simp [wfE, wfEs, shapeE, h]
 c5 t l _ _ h := by simp [wfE, shapeE, wfEs_iff]; exact h
 c6 t e _ _ h := by simp [wfE, wfEs, shapeE, h]
 c7 t e e' _ _ _ _ h h' := by simp [wfE, wfEs, shapeE, h, h']
theorem wfClS : ClS (fun _ => True) (fun _ => True) wfE wfS where
 toClE := wfClE
 s1 t u l _ _ _ h := by rcases h with rfl | ⟨e, rfl, h⟩ <;> simp [wfS, wfSs, wfEs, shapeS]; exact h
 s2 t e _ _ h := by simp [wfS, wfSs, wfEs, shapeS, h]
 s3 t i e _ _ h h' := by simp [wfS, wfSs, wfEs, shapeS, h, h']
 s4 t l _ _ h := by simp [wfS, wfSs, wfEs, wfE, shapeS, shapeE, wfEs_iff]; exact h
 s5 t e b c _ h hb hc := by simp [wfS, wfEs, shapeS, wfSs_iff, h]; exact ⟨hb, hc⟩
 s6 t e b _ h hb := by simp [wfS, wfEs, wfSs, shapeS, wfSs_iff, h]; exact hb
 s7 t l _ h := by rcases h with rfl | ⟨e, rfl, h⟩ <;> simp [wfS, wfSs, wfEs, shapeS]; exact h
 s8 t _ := by simp [wfS, wfSs, wfEs, shapeS]
 s9 t _ := by simp [wfS, wfSs, wfEs, shapeS]
end Go.Sx
namespace Go.Proofs.D
open Go Go.Den Go.Sx
set_option maxRecDepth 100000
attribute [local irreducible] IntKind.wrap Tri parseS
def CB (cb n : Nat) (h : PHeap) : Prop := n ≤ 4096 ∧ h cb = some (.cells ⟨[vI n]⟩ 129)
def CP (cb n : Nat) (h : PHeap) (v : Value) (h' : PHeap) : Prop := v = vB true ∧ Away cb h h' ∧ CB cb n h'
theorem one_t {cb n : Nat} {h : PHeap} (hb : CB cb (n + 1) h) : Tri Tryz.prog 106 [vP cb 0] h (CP cb n h) := by
 obtain ⟨hn, hb⟩ := hb
 refine T106 ?_
 unfold R106
 refine ⟨_, cell_of hb 0, _, _, _, hb, ⟨by simp, Nat.zero_le _⟩, ?_⟩
 intro h1 hh1
 have hb1 : h1 cb = some (.cells ⟨[vI (IntKind.i64.wrap (((n + 1 : Nat) : Int) - 1))]⟩ 129) := Put.at hh1
 rw [wrap64 (by omega) (by omega), show (((n + 1 : Nat) : Int) - 1) = n by omega] at hb1
 refine ⟨_, cell_of hb1 0, ?_, (Put.chg hh1).away, by omega, hb1⟩
 simp
theorem ext_away {g : PHeap} {cb : Nat} {h h' : PHeap} (hg : g cb = none) (x : Ext g h) (a : Away cb h h') : Ext g h' := fun k o hk => a k o (fun e => by subst e; rw [hg] at hk; cases hk) (x k o hk)
theorem cb_put {cb n b : Nat} {o : Obj} {h h1 : PHeap} (hc : CB cb n h) (hb : h b = none) (e : h1 = h.put b o) : CB cb n h1 := ⟨hc.1, Put.ext e hb _ _ hc.2⟩
theorem ne_cb {cb n b : Nat} {h : PHeap} (hc : CB cb n h) (hb : h b = none) : b ≠ cb := fun e => by subst e; rw [hc.2] at hb; cases hb
theorem cntEs_drop {es : List E} {j : Nat} (hj : j < es.length) : cntEs (es.drop j) = cntE es[j] + cntEs (es.drop (j + 1)) := by rw [List.drop_eq_getElem_cons hj]; rfl
theorem cntSs_drop {es : List S} {j : Nat} (hj : j < es.length) : cntSs (es.drop j) = cntS es[j] + cntSs (es.drop (j + 1)) := by rw [List.drop_eq_getElem_cons hj]; rfl
section
variable {s : Bytes} {g : PHeap} {cb : Nat}
def TE (s : Bytes) (g : PHeap) (cb : Nat) (e : E) : Prop := ∀ cs, RE (plP s) 8 g e cs → ∀ h n, Ext g h → CB cb (n + cntE e) h → Tri Tryz.prog 66 [vP cb 0, vA cs] h (CP cb n h)
def TS (s : Bytes) (g : PHeap) (cb : Nat) (e : S) : Prop := ∀ cs, RS (plP s) 8 7 g e cs → ∀ h n, Ext g h → CB cb (n + cntS e) h → Tri Tryz.prog 148 [vP cb 0, vA cs] h (CP cb n h)
theorem texprs (hg : g cb = none) {f b1 : Nat} (hf : f = 108 ∨ f = 176) {es : List E} (ih : ∀ e ∈ es, TE s g cb e) {a : Option Addr} {c : Nat} (hA : At 8 (RE (plP s) 8) g a es) {h : PHeap} {n : Nat} (hx : Ext g h) (hb : b1 ≠ cb) (hb1 : h b1 = some (.cells ⟨[vP cb 0]⟩ 127)) (hc : CB cb (n + cntEs es) h) :
 Tri Tryz.prog 107 [vL a es.length c, vF f [] [vP b1 0]] h fun v h' => v = vB false ∧ Away cb h h' ∧ CB cb n h' := by
 refine T107 ?_
 unfold R107
 have hl := hc.1
 have hlen := cntEs_len es
 suffices hs : Tri Tryz.prog 153 [vL a es.length c, vF f [] [vP b1 0]] h fun v h' => v = vI (-1) ∧ Away cb h h' ∧ CB cb n h' by
  refine Tri.mono hs ?_
  rintro _ h1 ⟨rfl, h2, h3⟩
  exact ⟨_, rfl, rfl, h2, h3⟩
 refine T153 ?_
 unfold R153
 refine ⟨fun m i h' => Away cb h h' ∧ ∃ j : Nat, i = j ∧ j + m = es.length ∧ CB cb (n + cntEs (es.drop j)) h', ⟨es.length, Away.refl _ _, 0, rfl, by omega, hc⟩, ?_⟩
 rintro m _ h1 ⟨ha, j, rfl, hjm, hcj⟩
 refine br_split (fun e => ?_) (fun e => ?_)
 · have hj : j < es.length := by
    have := of_decide_eq_true e
    omega
   obtain ⟨b, o, cs, rfl, hr, hrel⟩ := hA.get hj
   have ihj := ih _ (List.getElem_mem hj) _ hrel h1 (n + cntEs (es.drop (j + 1))) (ext_away hg hx ha) (by rw [cntEs_drop hj] at hcj; rwa [show n + cntEs (es.drop (j + 1)) + cntE es[j] = n + (cntE es[j] + cntEs (es.drop (j + 1))) by omega])
   have hr := row_ext (fun ob => ext_away hg hx ha b ob) hr
   have hb2 := ha _ _ hb hb1
   generalize es[j] = x at *
   match x, hrel with
   | .mk kd op nm vl tx args pos, hrel =>
   obtain ⟨a1, c1, rfl, hA1⟩ := RE_iff.1 hrel
   refine ⟨b, o, rfl, ⟨by omega, by omega⟩, _, _, _, _, _, _, _, _, _, _, hr, ?_⟩
   rcases hf with rfl | rfl
   · refine T108 ?_
     unfold R108
     refine ⟨_, _, cell_of hb2 0, ?_⟩
     refine Tri.mono ihj ?_
     rintro _ h2 ⟨rfl, h3, h4⟩
     refine ⟨_, rfl, _, rfl, br_neg rfl ⟨m - 1, by omega, ⟨ha.trans h3, j + 1, ?_, by omega, h4⟩, trivial⟩⟩
     rw [wrap64 (by omega) (by omega)]; rfl
   · refine T176 ?_
     unfold R176
     refine ⟨_, _, cell_of hb2 0, ?_⟩
     refine Tri.mono ihj ?_
     rintro _ h2 ⟨rfl, h3, h4⟩
     refine ⟨_, rfl, _, rfl, br_neg rfl ⟨m - 1, by omega, ⟨ha.trans h3, j + 1, ?_, by omega, h4⟩, trivial⟩⟩
     rw [wrap64 (by omega) (by omega)]; rfl
 · have : es.length ≤ j := by
    have := of_decide_eq_false e
    omega
   rw [List.drop_eq_nil_of_le this] at hcj
   exact ⟨rfl, ha, hcj⟩
theorem texpr (hg : g cb = none) : ∀ k e, cntE e ≤ k → wfE e → TE s g cb e := by
 intro k
 induction k with
 | zero => intro e he; have := cntE_pos e; omega
 | succ k ih =>
   intro e he hw cs hrel h n hx hc
   match e, he, hw, hrel, hc with
   | .mk kd op nm vl tx args pos, he, hw, hrel, hc =>
   obtain ⟨a1, c1, rfl, hA1⟩ := RE_iff.1 hrel
   simp only [cntE] at he hc
   have hih : ∀ e ∈ args, TE s g cb e := fun e hm => ih e (by have := cntEs_mem hm; omega) (wfEs_iff.1 hw.2 e hm)
   refine T66 ?_
   unfold R66
   intro b1 hb1 h1 hh1
   have hn1 := ne_cb hc hb1
   have hx1 := Put.ext hh1 hb1
   refine ⟨_, _, cell_of (Put.at hh1) 0, ?_⟩
   refine Tri.mono (one_t (n := n + cntEs args) (cb_put hc hb1 hh1)) ?_
   rintro _ h2 ⟨rfl, ha2, hc2⟩
   have ha02 : Away cb h h2 := hx1.away.trans ha2
   have hb2 := ha2 _ _ hn1 (Put.at hh1)
   have hx2 := ext_away hg hx ha02
   refine ⟨_, rfl, br_neg rfl ?_⟩
   have single : ∀ x, args = [x] → ∃ (p3 o3 : Nat), h2.cell b1 0 = some (vP p3 o3) ∧ ∃ (b2 o4 : Nat), a1 = some ⟨b2, o4, none⟩ ∧ (0 ≤ (0 : Int) ∧ (0 : Int) < args.length) ∧
    ∃ (i5 : Int) (l4 l5 : Bs) (i6 : Int) (l6 : Bs) (a2 : OA) (n2 dyk2 : Nat) (i7 i8 : Int), h2.row b2 o4 [vI i5, vS l4, vS l5, vI i6, vS l6, vL a2 n2 dyk2, vI i7, vI i8] ∧
    Tri Tryz.prog 66 [vP p3 o3, vA [vI i5, vS l4, vS l5, vI i6, vS l6, vL a2 n2 dyk2, vI i7, vI i8]] h2 fun v_2 h_3 => ∃ (c2 : Bool), v_2 = vB c2 ∧ (tv [vL a1 args.length c1]) ∧ CP cb n h (vB c2) h_3 := fun x hxs => by
    subst hxs
    obtain ⟨b, o, cs, rfl, hr, hrel⟩ := hA1.get (n := 0) (by simp)
    have h5 := hih x (by simp) _ hrel h2 n hx2 (by simpa [cntEs] using hc2)
    have hr := row_ext (fun ob => hx2 b ob) hr
    simp only [List.getElem_cons_zero] at hrel
    match x, hrel with
    | .mk kd op nm vl tx args pos, hrel =>
    obtain ⟨a3, c3, rfl, hA3⟩ := RE_iff.1 hrel
    refine ⟨_, _, cell_of hb2 0, b, o, rfl, ⟨by decide, by simp⟩, _, _, _, _, _, _, _, _, _, _, hr, ?_⟩
    refine Tri.mono h5 ?_
    rintro _ h3 ⟨rfl, h6, h7⟩
    exact ⟨_, rfl, rfl, rfl, ha02.trans h6, h7⟩
   rcases hw.1 with ⟨hk, h0⟩ | ⟨hk, h0⟩ | ⟨rfl, h0⟩ | rfl
   · obtain rfl := List.eq_nil_of_length_eq_zero h0
     have hq : CP cb n h (vB true) h2 := ⟨rfl, ha02, hc2⟩
     rcases hk with rfl | rfl | rfl <;> (repeat first | refine br_pos rfl ?_ | refine br_neg rfl ?_) <;> exact hq
   · obtain ⟨x, rfl⟩ := List.length_eq_one_iff.1 h0
     rcases hk with rfl | rfl <;> (repeat first | refine br_pos rfl ?_ | refine br_neg rfl ?_) <;> exact single x rfl
   · obtain ⟨x, y, rfl⟩ : ∃ x y, args = [x, y] := match args, h0 with | [x, y], _ => ⟨x, y, rfl⟩
     (repeat first | refine br_pos rfl ?_ | refine br_neg rfl ?_)
     obtain ⟨b, o, cs, rfl, hr, hrel⟩ := hA1.get (n := 0) (by simp)
     obtain ⟨b', o', cs', ha', hr', hrel'⟩ := hA1.get (n := 1) (by simp)
     cases ha'
     simp only [List.getElem_cons_zero, List.getElem_cons_succ] at hrel hrel'
     have h5 := hih x (by simp) _ hrel h2 (n + cntE y) hx2 (by simpa [cntEs, Nat.add_assoc, Nat.add_comm, Nat.add_left_comm] using hc2)
     have h5' := fun h4 hx4 hc4 => hih y (by simp) _ hrel' h4 n hx4 hc4
     match x, y, hrel, hrel' with
     | .mk kd op nm vl tx args pos, .mk kd' op' nm' vl' tx' args' pos', hrel, hrel' =>
     obtain ⟨a3, c3, rfl, hA3⟩ := RE_iff.1 hrel
     obtain ⟨a4, c4, rfl, hA4⟩ := RE_iff.1 hrel'
     refine ⟨_, _, cell_of hb2 0, b, o, rfl, ⟨by decide, by simp⟩, _, _, _, _, _, _, _, _, _, _, row_ext (fun ob => hx2 b ob) hr, ?_⟩
     refine Tri.mono h5 ?_
     rintro _ h3 ⟨rfl, h6, h7⟩
     have hx3 := ext_away hg hx2 h6
     refine ⟨_, rfl, rfl, br_pos rfl ?_⟩
     refine ⟨_, _, cell_of (h6 _ _ hn1 hb2) 0, b, o, rfl, ⟨by decide, by simp⟩, _, _, _, _, _, _, _, _, _, _, row_ext (fun ob => hx3 b ob) hr', ?_⟩
     refine Tri.mono (h5' h3 hx3 h7) ?_
     rintro _ h4 ⟨rfl, h8, h9⟩
     exact ⟨_, rfl, rfl, rfl, rfl, (ha02.trans h6).trans h8, h9⟩
   · (repeat first | refine br_pos rfl ?_ | refine br_neg rfl ?_)
     refine Tri.mono (texprs hg (.inl rfl) hih hA1 hx2 hn1 hb2 hc2) ?_
     rintro _ h3 ⟨rfl, h6, h7⟩
     exact ⟨_, rfl, rfl, ha02.trans h6, h7⟩
theorem tstmts (hg : g cb = none) {es : List S} (ih : ∀ e ∈ es, TS s g cb e) {a : Option Addr} {c : Nat} (hA : At 7 (RS (plP s) 8 7) g a es) {h : PHeap} {n : Nat} (hx : Ext g h) (hc : CB cb (n + cntSs es) h) :
 Tri Tryz.prog 100 [vP cb 0, vL a es.length c] h (CP cb n h) := by
 refine T100 ?_
 unfold R100
 intro b1 hb1 h1 hh1
 have hn1 := ne_cb hc hb1
 have hx1 := Put.ext hh1 hb1
 have hx01 := hx.trans hx1
 have hl := hc.1
 have hlen := cntSs_len es
 have hc1 := cb_put hc hb1 hh1
 have hb1 := Put.at hh1
 suffices hs : Tri Tryz.prog 175 [vL a es.length c, vF 147 [] [vP b1 0]] h1 fun v h' => v = vI (-1) ∧ Away cb h1 h' ∧ CB cb n h' by
  refine T146 ?_
  unfold R146
  refine Tri.mono hs ?_
  rintro _ h1 ⟨rfl, h2, h3⟩
  exact ⟨_, rfl, _, rfl, rfl, hx1.away.trans h2, h3⟩
 clear hh1 hx1
 refine T175 ?_
 unfold R175
 refine ⟨fun m i h' => Away cb h1 h' ∧ ∃ j : Nat, i = j ∧ j + m = es.length ∧ CB cb (n + cntSs (es.drop j)) h', ⟨es.length, Away.refl _ _, 0, rfl, by omega, hc1⟩, ?_⟩
 rintro m _ h2 ⟨ha, j, rfl, hjm, hcj⟩
 refine br_split (fun e => ?_) (fun e => ?_)
 · have hj : j < es.length := by
    have := of_decide_eq_true e
    omega
   obtain ⟨b, o, cs, rfl, hr, hrel⟩ := hA.get hj
   have ihj := ih _ (List.getElem_mem hj) _ hrel h2 (n + cntSs (es.drop (j + 1))) (ext_away hg hx01 ha) (by rw [cntSs_drop hj] at hcj; rwa [show n + cntSs (es.drop (j + 1)) + cntS es[j] = n + (cntS es[j] + cntSs (es.drop (j + 1))) by omega])
   have hr := row_ext (fun ob => ext_away hg hx01 ha b ob) hr
   have hb2 := ha _ _ hn1 hb1
   generalize es[j] = x at *
   match x, hrel with
   | .mk kd nm args body els pos, hrel =>
   obtain ⟨a1, c1, a2, c2, a3, c3, rfl, hA1, hA2, hA3⟩ := RS_iff.1 hrel
   refine ⟨b, o, rfl, ⟨by omega, by omega⟩, _, _, _, _, _, _, _, _, _, _, _, _, _, hr, ?_⟩
   refine T147 ?_
   unfold R147
   refine ⟨_, _, cell_of hb2 0, ?_⟩
   refine Tri.mono ihj ?_
   rintro _ h2 ⟨rfl, h3, h4⟩
   refine ⟨_, rfl, _, rfl, br_neg rfl ⟨m - 1, by omega, ⟨ha.trans h3, j + 1, ?_, by omega, h4⟩, trivial⟩⟩
   rw [wrap64 (by omega) (by omega)]; rfl
 · have : es.length ≤ j := by
    have := of_decide_eq_false e
    omega
   rw [List.drop_eq_nil_of_le this] at hcj
   exact ⟨rfl, ha, hcj⟩
theorem tstmt (hg : g cb = none) : ∀ k e, cntS e ≤ k → wfS e → TS s g cb e := by
 intro k
 induction k with
 | zero => intro e he; have := cntS_pos e; omega
 | succ k ih =>
   intro e he hw cs hrel h n hx hc
   match e, he, hw, hrel, hc with
   | .mk kd nm args body els pos, he, hw, hrel, hc =>
   obtain ⟨a1, c1, a2, c2, a3, c3, rfl, hA1, hA2, hA3⟩ := RS_iff.1 hrel
   simp only [cntS] at he hc
   have hih : ∀ e ∈ args, TE s g cb e := fun e hm => texpr hg _ e (Nat.le_refl _) (wfEs_iff.1 hw.2.1 e hm)
   have hih2 : ∀ e ∈ body, TS s g cb e := fun e hm => ih e (by have := cntSs_mem hm; omega) (wfSs_iff.1 hw.2.2.1 e hm)
   have hih3 : ∀ e ∈ els, TS s g cb e := fun e hm => ih e (by have := cntSs_mem hm; omega) (wfSs_iff.1 hw.2.2.2 e hm)
   refine T148 ?_
   unfold R148
   intro b1 hb1 h1 hh1
   have hn1 := ne_cb hc hb1
   have hx1 := Put.ext hh1 hb1
   refine ⟨_, _, cell_of (Put.at hh1) 0, ?_⟩
   refine Tri.mono (one_t (n := n + cntSs els + cntSs body + cntEs args) (by rw [show n + cntSs els + cntSs body + cntEs args + 1 = n + (cntEs args + cntSs body + cntSs els + 1) by omega]; exact cb_put hc hb1 hh1)) ?_
   rintro _ h2 ⟨rfl, ha2, hc2⟩
   have ha02 : Away cb h h2 := hx1.away.trans ha2
   have hb2 := ha2 _ _ hn1 (Put.at hh1)
   have hx2 := ext_away hg hx ha02
   refine ⟨_, rfl, br_neg rfl ?_⟩
   have leaf : Tri Tryz.prog 107 [vL a1 args.length c1, vF 176 [] [vP b1 0]] h2 fun v_5 h_6 => ∃ (c5 : Bool), v_5 = vB c5 ∧ br (!c5)
    (∃ (p5 o5 : Nat), h_6.cell b1 0 = some (vP p5 o5) ∧ Tri Tryz.prog 100 [vP p5 o5, vL a2 body.length c2] h_6 fun v_6 h_7 => ∃ (c6 : Bool), v_6 = vB c6 ∧ br c6
     (∃ (p6 o6 : Nat), h_7.cell b1 0 = some (vP p6 o6) ∧ Tri Tryz.prog 100 [vP p6 o6, vL a3 els.length c3] h_7 fun v_7 h_8 => ∃ (c7 : Bool), v_7 = vB c7 ∧ CP cb n h (vB c7) h_8)
     (CP cb n h (vB false) h_7))
    (CP cb n h (vB false) h_6) := by
    refine Tri.mono (texprs hg (.inr rfl) hih hA1 hx2 hn1 hb2 hc2) ?_
    rintro _ h3 ⟨rfl, h6, h7⟩
    have hb3 := h6 _ _ hn1 hb2
    have hx3 := ext_away hg hx2 h6
    refine ⟨_, rfl, br_pos rfl ⟨_, _, cell_of hb3 0, ?_⟩⟩
    refine Tri.mono (tstmts hg hih2 hA2 hx3 h7) ?_
    rintro _ h4 ⟨rfl, h8, h9⟩
    have hb4 := h8 _ _ hn1 hb3
    have hx4 := ext_away hg hx3 h8
    refine ⟨_, rfl, br_pos rfl ⟨_, _, cell_of hb4 0, ?_⟩⟩
    refine Tri.mono (tstmts hg hih3 hA3 hx4 h9) ?_
    rintro _ h5 ⟨rfl, h10, h11⟩
    exact ⟨_, rfl, rfl, ((ha02.trans h6).trans h8).trans h10, h11⟩
   have hsh := hw.1
   generalize args.length = na at *
   generalize body.length = nb at *
   generalize els.length = ne at *
   rcases hsh with ⟨hk, h0, rfl, rfl⟩ | ⟨hk, rfl, rfl, rfl⟩ | ⟨rfl, rfl, rfl, rfl⟩ | ⟨hk, rfl, rfl, rfl⟩ | ⟨rfl, rfl, rfl⟩ | ⟨rfl, rfl⟩
   · have : na = 0 ∨ na = 1 := by omega
     rcases hk with rfl | rfl <;> rcases this with rfl | rfl <;> (repeat first | with_reducible exact leaf | refine br_pos rfl ?_ | refine br_neg rfl ?_)
   · rcases hk with rfl | rfl <;> (repeat first | with_reducible exact leaf | refine br_pos rfl ?_ | refine br_neg rfl ?_)
   · (repeat first | with_reducible exact leaf | refine br_pos rfl ?_ | refine br_neg rfl ?_)
   · rcases hk with rfl | rfl <;> (repeat first | with_reducible exact leaf | refine br_pos rfl ?_ | refine br_neg rfl ?_)
   · (repeat first | with_reducible exact leaf | refine br_pos rfl ?_ | refine br_neg rfl ?_)
     refine br_split (fun _ => ?_) (fun _ => ?_) <;> (repeat first | with_reducible exact leaf | refine br_pos rfl ?_ | refine br_neg rfl ?_)
   · (repeat first | with_reducible exact leaf | refine br_pos rfl ?_ | refine br_neg rfl ?_)
     refine br_split (fun _ => ?_) (fun _ => ?_) <;> (repeat first | with_reducible exact leaf | refine br_pos rfl ?_ | refine br_neg rfl ?_) <;> refine br_split (fun _ => ?_) (fun _ => ?_) <;> (repeat first | with_reducible exact leaf | refine br_pos rfl ?_ | refine br_neg rfl ?_)
end
theorem tree_tri {s : Bytes} {h : PHeap} {p : Pg} (hw : ∀ f ∈ p.funcs, wfSs f.body) (hc : cntP p ≤ 4097) {ga fa : Option Addr} {gn gc fc : Nat} (hF : At 5 (RF (plP s) 8 7) h fa p.funcs) :
 Tri Tryz.prog 56 [vA [vL ga gn gc, vL fa p.funcs.length fc]] h fun v h' => v = vB true ∧ Ext h h' := by
 refine T56 ?_
 unfold R56
 intro b1 hb1 h1 hh1 b2 hb2 h2 hh2
 have hx1 := Put.ext hh1 hb1
 have hx2 := Put.ext hh2 hb2
 refine ⟨_, _, _, Put.at hh2, ⟨by simp, Nat.zero_le _⟩, ?_⟩
 intro h3 hh3
 have hne : b2 ≠ b1 := fun e => by subst e; rw [Put.at hh1] at hb2; cases hb2
 have hb3 : h3 b2 = some (.cells ⟨[vP b1 0]⟩ 127) := Put.at hh3
 have hx3 : Ext h h3 := fun k o hk => by
  rw [Put.chg hh3 k (fun e => by subst e; rw [hx1 _ _ hk] at hb2; cases hb2)]
  exact hx2 _ _ (hx1 _ _ hk)
 simp only [cntP] at hc
 have hlen := cntFs_len p.funcs
 have hcb : CB b1 4096 h3 := ⟨Nat.le_refl _, by rw [Put.chg hh3 _ hne.symm]; exact hx2 _ _ (Put.at hh1)⟩
 clear hh1 hh2 hh3 hb2 hx1 hx2
 generalize p.funcs = fs at *
 have hfc : cntFs fs ≤ 4096 + fs.length := by
  cases fs with
  | nil => simp [cntFs]
  | cons f fs => simp; omega
 refine T98 ?_
 unfold R98
 suffices hs : Tri Tryz.prog 145 [vL fa fs.length fc, vF 99 [] [vP b2 0]] h3 fun v h' => v = vI (-1) ∧ Ext h h' by
  refine Tri.mono hs ?_
  rintro _ h1 ⟨rfl, h2⟩
  exact ⟨_, rfl, _, rfl, rfl, h2⟩
 refine T145 ?_
 unfold R145
 refine ⟨fun m i h' => Away b1 h3 h' ∧ ∃ j n : Nat, i = j ∧ j + m = fs.length ∧ CB b1 n h' ∧ cntFs (fs.drop j) ≤ n + (fs.drop j).length, ⟨fs.length, Away.refl _ _, 0, 4096, rfl, by omega, hcb, hfc⟩, ?_⟩
 rintro m _ h4 ⟨ha, j, n, rfl, hjm, hcj, hn⟩
 have hx4 := ext_away hb1 hx3 ha
 refine br_split (fun e => ?_) (fun e => ⟨rfl, hx4⟩)
 have hj : j < fs.length := by
  have := of_decide_eq_true e
  omega
 obtain ⟨b, o, cs, rfl, hr, hrel⟩ := hF.get hj
 have hwj := hw _ (List.getElem_mem hj)
 rw [List.drop_eq_getElem_cons hj] at hn
 simp only [cntFs, List.length_cons] at hn
 generalize fs[j] = x at *
 obtain ⟨a1, c1, a2, c2, rfl, hP1, hB1, _⟩ := hrel
 simp only [cntF] at hn
 have hb4 := ha _ _ hne hb3
 refine ⟨b, o, rfl, ⟨by omega, by omega⟩, _, _, _, _, _, _, _, _, _, row_ext (fun ob => hx4 b ob) hr, ?_⟩
 refine T99 ?_
 unfold R99
 refine ⟨_, _, cell_of hb4 0, ?_⟩
 have := cntFs_len (fs.drop (j + 1))
 refine Tri.mono (tstmts hb1 (fun e he => tstmt hb1 _ e (Nat.le_refl _) (wfSs_iff.1 hwj e he)) hB1 (n := n - cntSs x.body) hx4 (by rw [show n - cntSs x.body + cntSs x.body = n by omega]; exact hcj)) ?_
 rintro _ h5 ⟨rfl, h6, h7⟩
 refine ⟨_, rfl, _, rfl, br_neg rfl ⟨m - 1, by omega, ⟨ha.trans h6, j + 1, _, ?_, by omega, h7, by omega⟩, trivial⟩⟩
 rw [wrap64 (by omega) (by omega)]; rfl
end Go.Proofs.D
namespace Go.Sx
theorem parseS_cl {PT : Tok → Prop} {PX : Nat → Prop} {PE : E → Prop} {PS : S → Prop} {PG : G → Prop} {PF : F → Prop} (C : ClP PT PX PE PS PG PF) {s : Bytes} (hT : ∀ ts, scanS s = .ok ts → ∀ t ∈ ts, PT t) {p : Pg} (h : parseS s = .ok p) : (∀ g ∈ p.globals, PG g) ∧ ∀ f ∈ p.funcs, PF f := by
 unfold parseS at h
 cases hsc : scanS s with
 | error e => rw [hsc] at h; cases h
 | ok ts =>
   have hp := pProg_rp C (20 * ts.length + 40) ⟨[], []⟩ ts 0 (fun g hg => by cases hg) (fun g hg => by cases hg) (hT _ hsc)
   rw [hsc] at h
   simp only at h
   cases hpp : pProg (20 * ts.length + 40) ⟨[], []⟩ ts 0 with
   | error e => rw [hpp] at h; cases h
   | ok q =>
     obtain ⟨p', ts', d'⟩ := q
     rw [hpp] at h
     cases h
     exact (hp.1 _ _ _ hpp).1
theorem wfCl : ClP (fun _ => True) (fun _ => True) wfE wfS (fun _ => True) (fun f => wfSs f.body) where
 toClS := wfClS
 g0 _ _ _ := trivial
 g1 _ _ _ _ _ _ := trivial
 g2 _ _ _ _ _ _ := trivial
 f1 _ _ b _ _ _ h := wfSs_iff.2 h
theorem parseS_wf {s : Bytes} {p : Pg} (h : parseS s = .ok p) : ∀ f ∈ p.funcs, wfSs f.body := (parseS_cl wfCl (fun _ _ _ _ => trivial) h).2
end Go.Sx
namespace Go.Proofs.D
open Go Go.Den Go.Sx
set_option maxRecDepth 100000
attribute [local irreducible] IntKind.wrap Tri parseS
section
variable {s t : Bytes} {h : PHeap}
def EE (s t : Bytes) (h : PHeap) (e e' : E) : Prop := ∀ cs cs', RE (plP s) 8 h e cs → RE (plP t) 8 h e' cs' → Tri Tryz.prog 122 [vA cs, vA cs'] h fun v h' => v = vB (eqE e e') ∧ h' = h
theorem sameEs1 {es es' : List E} (hl : es.length ≤ 100000) (ih : ∀ e ∈ es, ∀ e' ∈ es', EE s t h e e') {a a' : Option Addr} {c c' : Nat} (hA : At 8 (RE (plP s) 8) h a es) (hA' : At 8 (RE (plP t) 8) h a' es') :
 Tri Tryz.prog 121 [vL a es.length c, vL a' es'.length c', vF 122 [] []] h fun v h' => v = vB (eqEs es es') ∧ h' = h := by
 refine T121 ?_
 unfold R121
 by_cases hlen : es.length = es'.length
 · refine br_neg (by simp [hlen]) ?_
   refine ⟨fun m i h' => h' = h ∧ ∃ j : Nat, i = j ∧ j + m = es.length ∧ eqEs (es.drop j) (es'.drop j) = eqEs es es', ⟨es.length, rfl, 0, rfl, by omega, rfl⟩, ?_⟩
   rintro m _ h1 ⟨rfl, j, rfl, hjm, hres⟩
   refine br_split (fun e => ?_) (fun e => ?_)
   · have hj : j < es.length := by have := of_decide_eq_true e; omega
     have hj' : j < es'.length := by omega
     obtain ⟨b, o, cs, ha, hr, hrel⟩ := hA.get hj
     obtain ⟨b', o', cs', ha', hr', hrel'⟩ := hA'.get hj'
     have ihj := ih _ (List.getElem_mem hj) _ (List.getElem_mem hj') _ _ hrel hrel'
     rw [eqEs_L, eqL_drop hj hj', ← eqEs_L] at hres
     generalize es[j] = x at *
     generalize es'[j] = y at *
     match x, y, hrel, hrel' with
     | .mk kd op nm vl tx args pos, .mk kd' op' nm' vl' tx' args' pos', hrel, hrel' =>
     obtain ⟨a1, c1, rfl, hA1⟩ := RE_iff.1 hrel
     obtain ⟨a2, c2, rfl, hA2⟩ := RE_iff.1 hrel'
     refine ⟨b, o, ha, ⟨by omega, by omega⟩, _, _, _, _, _, _, _, _, _, _, hr, b', o', ha', ⟨by omega, by omega⟩, _, _, _, _, _, _, _, _, _, _, hr', ?_⟩
     refine Tri.mono ihj ?_
     rintro _ h ⟨rfl, rfl⟩
     refine ⟨_, rfl, br_and hres (fun e => ⟨by rw [e], rfl⟩) (fun _ hres => ?_)⟩
     refine ⟨m - 1, by omega, ⟨rfl, j + 1, ?_, by omega, hres⟩, trivial⟩
     rw [wrap64 (by omega) (by omega)]; rfl
   · have hj : es.length ≤ j := by have := of_decide_eq_false e; omega
     rw [List.drop_eq_nil_of_le hj, List.drop_eq_nil_of_le (by omega)] at hres
     exact ⟨by rw [← hres]; rfl, rfl⟩
 · refine br_pos (by rw [int_bne]; simp [hlen]) ⟨?_, rfl⟩
   rw [eqEs_L, eqL_len hlen]
theorem sameE : ∀ k (e e' : E), cntE e ≤ k → k ≤ 100000 → EE s t h e e' := by
 intro k
 induction k with
 | zero => intro e e' hc; have := cntE_pos e; omega
 | succ k ih =>
   intro e e' hc hk cs cs' hrel hrel'
   match e, e', hc, hrel, hrel' with
   | .mk kd op nm vl tx args pos, .mk kd' op' nm' vl' tx' args' pos', hc, hrel, hrel' =>
   obtain ⟨a1, c1, rfl, hA1⟩ := RE_iff.1 hrel
   obtain ⟨a2, c2, rfl, hA2⟩ := RE_iff.1 hrel'
   simp only [cntE] at hc
   have hl := cntEs_len args
   have hres := eqE_c (k := kd) (k' := kd') (v := vl) (v' := vl') (p := pos) (p' := pos') (o := op) (o' := op') (n := nm) (n' := nm') (t := tx) (t' := tx') (a := args) (a' := args') true
   rw [Bool.and_true] at hres
   replace hres := hres.symm
   refine T122 ?_
   unfold R122
   rw [int_beq]
   refine br_and2 hres (fun e => ⟨by rw [e], rfl⟩) (fun _ hres => ?_)
   refine br_and2 hres (fun e => ⟨by rw [e], rfl⟩) (fun _ hres => ?_)
   refine br_and2 hres (fun e => ⟨by rw [e], rfl⟩) (fun _ hres => ?_)
   rw [int_beq]
   refine br_and2 hres (fun e => ⟨by rw [e], rfl⟩) (fun _ hres => ?_)
   refine br_and2 hres (fun e => ⟨by rw [e], rfl⟩) (fun _ hres => ?_)
   refine Tri.mono (sameEs1 (by omega) (fun e he e' _ => ih e e' (by have := cntEs_mem he; omega) (by omega)) hA1 hA2) ?_
   rintro _ h ⟨rfl, rfl⟩
   exact ⟨_, rfl, by rw [← hres, Bool.and_true], rfl⟩
theorem sameEs {es es' : List E} (hc : cntEs es ≤ 100000) {a a' : Option Addr} {c c' : Nat} (hA : At 8 (RE (plP s) 8) h a es) (hA' : At 8 (RE (plP t) 8) h a' es') :
 Tri Tryz.prog 121 [vL a es.length c, vL a' es'.length c', vF 122 [] []] h fun v h' => v = vB (eqEs es es') ∧ h' = h :=
 sameEs1 (by have := cntEs_len es; omega) (fun e he e' _ => sameE 100000 e e' (by have := cntEs_mem he; omega) (Nat.le_refl _)) hA hA'
def SE (s t : Bytes) (h : PHeap) (e e' : S) : Prop := ∀ cs cs', RS (plP s) 8 7 h e cs → RS (plP t) 8 7 h e' cs' → Tri Tryz.prog 76 [vA cs, vA cs'] h fun v h' => v = vB (eqS e e') ∧ h' = h
theorem sameSs1 {es es' : List S} (hl : es.length ≤ 100000) (ih : ∀ e ∈ es, ∀ e' ∈ es', SE s t h e e') {a a' : Option Addr} {c c' : Nat} (hA : At 7 (RS (plP s) 8 7) h a es) (hA' : At 7 (RS (plP t) 8 7) h a' es') :
 Tri Tryz.prog 75 [vL a es.length c, vL a' es'.length c', vF 76 [] []] h fun v h' => v = vB (eqSs es es') ∧ h' = h := by
 refine T75 ?_
 unfold R75
 by_cases hlen : es.length = es'.length
 · refine br_neg (by simp [hlen]) ?_
   refine ⟨fun m i h' => h' = h ∧ ∃ j : Nat, i = j ∧ j + m = es.length ∧ eqSs (es.drop j) (es'.drop j) = eqSs es es', ⟨es.length, rfl, 0, rfl, by omega, rfl⟩, ?_⟩
   rintro m _ h1 ⟨rfl, j, rfl, hjm, hres⟩
   refine br_split (fun e => ?_) (fun e => ?_)
   · have hj : j < es.length := by have := of_decide_eq_true e; omega
     have hj' : j < es'.length := by omega
     obtain ⟨b, o, cs, ha, hr, hrel⟩ := hA.get hj
     obtain ⟨b', o', cs', ha', hr', hrel'⟩ := hA'.get hj'
     have ihj := ih _ (List.getElem_mem hj) _ (List.getElem_mem hj') _ _ hrel hrel'
     rw [eqSs_L, eqL_drop hj hj', ← eqSs_L] at hres
     generalize es[j] = x at *
     generalize es'[j] = y at *
     match x, y, hrel, hrel' with
     | .mk kd nm args body els pos, .mk kd' nm' args' body' els' pos', hrel, hrel' =>
     obtain ⟨a1, c1, b1, d1, e1, f1, rfl, hA1, hB1, hE1⟩ := RS_iff.1 hrel
     obtain ⟨a2, c2, b2, d2, e2, f2, rfl, hA2, hB2, hE2⟩ := RS_iff.1 hrel'
     refine ⟨b, o, ha, ⟨by omega, by omega⟩, _, _, _, _, _, _, _, _, _, _, _, _, _, hr, b', o', ha', ⟨by omega, by omega⟩, _, _, _, _, _, _, _, _, _, _, _, _, _, hr', ?_⟩
     refine Tri.mono ihj ?_
     rintro _ h ⟨rfl, rfl⟩
     refine ⟨_, rfl, br_and hres (fun e => ⟨by rw [e], rfl⟩) (fun _ hres => ?_)⟩
     refine ⟨m - 1, by omega, ⟨rfl, j + 1, ?_, by omega, hres⟩, trivial⟩
     rw [wrap64 (by omega) (by omega)]; rfl
   · have hj : es.length ≤ j := by have := of_decide_eq_false e; omega
     rw [List.drop_eq_nil_of_le hj, List.drop_eq_nil_of_le (by omega)] at hres
     exact ⟨by rw [← hres]; rfl, rfl⟩
 · refine br_pos (by rw [int_bne]; simp [hlen]) ⟨?_, rfl⟩
   rw [eqSs_L, eqL_len hlen]
theorem sameS : ∀ k (e e' : S), cntS e ≤ k → k ≤ 100000 → SE s t h e e' := by
 intro k
 induction k with
 | zero => intro e e' hc; have := cntS_pos e; omega
 | succ k ih =>
   intro e e' hc hk cs cs' hrel hrel'
   match e, e', hc, hrel, hrel' with
   | .mk kd nm args body els pos, .mk kd' nm' args' body' els' pos', hc, hrel, hrel' =>
   obtain ⟨a1, c1, b1, d1, e1, f1, rfl, hA1, hB1, hE1⟩ := RS_iff.1 hrel
   obtain ⟨a2, c2, b2, d2, e2, f2, rfl, hA2, hB2, hE2⟩ := RS_iff.1 hrel'
   simp only [cntS] at hc
   have hl1 := cntSs_len body
   have hl2 := cntSs_len els
   have hres := eqS_c (k := kd) (k' := kd') (p := pos) (p' := pos') (n := nm) (n' := nm') (a := args) (a' := args') (b := body) (b' := body') (e := els) (e' := els') true
   rw [Bool.and_true] at hres
   replace hres := hres.symm
   refine T76 ?_
   unfold R76
   rw [int_beq]
   refine br_and2 hres (fun e => ⟨by rw [e], rfl⟩) (fun _ hres => ?_)
   refine br_and2 hres (fun e => ⟨by rw [e], rfl⟩) (fun _ hres => ?_)
   refine Tri.mono (sameEs (by omega) hA1 hA2) ?_
   rintro _ h ⟨rfl, rfl⟩
   refine ⟨_, rfl, br_and2 hres (fun e => ⟨by rw [e], rfl⟩) (fun _ hres => ?_)⟩
   refine Tri.mono (sameSs1 (by omega) (fun e he e' _ => ih e e' (by have := cntSs_mem he; omega) (by omega)) hB1 hB2) ?_
   rintro _ h ⟨rfl, rfl⟩
   refine ⟨_, rfl, br_and2 hres (fun e => ⟨by rw [e], rfl⟩) (fun _ hres => ?_)⟩
   refine Tri.mono (sameSs1 (by omega) (fun e he e' _ => ih e e' (by have := cntSs_mem he; omega) (by omega)) hE1 hE2) ?_
   rintro _ h ⟨rfl, rfl⟩
   exact ⟨_, rfl, by rw [← hres, Bool.and_true], rfl⟩
theorem sameSs {es es' : List S} (hc : cntSs es ≤ 100000) {a a' : Option Addr} {c c' : Nat} (hA : At 7 (RS (plP s) 8 7) h a es) (hA' : At 7 (RS (plP t) 8 7) h a' es') :
 Tri Tryz.prog 75 [vL a es.length c, vL a' es'.length c', vF 76 [] []] h fun v h' => v = vB (eqSs es es') ∧ h' = h :=
 sameSs1 (by have := cntSs_len es; omega) (fun e he e' _ => sameS 100000 e e' (by have := cntSs_mem he; omega) (Nat.le_refl _)) hA hA'
theorem equal_t {l l' : List Bytes} (hl : l.length ≤ 100000) {a a' : Option Addr} {c c' : Nat} (hA : At 1 (fun _ x cs => cs = [vS x]) h a l) (hA' : At 1 (fun _ x cs => cs = [vS x]) h a' l') :
 Tri Tryz.prog 74 [vL a l.length c, vL a' l'.length c'] h fun v h' => v = vB (l == l') ∧ h' = h := by
 refine T74 ?_
 unfold R74
 by_cases hlen : l.length = l'.length
 · refine br_neg (by simp [hlen]) ?_
   refine ⟨fun m i h' => h' = h ∧ ∃ j : Nat, i = j ∧ j + m = l.length ∧ (l.drop j == l'.drop j) = (l == l'), ⟨l.length, rfl, 0, rfl, by omega, rfl⟩, ?_⟩
   rintro m _ h1 ⟨rfl, j, rfl, hjm, hres⟩
   refine br_split (fun e => ?_) (fun e => ?_)
   · have hj : j < l.length := by have := of_decide_eq_true e; omega
     have hj' : j < l'.length := by omega
     obtain ⟨b, o, cs, ha, hr, hrel⟩ := hA.get hj
     obtain ⟨b', o', cs', ha', hr', hrel'⟩ := hA'.get hj'
     have hrel : cs = [vS l[j]] := hrel
     have hrel' : cs' = [vS l'[j]] := hrel'
     subst hrel; subst hrel'
     rw [beqL_drop hj hj'] at hres
     refine ⟨b, o, ha, ⟨by omega, by omega⟩, _, hr, b', o', ha', ⟨by omega, by omega⟩, _, hr', br_and hres (fun e => ⟨by rw [e], rfl⟩) (fun _ hres => ?_)⟩
     refine ⟨m - 1, by omega, ⟨rfl, j + 1, ?_, by omega, hres⟩, trivial⟩
     rw [wrap64 (by omega) (by omega)]; rfl
   · have hj : l.length ≤ j := by have := of_decide_eq_false e; omega
     rw [List.drop_eq_nil_of_le hj, List.drop_eq_nil_of_le (by omega)] at hres
     exact ⟨by rw [← hres]; rfl, rfl⟩
 · refine br_pos (by rw [int_bne]; simp [hlen]) ⟨?_, rfl⟩
   rw [beqL_len hlen]
theorem sameGs {es es' : List G} (hl : es.length ≤ 100000) {a a' : Option Addr} {c c' : Nat} (hA : At 5 (RG (plP s)) h a es) (hA' : At 5 (RG (plP t)) h a' es') :
 Tri Tryz.prog 77 [vL a es.length c, vL a' es'.length c', vF 72 [] []] h fun v h' => v = vB (eqL eqG es es') ∧ h' = h := by
 refine T77 ?_
 unfold R77
 by_cases hlen : es.length = es'.length
 · refine br_neg (by simp [hlen]) ?_
   refine ⟨fun m i h' => h' = h ∧ ∃ j : Nat, i = j ∧ j + m = es.length ∧ eqL eqG (es.drop j) (es'.drop j) = eqL eqG es es', ⟨es.length, rfl, 0, rfl, by omega, rfl⟩, ?_⟩
   rintro m _ h1 ⟨rfl, j, rfl, hjm, hres⟩
   refine br_split (fun e => ?_) (fun e => ?_)
   · have hj : j < es.length := by have := of_decide_eq_true e; omega
     have hj' : j < es'.length := by omega
     obtain ⟨b, o, cs, ha, hr, hrel⟩ := hA.get hj
     obtain ⟨b', o', cs', ha', hr', hrel'⟩ := hA'.get hj'
     rw [eqL_drop hj hj'] at hres
     generalize es[j] = x at *
     generalize es'[j] = y at *
     have hrel : cs = [vS x.name, vI x.size, vI x.value] ++ plP s x.pos := hrel
     have hrel' : cs' = [vS y.name, vI y.size, vI y.value] ++ plP t y.pos := hrel'
     subst hrel; subst hrel'
     have hE : Tri Tryz.prog 72 [vA ([vS x.name, vI x.size, vI x.value] ++ plP s x.pos), vA ([vS y.name, vI y.size, vI y.value] ++ plP t y.pos)] h1 fun v h' => v = vB (eqG x y) ∧ h' = h1 := by
      refine T72 ?_
      unfold R72
      have hg := eqG_c (g := x) (g' := y) true
      rw [Bool.and_true] at hg
      replace hg := hg.symm
      refine br_and2 hg (fun e => ⟨by rw [e], rfl⟩) (fun _ hg => ?_)
      rw [int_beq, int_beq]
      refine br_and2 hg (fun e => ⟨by rw [e], rfl⟩) (fun _ hg => ?_)
      exact ⟨by rw [← hg, Bool.and_true], rfl⟩
     refine ⟨b, o, ha, ⟨by omega, by omega⟩, _, _, _, _, _, hr, b', o', ha', ⟨by omega, by omega⟩, _, _, _, _, _, hr', ?_⟩
     refine Tri.mono hE ?_
     rintro _ h ⟨rfl, rfl⟩
     refine ⟨_, rfl, br_and hres (fun e => ⟨by rw [e], rfl⟩) (fun _ hres => ?_)⟩
     refine ⟨m - 1, by omega, ⟨rfl, j + 1, ?_, by omega, hres⟩, trivial⟩
     rw [wrap64 (by omega) (by omega)]; rfl
   · have hj : es.length ≤ j := by have := of_decide_eq_false e; omega
     rw [eqL_nil hj (by omega)] at hres
     exact ⟨by rw [← hres], rfl⟩
 · refine br_pos (by rw [int_bne]; simp [hlen]) ⟨?_, rfl⟩
   rw [eqL_len hlen]
theorem sameFs {es es' : List F} (hc : cntFs es ≤ 100000) {a a' : Option Addr} {c c' : Nat} (hA : At 5 (RF (plP s) 8 7) h a es) (hA' : At 5 (RF (plP t) 8 7) h a' es') :
 Tri Tryz.prog 78 [vL a es.length c, vL a' es'.length c', vF 73 [] []] h fun v h' => v = vB (eqL eqF es es') ∧ h' = h := by
 have hfl := cntFs_len es
 refine T78 ?_
 unfold R78
 by_cases hlen : es.length = es'.length
 · refine br_neg (by simp [hlen]) ?_
   refine ⟨fun m i h' => h' = h ∧ ∃ j : Nat, i = j ∧ j + m = es.length ∧ eqL eqF (es.drop j) (es'.drop j) = eqL eqF es es', ⟨es.length, rfl, 0, rfl, by omega, rfl⟩, ?_⟩
   rintro m _ h1 ⟨rfl, j, rfl, hjm, hres⟩
   refine br_split (fun e => ?_) (fun e => ?_)
   · have hj : j < es.length := by have := of_decide_eq_true e; omega
     have hj' : j < es'.length := by omega
     obtain ⟨b, o, cs, ha, hr, hrel⟩ := hA.get hj
     obtain ⟨b', o', cs', ha', hr', hrel'⟩ := hA'.get hj'
     have hcf := cntFs_mem (List.getElem_mem hj)
     rw [eqL_drop hj hj'] at hres
     generalize es[j] = x at *
     generalize es'[j] = y at *
     obtain ⟨a1, c1, b1, d1, rfl, hP1, hB1, _⟩ := hrel
     obtain ⟨a2, c2, b2, d2, rfl, hP2, hB2, _⟩ := hrel'
     simp only [cntF] at hcf
     have hE : Tri Tryz.prog 73 [vA ([vS x.name, vL a1 x.params.length c1, vL b1 x.body.length d1] ++ plP s x.pos), vA ([vS y.name, vL a2 y.params.length c2, vL b2 y.body.length d2] ++ plP t y.pos)] h1 fun v h' => v = vB (eqF x y) ∧ h' = h1 := by
      refine T73 ?_
      unfold R73
      have hg := eqF_c (g := x) (g' := y) true
      rw [Bool.and_true] at hg
      replace hg := hg.symm
      refine br_and2 hg (fun e => ⟨by rw [e], rfl⟩) (fun _ hg => ?_)
      refine Tri.mono (equal_t (by omega) hP1 hP2) ?_
      rintro _ h ⟨rfl, rfl⟩
      refine ⟨_, rfl, br_and2 hg (fun e => ⟨by rw [e], rfl⟩) (fun _ hg => ?_)⟩
      refine Tri.mono (sameSs (by omega) hB1 hB2) ?_
      rintro _ h ⟨rfl, rfl⟩
      exact ⟨_, rfl, by rw [← hg, Bool.and_true], rfl⟩
     refine ⟨b, o, ha, ⟨by omega, by omega⟩, _, _, _, _, _, _, _, _, _, hr, b', o', ha', ⟨by omega, by omega⟩, _, _, _, _, _, _, _, _, _, hr', ?_⟩
     refine Tri.mono hE ?_
     rintro _ h ⟨rfl, rfl⟩
     refine ⟨_, rfl, br_and hres (fun e => ⟨by rw [e], rfl⟩) (fun _ hres => ?_)⟩
     refine ⟨m - 1, by omega, ⟨rfl, j + 1, ?_, by omega, hres⟩, trivial⟩
     rw [wrap64 (by omega) (by omega)]; rfl
   · have hj : es.length ≤ j := by have := of_decide_eq_false e; omega
     rw [eqL_nil hj (by omega)] at hres
     exact ⟨by rw [← hres], rfl⟩
 · refine br_pos (by rw [int_bne]; simp [hlen]) ⟨?_, rfl⟩
   rw [eqL_len hlen]
theorem same_p {p q : Pg} (hw : ∀ f ∈ p.funcs, wfSs f.body) (hc : cntP p ≤ 4097) (hw' : ∀ f ∈ q.funcs, wfSs f.body) (hc' : cntP q ≤ 4097)
 {ga fa ga' fa' : Option Addr} {gc fc gc' fc' : Nat} (hG : At 5 (RG (plP s)) h ga p.globals) (hF : At 5 (RF (plP s) 8 7) h fa p.funcs) (hG' : At 5 (RG (plP t)) h ga' q.globals) (hF' : At 5 (RF (plP t) 8 7) h fa' q.funcs) :
 Tri Tryz.prog 32 [vA [vL ga p.globals.length gc, vL fa p.funcs.length fc], vA [vL ga' q.globals.length gc', vL fa' q.funcs.length fc']] h fun v h' => v = vB (eqP p q) ∧ Ext h h' := by
 refine T32 ?_
 unfold R32
 refine Tri.mono (tree_tri hw hc hF) ?_
 rintro _ h1 ⟨rfl, hx1⟩
 refine ⟨_, rfl, br_neg rfl ?_⟩
 refine Tri.mono (tree_tri hw' hc' (hF'.ext (RF_mono _ _ _) hx1)) ?_
 rintro _ h2 ⟨rfl, hx2⟩
 have hx := hx1.trans hx2
 refine ⟨_, rfl, br_neg rfl ?_⟩
 simp only [cntP] at hc
 refine Tri.mono (sameGs (by omega) (hG.ext (RG_mono _) hx) (hG'.ext (RG_mono _) hx)) ?_
 rintro _ h3 ⟨rfl, rfl⟩
 refine ⟨_, rfl, br_and2 (r := eqL eqF p.funcs q.funcs) (res := eqP p q) rfl (fun e => ⟨by rw [e], hx⟩) (fun _ hres => ?_)⟩
 refine Tri.mono (sameFs (by omega) (hF.ext (RF_mono _ _ _) hx) (hF'.ext (RF_mono _ _ _) hx)) ?_
 rintro _ h4 ⟨rfl, rfl⟩
 exact ⟨_, rfl, by rw [hres], hx⟩
end
end Go.Proofs.D
namespace Go.Sx
abbrev Er := Option (Nat × Option Nat)
def failC (b : Bool) (pos : Option Nat) (code : Nat) (e : Er) : Er :=
 match e with
 | some x => some x
 | none => if b then some (code, pos) else none
def builtinS (n : Bytes) : Option (Nat × Nat) :=
 if n == [112, 101, 101, 107] then some (1, 1) else if n == [112, 111, 107, 101] then some (2, 2) else if n == [107, 101, 114, 110, 101, 108] then some (1, 5) else none
abbrev Tab := List (Bytes × Nat)
def getT (t : Tab) (n : Bytes) : Option Nat :=
 match t with
 | [] => none
 | (k, v) :: t => if n == k then some v else getT t n
def varC (gl : Tab) (vis : List Bytes) (name : Bytes) (array : Bool) (pos : Nat) (e : Er) : Er :=
 if vis.contains name then failC (array != false) (some pos) 31 e
 else failC (array != ((getT gl name).getD 0 != 0)) (some pos) 31 (failC (getT gl name).isNone (some pos) 37 e)
def callC (fn : Tab) (name : Bytes) (n pos : Nat) (e : Er) : Er :=
 match builtinS name with
 | some (low, high) => failC (decide (n < low) || decide (high < n)) (some pos) 31 e
 | none => failC (decide (n < (getT fn name).getD 0) || decide ((getT fn name).getD 0 < n)) (some pos) 31 (failC (getT fn name).isNone (some pos) 37 e)
mutual
def ckE (gl fn : Tab) (vis : List Bytes) : E → Er → Er
 | .mk k _ nm _ _ args pos, e => ckEs gl fn vis args (if k = 3 ∨ k = 4 then varC gl vis nm (k == 4) pos e else if k = 5 then callC fn nm args.length pos e else e)
def ckEs (gl fn : Tab) (vis : List Bytes) : List E → Er → Er
 | [], e => e
 | x :: xs, e => ckEs gl fn vis xs (ckE gl fn vis x e)
end
structure CS where
 err : Er
 vis : List Bytes
 cnt : Nat
mutual
def ckS (gl fn : Tab) (loop : Bool) : S → CS → CS
 | .mk k nm args body els pos, c =>
   let e0 := if k = 2 ∨ k = 3 then varC gl c.vis nm (k == 3) pos c.err else if k = 8 ∨ k = 9 then failC (!loop) (some pos) 10 c.err else c.err
   let e1 := ckEs gl fn c.vis args e0
   if k = 1 then ⟨failC (decide (32 ≤ c.cnt)) (some pos) 9 (failC (c.vis.contains nm) (some pos) 7 e1), c.vis ++ [nm], c.cnt + 1⟩
   else if k = 5 then
    let r := ckSs gl fn loop body ⟨e1, c.vis, c.cnt⟩
    let q := ckSs gl fn loop els ⟨r.err, c.vis, r.cnt⟩
    ⟨q.err, c.vis, q.cnt⟩
   else if k = 6 then
    let r := ckSs gl fn true body ⟨e1, c.vis, c.cnt⟩
    ⟨r.err, c.vis, r.cnt⟩
   else ⟨e1, c.vis, c.cnt⟩
def ckSs (gl fn : Tab) (loop : Bool) : List S → CS → CS
 | [], c => c
 | s :: ss, c => ckSs gl fn loop ss (ckS gl fn loop s c)
end
def ckL (gl fn : Tab) (loop : Bool) (l : List S) (c : CS) : CS := let r := ckSs gl fn loop l c; ⟨r.err, c.vis, r.cnt⟩
def ckG (i : Nat) (gl : Tab) (g : G) (e : Er) : Er :=
 failC (decide (256 < g.size)) (some g.pos) 2 (failC ((getT gl g.name).isSome || (builtinS g.name).isSome) (some g.pos) 7 (failC (decide (64 ≤ i)) (some g.pos) 9 e))
def ckGs : Nat → List G → Tab → Er → Tab × Er
 | _, [], gl, e => (gl, e)
 | i, g :: gs, gl, e => ckGs (i + 1) gs ((g.name, g.size) :: gl) (ckG i gl g e)
def ckPs (pos : Nat) : List Bytes → List Bytes → Er → Er
 | _, [], e => e
 | seen, q :: qs, e => ckPs pos (seen ++ [q]) qs (failC (seen.contains q) (some pos) 7 e)
def ckF (i : Nat) (gl fn : Tab) (f : F) (e : Er) : Er :=
 ckPs f.pos [] f.params (failC (decide (6 < f.params.length)) (some f.pos) 9 (failC ((getT gl f.name).isSome || (getT fn f.name).isSome || (builtinS f.name).isSome) (some f.pos) 7 (failC (decide (64 ≤ i)) (some f.pos) 9 e)))
def ckFs (gl : Tab) : Nat → List F → Tab → Er → Tab × Er
 | _, [], fn, e => (fn, e)
 | i, f :: fs, fn, e => ckFs gl (i + 1) fs ((f.name, f.params.length) :: fn) (ckF i gl fn f e)
def ckB (gl fn : Tab) : List F → Er → Er
 | [], e => e
 | f :: fs, e => ckB gl fn fs (ckL gl fn false f.body ⟨e, f.params, f.params.length⟩).err
def mainS : Bytes := [109, 97, 105, 110]
def checkS (p : Pg) : Er :=
 let g := ckGs 0 p.globals [] none
 let f := ckFs g.1 0 p.funcs [] g.2
 ckB g.1 f.1 p.funcs (failC ((getT f.1 mainS).isNone || ((getT f.1 mainS).getD 0 != 0)) none 8 f.2)
end Go.Sx
namespace Go.Proofs.D
open Go Go.Den Go.Sx
set_option maxRecDepth 100000
attribute [local irreducible] IntKind.wrap Tri parseS
def erp (s : Bytes) : Er → Int × Int × Int
 | none => (0, 0, 0)
 | some (c, none) => (1, 1, c)
 | some (c, some n) => ((place s n).1, (place s n).2, c)
def pls (s : Bytes) : Option Nat → Int × Int
 | none => (1, 1)
 | some n => ((place s n).1, (place s n).2)
def MG (h : PHeap) (m : Nat) (gl : Tab) : Prop := ∃ L ck, h m = some (.map ⟨ents L⟩ ck) ∧ ∀ n, match getT gl n with
 | none => mapGet L n = none
 | some z => ∃ l i j k, mapGet L n = some (vA [vS l, vI z, vI i, vI j, vI k])
def MF (h : PHeap) (m : Nat) (fn : Tab) : Prop := ∃ L ck, h m = some (.map ⟨ents L⟩ ck) ∧ ∀ n, mapGet L n = (getT fn n).map fun (k : Nat) => vI k
def KV (g : PHeap) (cb m1 m2 : Nat) (h : PHeap) (a : OA) (k : Nat) (vis : List Bytes) : Prop :=
 Own h 9 1 (vL a vis.length k) vis.length (vis.map fun l => vS l) ∧ ∀ b, a = ad b 0 → b ≠ cb ∧ b ≠ m1 ∧ b ≠ m2 ∧ g b = none
structure KB (g : PHeap) (cb m1 m2 : Nat) (gl fn : Tab) (h : PHeap) : Prop where
 ext : Ext g h
 f0 : g cb = none
 f1 : g m1 = none
 f2 : g m2 = none
 n1 : m1 ≠ cb
 n2 : m2 ≠ cb
 n3 : m1 ≠ m2
 mg : MG h m1 gl
 mf : MF h m2 fn
structure KS (s : Bytes) (g : PHeap) (cb m1 m2 : Nat) (gl fn : Tab) (c : CS) (h : PHeap) : Prop extends KB g cb m1 m2 gl fn h where
 er : ∀ x, c.err = some x → x.1 ≠ 0
 len : c.vis.length ≤ c.cnt
 bl : ∃ a k, h cb = some (.cells ⟨[vM m1, vM m2, vL a c.vis.length k, vI c.cnt, vI (erp s c.err).1, vI (erp s c.err).2.1, vI (erp s c.err).2.2]⟩ 114) ∧ KV g cb m1 m2 h a k c.vis
section
variable {s : Bytes} {g : PHeap} {cb m1 m2 : Nat} {gl fn : Tab} {c : CS} {h h' : PHeap}
theorem KB.chg (hk : KB g cb m1 m2 gl fn h) (x : Chg cb h h') : KB g cb m1 m2 gl fn h' where
 ext := ext_away hk.f0 hk.ext x.away
 f0 := hk.f0
 f1 := hk.f1
 f2 := hk.f2
 n1 := hk.n1
 n2 := hk.n2
 n3 := hk.n3
 mg := let ⟨L, ck, h1, h2⟩ := hk.mg; ⟨L, ck, by rw [x _ hk.n1]; exact h1, h2⟩
 mf := let ⟨L, ck, h1, h2⟩ := hk.mf; ⟨L, ck, by rw [x _ hk.n2]; exact h1, h2⟩
theorem KV.chg {a : OA} {k : Nat} {vis : List Bytes} (hk : KV g cb m1 m2 h a k vis) (x : Chg cb h h') : KV g cb m1 m2 h' a k vis :=
 ⟨Own.keep (fun b hb => x b (hk.2 b hb).1) hk.1, hk.2⟩
theorem KV.str {a : OA} {k : Nat} {vis : List Bytes} (hk : KV g cb m1 m2 h a k vis) : StrAt h a vis := by
 rcases hk.1.2 with ⟨_, h1⟩ | ⟨b, cap, rest, h1, h2, _, _⟩
 · exact .inl (List.eq_nil_of_length_eq_zero h1)
 · injection h1 with h1 _ _
   refine .inr ⟨b, 0, h1, fun j l hj => ?_⟩
   rw [cell_of h2]
   have : j < vis.length := (List.getElem?_eq_some_iff.1 hj).1
   rw [List.getElem?_append_left (by simpa using this)]
   simp [hj]
theorem fail_t (hk : KS s g cb m1 m2 gl fn c h) (b : Bool) (pos : Option Nat) (code : Nat) (hc : code ≠ 0) :
 Tri Tryz.prog 59 [vP cb 0, vB b, vI (pls s pos).1, vI (pls s pos).2, vI code] h fun v h' => v = vT [] ∧ KS s g cb m1 m2 gl fn { c with err := failC b pos code c.err } h' := by
 refine T59 ?_
 unfold R59
 obtain ⟨a, k, hb, hv⟩ := hk.bl
 refine br_split (fun e => ?_) (fun e => ?_)
 · subst e
   refine ⟨_, cell_of hb (0 + 6), ?_⟩
   cases hce : c.err with
   | none =>
     rw [hce] at hb
     refine br_pos rfl ⟨_, _, _, hb, ⟨by simp, Nat.zero_le _⟩, ?_⟩
     intro h1 hh1
     refine ⟨_, _, _, Put.at hh1, ⟨by simp [splice], Nat.zero_le _⟩, ?_⟩
     intro h2 hh2
     refine ⟨_, _, _, Put.at hh2, ⟨by simp [splice], Nat.zero_le _⟩, ?_⟩
     intro h3 hh3
     have hx := ((Put.chg hh1).trans (Put.chg hh2)).trans (Put.chg hh3)
     refine ⟨rfl, hk.toKB.chg hx, ?_, hk.len, a, k, ?_, hv.chg hx⟩
     · intro x hx; simp [failC] at hx; subst hx; exact hc
     · have := Put.at hh3
       cases pos <;> exact this
   | some x =>
     have hx := hk.er x hce
     have : (erp s (some x)).2.2 = x.1 := by
      obtain ⟨c, p⟩ := x
      cases p <;> rfl
     refine br_neg (by rw [this]; simpa using hx) ⟨rfl, ?_⟩
     show KS s g cb m1 m2 gl fn { c with err := failC true pos code (some x) } h
     rw [show failC true pos code (some x) = c.err from hce.symm]; exact hk
 · subst e
   refine ⟨rfl, ?_⟩
   have : failC false pos code c.err = c.err := by unfold failC; split <;> simp_all
   rw [this]; exact hk
theorem builtin_t (l : Bytes) (h : PHeap) : Tri Tryz.prog 24 [vS l] h fun v h' => v = (match builtinS l with | some (a, b) => vT [vI a, vI b, vB true] | none => vT [vI 0, vI 0, vB false]) ∧ h' = h := by
 refine T24 ?_
 unfold R24
 unfold builtinS
 refine br_split (fun e => ?_) (fun e => ?_)
 · rw [if_pos e]; exact ⟨rfl, rfl⟩
 rw [if_neg (by rw [e]; decide)]
 refine br_split (fun e => ?_) (fun e => ?_)
 · rw [if_pos e]; exact ⟨rfl, rfl⟩
 rw [if_neg (by rw [e]; decide)]
 refine br_split (fun e => ?_) (fun e => ?_)
 · rw [if_pos e]; exact ⟨rfl, rfl⟩
 rw [if_neg (by rw [e]; decide)]
 exact ⟨rfl, rfl⟩
theorem isBuiltin_t (l : Bytes) (h : PHeap) : Tri Tryz.prog 101 [vS l] h fun v h' => v = vB (builtinS l).isSome ∧ h' = h := by
 refine T101 ?_
 unfold R101
 refine Tri.mono (builtin_t l h) ?_
 rintro _ h ⟨rfl, rfl⟩
 cases builtinS l with
 | none => exact ⟨_, _, _, rfl, rfl, rfl⟩
 | some x => exact ⟨_, _, _, rfl, rfl, rfl⟩
theorem und111 : Tryz.prog.underlying 111 = some (.map 9 86) := rfl
theorem und112 : Tryz.prog.underlying 112 = some (.map 9 3) := rfl
theorem lookG (hk : KB g cb m1 m2 gl fn h) {ρ : Operand → Value} {m k : Operand} {l : Bytes} (hm : ρ m = vM m1) (hl : ρ k = vS l) (ty : TypeId) :
 Raw Tryz.prog (execOp ρ (mkO (.lookup 111 m k true) ty)) h fun v h' => h' = h ∧ ∃ nm i j k, v = vT [vA [vS nm, vI ((getT gl l).getD 0 : Nat), vI i, vI j, vI k], vB (getT gl l).isSome] := by
 obtain ⟨L, ck, h1, h2⟩ := hk.mg
 refine Raw.mono (raw_lookupS (z := vA [vS [], vI 0, vI 0, vI 0, vI 0]) und111 rfl rfl hm hl h1) ?_
 rintro _ h' ⟨rfl, rfl⟩
 refine ⟨rfl, ?_⟩
 have := h2 l
 cases hg : getT gl l with
 | none => rw [hg] at this; simp only at this; rw [this]; exact ⟨_, _, _, _, rfl⟩
 | some z => rw [hg] at this; obtain ⟨a, b, c, d, this⟩ := this; rw [this]; exact ⟨_, _, _, _, rfl⟩
theorem lookF (hk : KB g cb m1 m2 gl fn h) {ρ : Operand → Value} {m k : Operand} {l : Bytes} (hm : ρ m = vM m2) (hl : ρ k = vS l) (ty : TypeId) :
 Raw Tryz.prog (execOp ρ (mkO (.lookup 112 m k true) ty)) h fun v h' => h' = h ∧ v = vT [vI ((getT fn l).getD 0 : Nat), vB (getT fn l).isSome] := by
 obtain ⟨L, ck, h1, h2⟩ := hk.mf
 refine Raw.mono (raw_lookupS (z := vI 0) und112 rfl rfl hm hl h1) ?_
 rintro _ h' ⟨rfl, rfl⟩
 refine ⟨rfl, ?_⟩
 have := h2 l
 cases hg : getT fn l with
 | none => rw [hg] at this; simp only [Option.map_none] at this; rw [this]; rfl
 | some z => rw [hg] at this; simp only [Option.map_some] at this; rw [this]; rfl
theorem bne_cast (n : Nat) : (((n : Nat) : Int) != 0) = (n != 0) := by
 rw [Bool.eq_iff_iff]; simp
theorem KS.to {e e' : Er} (hk : KS s g cb m1 m2 gl fn { c with err := e } h) (he : e = e') : KS s g cb m1 m2 gl fn { c with err := e' } h := he ▸ hk
theorem var_t (hk : KS s g cb m1 m2 gl fn c h) (hl : c.vis.length ≤ 1000000) (nm : Bytes) (arr : Bool) (pos : Nat) :
 Tri Tryz.prog 150 [vP cb 0, vS nm, vB arr, vI (place s pos).1, vI (place s pos).2] h fun v h' => v = vT [] ∧ KS s g cb m1 m2 gl fn { c with err := varC gl c.vis nm arr pos c.err } h' := by
 refine T150 ?_
 unfold R150
 obtain ⟨a, k, hb, hv⟩ := hk.bl
 refine ⟨_, _, _, cell_of hb (0 + 2), ?_⟩
 refine Tri.mono (contains_tri nm hv.str hl) ?_
 rintro _ h ⟨rfl, rfl⟩
 refine ⟨_, rfl, br_split (fun e => ?_) (fun e => ?_)⟩
 · have e : c.vis.contains nm = false := by simpa using e
   refine ⟨_, cell_of hb 0, ?_⟩
   refine Raw.mono (lookG hk.toKB rfl rfl 181) ?_
   rintro _ h ⟨rfl, _, _, _, _, rfl⟩
   refine ⟨_, _, _, _, _, _, rfl, ?_⟩
   refine Tri.mono (fail_t hk _ (some pos) 37 (by decide)) ?_
   rintro _ h1 ⟨rfl, hk1⟩
   refine ⟨rfl, ?_⟩
   refine Tri.mono (fail_t hk1 _ (some pos) 31 (by decide)) ?_
   rintro _ h2 ⟨rfl, hk2⟩
   refine ⟨rfl, rfl, KS.to hk2 ?_⟩
   simp only [varC, e, bne_cast]
   cases getT gl nm <;> rfl
 · have e : c.vis.contains nm = true := by simpa using e
   refine Tri.mono (fail_t hk _ (some pos) 31 (by decide)) ?_
   rintro _ h1 ⟨rfl, hk1⟩
   refine ⟨rfl, rfl, KS.to hk1 ?_⟩
   simp only [varC, e]; rfl
theorem ckEs_drop {vis : List Bytes} {es : List E} {j : Nat} (hj : j < es.length) (e : Er) : ckEs gl fn vis (es.drop j) e = ckEs gl fn vis (es.drop (j + 1)) (ckE gl fn vis es[j] e) := by rw [List.drop_eq_getElem_cons hj]; rfl
def XE (s : Bytes) (g : PHeap) (cb m1 m2 : Nat) (gl fn : Tab) (e : E) : Prop := ∀ cs c h, RE (plP s) 8 g e cs → KS s g cb m1 m2 gl fn c h → c.vis.length ≤ 1000000 →
 Tri Tryz.prog 151 [vP cb 0, vA cs] h fun v h' => v = vT [] ∧ KS s g cb m1 m2 gl fn { c with err := ckE gl fn c.vis e c.err } h'
theorem loopE {args : List E} (hih : ∀ e ∈ args, XE s g cb m1 m2 gl fn e) (hlen : args.length ≤ 1000000) {a : OA} (hA : At 8 (RE (plP s) 8) g a args) {Q : PHeap → Prop} {T : Prop} (hT : T) {e0 : Er} (hQ : ∀ h, KS s g cb m1 m2 gl fn { c with err := ckEs gl fn c.vis args e0 } h → Q h)
 (hl : c.vis.length ≤ 1000000) (hk : KS s g cb m1 m2 gl fn { c with err := e0 } h) :
 ∃ (I : Nat → Int → PHeap → Prop), (∃ (m2 : Nat), I m2 (0 : Int) h) ∧ ∀ (m1 : Nat) (i : Int) (h_2 : PHeap), I m1 i h_2 →
   br (decide (i < ((args.length : Nat) : Int)))
    (∃ (b1 o2 : Nat), a = some ⟨b1, o2, none⟩ ∧ (0 ≤ i ∧ i < args.length) ∧
     ∃ (i6 : Int) (l4 l5 : Bs) (i7 : Int) (l6 : Bs) (a2 : OA) (n2 k2 : Nat) (i8 i9 : Int), h_2.row b1 (o2 + (i).toNat * 8) [vI i6, vS l4, vS l5, vI i7, vS l6, vL a2 n2 k2, vI i8, vI i9] ∧
       Tri Tryz.prog 151 [vP cb 0, vA [vI i6, vS l4, vS l5, vI i7, vS l6, vL a2 n2 k2, vI i8, vI i9]] h_2 fun v_2 h_3 => v_2 = vT [] ∧ ∃ (m3 : Nat), m3 < m1 ∧ I m3 (IntKind.i64.wrap (i + 1)) h_3 ∧ T ∧ True)
    (Q h_2) := by
 refine ⟨fun m i h' => ∃ (j : Nat) (e : Er), i = j ∧ j + m = args.length ∧ KS s g cb m1 m2 gl fn { c with err := e } h' ∧ ckEs gl fn c.vis (args.drop j) e = ckEs gl fn c.vis args e0, ⟨args.length, 0, e0, rfl, by omega, hk, rfl⟩, ?_⟩
 rintro m _ h1 ⟨j, e, rfl, hjm, hk1, he⟩
 refine br_split (fun e2 => ?_) (fun e2 => ?_)
 · have hj : j < args.length := by
    have := of_decide_eq_true e2
    omega
   obtain ⟨b, o, cs, rfl, hr, hrel⟩ := hA.get hj
   have ihj := hih _ (List.getElem_mem hj) _ _ _ hrel hk1 hl
   have hr := row_ext (fun ob => hk1.ext b ob) hr
   rw [ckEs_drop hj] at he
   generalize args[j] = x at *
   match x, hrel with
   | .mk kd op nm vl tx args' pos, hrel =>
   obtain ⟨a1, c1, rfl, hA1⟩ := RE_iff.1 hrel
   refine ⟨b, o, rfl, ⟨by omega, by omega⟩, _, _, _, _, _, _, _, _, _, _, hr, ?_⟩
   refine Tri.mono ihj ?_
   rintro _ h2 ⟨rfl, hk2⟩
   refine ⟨rfl, m - 1, by omega, ⟨j + 1, _, ?_, by omega, hk2, he⟩, hT, trivial⟩
   rw [wrap64 (by omega) (by omega)]; rfl
 · have : args.length ≤ j := by
    have := of_decide_eq_false e2
    omega
   rw [List.drop_eq_nil_of_le this] at he
   exact hQ _ (KS.to hk1 he)
theorem expr_t : ∀ k e, cntE e ≤ k → k ≤ 1000000 → XE s g cb m1 m2 gl fn e := by
 intro k
 induction k with
 | zero => intro e he; have := cntE_pos e; omega
 | succ k ih =>
   intro e he hk5 cs c h hrel hk hl
   match e, he, hrel with
   | .mk kd op nm vl tx args pos, he, hrel =>
   obtain ⟨a1, c1, rfl, hA1⟩ := RE_iff.1 hrel
   simp only [cntE] at he
   have hlen := cntEs_len args
   have hih : ∀ e ∈ args, XE s g cb m1 m2 gl fn e := fun e hm => ih e (by have := cntEs_mem hm; omega) (by omega)
   refine T151 ?_
   unfold R151
   have loop := fun {T : Prop} (hT : T) {h1 : PHeap} {e0 : Er} (hk1 : KS s g cb m1 m2 gl fn { c with err := e0 } h1) (he0 : e0 = if kd = 3 ∨ kd = 4 then varC gl c.vis nm (kd == 4) pos c.err else if kd = 5 then callC fn nm args.length pos c.err else c.err) =>
    loopE (Q := fun h => vT [] = vT [] ∧ KS s g cb m1 m2 gl fn { c with err := ckE gl fn c.vis (.mk kd op nm vl tx args pos) c.err } h) hih (by omega) hA1 hT (fun h hq => ⟨rfl, KS.to hq (by rw [ckE, he0])⟩) hl hk1
   refine br_split (fun e => ?_) (fun e3 => ?_)
   · have e : kd = 3 := by have := beq_iff_eq.1 e; omega
     subst e
     refine Tri.mono (var_t hk hl nm _ pos) ?_
     rintro _ h1 ⟨rfl, hk1⟩
     exact ⟨rfl, loop rfl hk1 rfl⟩
   refine br_split (fun e => ?_) (fun e4 => ?_)
   · have e : kd = 4 := by have := beq_iff_eq.1 e; omega
     subst e
     refine Tri.mono (var_t hk hl nm _ pos) ?_
     rintro _ h1 ⟨rfl, hk1⟩
     exact ⟨rfl, loop rfl hk1 rfl⟩
   have e3 : kd ≠ 3 := fun e => by subst e; cases e3
   have e4 : kd ≠ 4 := fun e => by subst e; cases e4
   rw [if_neg (by omega)] at loop
   refine br_split (fun e => ?_) (fun e5 => ?_)
   · have e : kd = 5 := by have := beq_iff_eq.1 e; omega
     subst e
     rw [if_pos rfl] at loop
     refine Tri.mono (builtin_t nm h) ?_
     rintro _ h ⟨rfl, rfl⟩
     unfold callC at loop
     cases hbu : builtinS nm with
     | none =>
       rw [hbu] at loop
       refine ⟨_, _, _, rfl, br_pos rfl ?_⟩
       obtain ⟨a, k, hb, hv⟩ := hk.bl
       refine ⟨_, cell_of hb (0 + 1), ?_⟩
       refine Raw.mono (lookF hk.toKB rfl rfl 117) ?_
       rintro _ h ⟨rfl, rfl⟩
       refine ⟨_, _, rfl, ?_⟩
       refine Tri.mono (fail_t hk _ (some pos) 37 (by decide)) ?_
       rintro _ h1 ⟨rfl, hk1⟩
       refine ⟨rfl, br_split (fun e => ?_) (fun e => ?_)⟩
       · have e : args.length < (getT fn nm).getD 0 := by have := of_decide_eq_true e; omega
         refine Tri.mono (fail_t hk1 _ (some pos) 31 (by decide)) ?_
         rintro _ h2 ⟨rfl, hk2⟩
         refine ⟨rfl, loop rfl hk2 ?_⟩
         simp only [e, decide_true, Bool.true_or]
         cases getT fn nm <;> rfl
       · have e : ¬ args.length < (getT fn nm).getD 0 := by have := of_decide_eq_false e; omega
         refine Tri.mono (fail_t hk1 _ (some pos) 31 (by decide)) ?_
         rintro _ h2 ⟨rfl, hk2⟩
         refine ⟨rfl, loop rfl hk2 ?_⟩
         simp only [e, decide_false, Bool.false_or]
         congr 1
         · simp
         · cases getT fn nm <;> rfl
     | some x =>
       obtain ⟨lo, hi⟩ := x
       rw [hbu] at loop
       refine ⟨_, _, _, rfl, br_neg rfl ?_⟩
       refine Tri.mono (fail_t hk _ (some pos) 37 (by decide)) ?_
       rintro _ h1 ⟨rfl, hk1⟩
       have hk1 := KS.to (e' := c.err) hk1 (by unfold failC; split <;> simp_all)
       refine ⟨rfl, br_split (fun e => ?_) (fun e => ?_)⟩
       · have e : args.length < lo := by have := of_decide_eq_true e; omega
         refine Tri.mono (fail_t hk1 _ (some pos) 31 (by decide)) ?_
         rintro _ h2 ⟨rfl, hk2⟩
         refine ⟨rfl, loop rfl hk2 ?_⟩
         simp only [e, decide_true, Bool.true_or]
       · have e : ¬ args.length < lo := by have := of_decide_eq_false e; omega
         refine Tri.mono (fail_t hk1 _ (some pos) 31 (by decide)) ?_
         rintro _ h2 ⟨rfl, hk2⟩
         refine ⟨rfl, loop rfl hk2 ?_⟩
         simp only [e, decide_false, Bool.false_or]
         congr 1
         simp
   · have e5 : kd ≠ 5 := fun e => by subst e; cases e5
     rw [if_neg e5] at loop
     exact loop rfl hk rfl
end
end Go.Proofs.D
namespace Go.Sx
def Gr (n : Nat) (c c' : CS) : Prop := c.cnt ≤ c'.cnt ∧ c'.cnt ≤ c.cnt + n ∧ ∃ t, c'.vis = c.vis ++ t
theorem Gr.refl (n : Nat) (c : CS) : Gr n c c := ⟨Nat.le_refl _, Nat.le_add_right _ _, [], by simp⟩
theorem Gr.trans {n m : Nat} {c c' c'' : CS} (h : Gr n c c') (h' : Gr m c' c'') : Gr (n + m) c c'' := by
 obtain ⟨h1, h2, t, h3⟩ := h
 obtain ⟨k1, k2, u, k3⟩ := h'
 exact ⟨by omega, by omega, t ++ u, by rw [k3, h3, List.append_assoc]⟩
theorem Gr.le {n m : Nat} {c c' : CS} (h : Gr n c c') (hn : n ≤ m) : Gr m c c' := ⟨h.1, by have := h.2.1; omega, h.2.2⟩
theorem Gr.list {n : Nat} {c c' : CS} (h : Gr n c c') : Gr n c ⟨c'.err, c.vis, c'.cnt⟩ := ⟨h.1, h.2.1, [], by simp⟩
theorem Gr.err {n : Nat} {c c' : CS} {e : Er} (h : Gr n ⟨e, c.vis, c.cnt⟩ c') : Gr n c c' := h
mutual
theorem ckS_gr (gl fn : Tab) : ∀ (lp : Bool) (s : S) (c : CS), Gr (cntS s) c (ckS gl fn lp s c)
 | lp, .mk k nm args body els pos, c => by
   simp only [ckS, cntS]
   generalize ckEs gl fn c.vis args _ = e1
   split
   · exact ⟨by simp, by simp, [nm], rfl⟩
   · split
     · have h1 := ckSs_gr gl fn lp body ⟨e1, c.vis, c.cnt⟩
       have h2 := ckSs_gr gl fn lp els ⟨(ckSs gl fn lp body ⟨e1, c.vis, c.cnt⟩).err, c.vis, (ckSs gl fn lp body ⟨e1, c.vis, c.cnt⟩).cnt⟩
       exact (h1.list.trans h2.list).err.le (by omega)
     · split
       · exact (ckSs_gr gl fn true body ⟨e1, c.vis, c.cnt⟩).list.err.le (by omega)
       · exact Gr.refl _ _
theorem ckSs_gr (gl fn : Tab) : ∀ (lp : Bool) (l : List S) (c : CS), Gr (cntSs l) c (ckSs gl fn lp l c)
 | _, [], c => Gr.refl _ c
 | lp, s :: ss, c => (ckS_gr gl fn lp s c).trans (ckSs_gr gl fn lp ss _)
end
end Go.Sx
namespace Go.Proofs.D
open Go Go.Den Go.Sx
set_option maxRecDepth 100000
attribute [local irreducible] IntKind.wrap Tri parseS
section
variable {s : Bytes} {g : PHeap} {cb m1 m2 : Nat} {gl fn : Tab} {c : CS} {h h' : PHeap}
theorem KB.of (hk : KB g cb m1 m2 gl fn h) (hx : Ext g h') (h1 : h' m1 = h m1) (h2 : h' m2 = h m2) : KB g cb m1 m2 gl fn h' where
 ext := hx
 f0 := hk.f0
 f1 := hk.f1
 f2 := hk.f2
 n1 := hk.n1
 n2 := hk.n2
 n3 := hk.n3
 mg := let ⟨L, ck, g1, g2⟩ := hk.mg; ⟨L, ck, by rw [h1]; exact g1, g2⟩
 mf := let ⟨L, ck, g1, g2⟩ := hk.mf; ⟨L, ck, by rw [h2]; exact g1, g2⟩
def XT (s : Bytes) (g : PHeap) (cb m1 m2 : Nat) (gl fn : Tab) (e : S) : Prop := ∀ cs c h lp, RS (plP s) 8 7 g e cs → KS s g cb m1 m2 gl fn c h → c.cnt + cntS e ≤ 1000000 →
 Tri Tryz.prog 103 [vP cb 0, vA cs, vB lp] h fun v h' => v = vT [] ∧ KS s g cb m1 m2 gl fn (ckS gl fn lp e c) h'
theorem ckSs_drop {lp : Bool} {es : List S} {j : Nat} (hj : j < es.length) (c : CS) : ckSs gl fn lp (es.drop j) c = ckSs gl fn lp (es.drop (j + 1)) (ckS gl fn lp es[j] c) := by rw [List.drop_eq_getElem_cons hj]; rfl
theorem KV.cut {a a' : OA} {k : Nat} {vis t : List Bytes} (hv : KV g cb m1 m2 h a k (vis ++ t)) (hs : SlA a a' 0 k 1) : KV g cb m1 m2 h a' (k - 0) vis := by
 obtain ⟨⟨h1, h2⟩, h3⟩ := hv
 rcases h2 with ⟨h2, h4⟩ | ⟨b, cap, rest, h2, h4, h5, h6⟩
 · injection h2 with e1 e2 e3
   have hv0 : vis = [] := List.eq_nil_of_length_eq_zero (by simp at h4; have := h4.1; simp [this])
   subst hv0
   have := hs.2 e1
   subst this; subst e3
   exact ⟨⟨by simp, .inl ⟨rfl, rfl⟩⟩, fun b hb => by cases hb⟩
 · injection h2 with e1 e2 e3
   subst e3
   obtain ⟨o', e4, e5⟩ := hs.1 b 0 e1
   have := e5 (.inr rfl)
   subst this; subst e4
   refine ⟨⟨by simp, .inr ⟨b, k, t.map (fun l => vS l) ++ rest, rfl, ?_, ?_, ?_⟩⟩, fun b' hb' => h3 b' (e1.trans (by simpa using hb'))⟩
   · rw [h4]; simp
   · simp only [List.length_append, List.length_map] at h5 h6 ⊢; omega
   · simp at h6; omega
theorem list_t {es : List S} (ih : ∀ e ∈ es, XT s g cb m1 m2 gl fn e) {a : OA} {cc : Nat} (hA : At 7 (RS (plP s) 8 7) g a es) (lp : Bool) (hk : KS s g cb m1 m2 gl fn c h) (hc : c.cnt + cntSs es ≤ 1000000) :
 Tri Tryz.prog 61 [vP cb 0, vL a es.length cc, vB lp] h fun v h' => v = vT [] ∧ KS s g cb m1 m2 gl fn (ckL gl fn lp es c) h' := by
 refine T61 ?_
 unfold R61
 obtain ⟨a0, k0, hb0, hv0⟩ := hk.bl
 have hlen := cntSs_len es
 refine ⟨_, _, _, cell_of hb0 (0 + 2), ?_⟩
 refine ⟨fun m i h' => ∃ (j : Nat) (c' : CS), i = j ∧ j + m = es.length ∧ KS s g cb m1 m2 gl fn c' h' ∧ c'.cnt + cntSs (es.drop j) ≤ 1000000 ∧ ckSs gl fn lp (es.drop j) c' = ckSs gl fn lp es c, ⟨es.length, 0, c, rfl, by omega, hk, hc, rfl⟩, ?_⟩
 rintro m _ h1 ⟨j, c', rfl, hjm, hk1, hc1, he⟩
 refine br_split (fun e2 => ?_) (fun e2 => ?_)
 · have hj : j < es.length := by
    have := of_decide_eq_true e2
    omega
   obtain ⟨b, o, cs, rfl, hr, hrel⟩ := hA.get hj
   rw [cntSs_drop hj] at hc1
   have ihj := ih _ (List.getElem_mem hj) _ _ _ lp hrel hk1 (by omega)
   have hr := row_ext (fun ob => hk1.ext b ob) hr
   have hgr := (ckS_gr gl fn lp es[j] c').2.1
   rw [ckSs_drop hj] at he
   generalize es[j] = x at *
   match x, hrel with
   | .mk kd nm args body els pos, hrel =>
   obtain ⟨a1, c1, a2, c2, a3, c3, rfl, hA1, hA2, hA3⟩ := RS_iff.1 hrel
   refine ⟨b, o, rfl, ⟨by omega, by omega⟩, _, _, _, _, _, _, _, _, _, _, _, _, _, hr, ?_⟩
   refine Tri.mono ihj ?_
   rintro _ h2 ⟨rfl, hk2⟩
   refine ⟨rfl, m - 1, by omega, ⟨j + 1, _, ?_, by omega, hk2, by omega, he⟩, trivial⟩
   rw [wrap64 (by omega) (by omega)]; rfl
 · have : es.length ≤ j := by
    have := of_decide_eq_false e2
    omega
   rw [List.drop_eq_nil_of_le this] at he
   have he : c' = ckSs gl fn lp es c := he
   obtain ⟨g1, g2, t, g3⟩ := ckSs_gr gl fn lp es c
   rw [← he] at g1 g2 g3
   obtain ⟨a4, k4, hb4, hv4⟩ := hk1.bl
   have hcap : c.vis.length ≤ k4 ∧ okA a4 c'.vis.length k4 := by
    rcases hv4.1.2 with ⟨k1, k2⟩ | ⟨b, cap, rest, k1, k2, k3, k5⟩
    · injection k1 with k1 k3 k6
      have : c.vis.length = 0 := by rw [g3] at k2; simp at k2; simp [k2.1]
      exact ⟨by omega, .inr ⟨k1, k2, k6⟩⟩
    · injection k1 with k1 k3 k6
      refine ⟨?_, .inl ⟨b, 0, k1⟩⟩
      rw [g3, List.length_append] at k5; omega
   refine ⟨_, _, _, cell_of hb4 (0 + 2), ⟨hcap.2, by omega, by omega, by omega⟩, ?_⟩
   intro a7 ha7
   refine ⟨_, _, _, hb4, ⟨by simp, Nat.zero_le _⟩, ?_⟩
   intro h3 hh3
   have hx := Put.chg hh3
   rw [g3] at hv4
   refine ⟨rfl, ?_⟩
   rw [ckL, ← he]
   exact ⟨hk1.toKB.chg hx, hk1.er, by have := hk.len; show c.vis.length ≤ c'.cnt; omega, a7, k4 - 0, Put.at hh3, (hv4.cut ha7).chg hx⟩
theorem tail_t {kd : Nat} {nm : Bytes} {body els : List S} {pos : Nat} {e1 : Er} (hih2 : ∀ e ∈ body, XT s g cb m1 m2 gl fn e) (hih3 : ∀ e ∈ els, XT s g cb m1 m2 gl fn e) {a2 a3 : OA} {c2 c3 : Nat} (hA2 : At 7 (RS (plP s) 8 7) g a2 body) (hA3 : At 7 (RS (plP s) 8 7) g a3 els) {lp : Bool}
 (hk : KS s g cb m1 m2 gl fn ⟨e1, c.vis, c.cnt⟩ h) (hc : c.cnt + (cntSs body + cntSs els + 1) ≤ 1000000) {Q : PHeap → Prop}
 (hQ : ∀ h, KS s g cb m1 m2 gl fn (if kd = 1 then ⟨failC (decide (32 ≤ c.cnt)) (some pos) 9 (failC (c.vis.contains nm) (some pos) 7 e1), c.vis ++ [nm], c.cnt + 1⟩
     else if kd = 5 then ckL gl fn lp els (ckL gl fn lp body ⟨e1, c.vis, c.cnt⟩) else if kd = 6 then ckL gl fn true body ⟨e1, c.vis, c.cnt⟩ else ⟨e1, c.vis, c.cnt⟩) h → Q h) :
 br (((kd : Nat) : Int) == 1)
  (∃ (a5 : OA) (n5 k5 : Nat), h.cell cb (0 + 2) = some (vL a5 n5 k5) ∧
   Tri Tryz.prog 102 [vL a5 n5 k5, vS nm] h fun v_3 h_4 => ∃ (c2 : Bool), v_3 = vB c2 ∧ (tv [vI ((place s pos).2 : Nat)]) ∧ (tv [vI ((place s pos).1 : Nat)]) ∧
    Tri Tryz.prog 59 [vP cb 0, vB c2, vI ((place s pos).1 : Nat), vI ((place s pos).2 : Nat), vI 7] h_4 fun v_4 h_5 => v_4 = vT [] ∧ ∃ (i9 : Int), h_5.cell cb (0 + 3) = some (vI i9) ∧
     Tri Tryz.prog 59 [vP cb 0, vB (decide (i9 ≥ 32)), vI ((place s pos).1 : Nat), vI ((place s pos).2 : Nat), vI 9] h_5 fun v_5 h_6 => v_5 = vT [] ∧ (h_6.cell cb (0 + 3) = some (vI i9)) ∧
      ∃ (a6 : OA) (n6 k6 : Nat), h_6.cell cb (0 + 2) = some (vL a6 n6 k6) ∧ ∀ (b2 : Nat), h_6 b2 = none → ∀ (h_7 : PHeap), h_7 = h_6.put b2 (.cells ⟨[vS nm]⟩ 9) → (h_7.cell cb (0 + 2) = some (vL a6 n6 k6)) ∧
        Raw Tryz.prog (execOp (rho [(78, vL a6 n6 k6), (81, vL (ad b2 0) 1 1)]) (mkO o103_10 51)) h_7 fun v_6 h_8 => ∃ (a7 : OA) (n7 k7 : Nat), v_6 = vL a7 n7 k7 ∧
         ∃ (l5 : List Value) (t1 : TypeId) (z1 : Nat × Nat), h_8 cb = some (.cells ⟨l5⟩ t1 z1) ∧ ((0 + 2) + 1 ≤ l5.length ∧ z1.2 ≤ (0 + 2)) ∧ ∀ (h_9 : PHeap), h_9 = h_8.put cb (.cells ⟨splice l5 (0 + 2) [vL a7 n7 k7]⟩ t1 z1) →
           ∃ (i10 : Int), h_9.cell cb (0 + 3) = some (vI i10) ∧ ∃ (l6 : List Value) (t2 : TypeId) (z2 : Nat × Nat), h_9 cb = some (.cells ⟨l6⟩ t2 z2) ∧ ((0 + 3) + 1 ≤ l6.length ∧ z2.2 ≤ (0 + 3)) ∧
             ∀ (h_10 : PHeap), h_10 = h_9.put cb (.cells ⟨splice l6 (0 + 3) [vI (IntKind.i64.wrap (i10 + 1))]⟩ t2 z2) → Q h_10)
  (br (((kd : Nat) : Int) == 5)
   (Tri Tryz.prog 61 [vP cb 0, vL a2 body.length c2, vB lp] h fun v_7 h_11 => v_7 = vT [] ∧ Tri Tryz.prog 61 [vP cb 0, vL a3 els.length c3, vB lp] h_11 fun v_8 h_12 => v_8 = vT [] ∧ Q h_12)
   (br (((kd : Nat) : Int) == 6)
    (Tri Tryz.prog 61 [vP cb 0, vL a2 body.length c2, vB true] h fun v_9 h_13 => v_9 = vT [] ∧ Q h_13)
    (Q h))) := by
 refine br_split (fun e => ?_) (fun n1 => br_split (fun e => ?_) (fun n5 => br_split (fun e => ?_) (fun n6 => ?_)))
 · have e : kd = 1 := by have := beq_iff_eq.1 e; omega
   subst e
   rw [if_pos rfl] at hQ
   obtain ⟨a, k, hb, hv⟩ := hk.bl
   have hl : c.vis.length ≤ c.cnt := hk.len
   refine ⟨_, _, _, cell_of hb (0 + 2), ?_⟩
   refine Tri.mono (contains_tri nm hv.str (by show c.vis.length ≤ _; omega)) ?_
   rintro _ h ⟨rfl, rfl⟩
   refine ⟨_, rfl, rfl, rfl, ?_⟩
   refine Tri.mono (fail_t hk _ (some pos) 7 (by decide)) ?_
   rintro _ h1 ⟨rfl, hk1⟩
   obtain ⟨a1, k1, hb1, hv1⟩ := hk1.bl
   refine ⟨rfl, _, cell_of hb1 (0 + 3), ?_⟩
   refine Tri.mono (fail_t hk1 _ (some pos) 9 (by decide)) ?_
   rintro _ h2 ⟨rfl, hk2⟩
   have hk2 := KS.to (c := c) (e' := failC (decide (32 ≤ c.cnt)) (some pos) 9 (failC (c.vis.contains nm) (some pos) 7 e1)) hk2 (by
    have : decide (((c.cnt : Nat) : Int) ≥ 32) = decide (32 ≤ c.cnt) := by rw [Bool.eq_iff_iff]; simp; omega
    rw [← this])
   generalize hE : failC (decide (32 ≤ c.cnt)) (some pos) 9 (failC (c.vis.contains nm) (some pos) 7 e1) = e2 at *
   obtain ⟨a2, k2, hb2, hv2⟩ := hk2.bl
   refine ⟨rfl, cell_of hb2 (0 + 3), _, _, _, cell_of hb2 (0 + 2), ?_⟩
   intro b3 hb3 h3 hh3
   have hx3 := Put.ext hh3 hb3
   refine ⟨cell_of (hx3 _ _ hb2) (0 + 2), ?_⟩
   have ho : Own h3 9 1 (vL a2 c.vis.length k2) c.vis.length (c.vis.map fun l => vS l) := Own.keep (fun b hb => Put.chg hh3 b fun e => by
    subst e
    rcases hv2.1.2 with ⟨q, _⟩ | ⟨b', cap, rest, q, q', _⟩
    · injection q with q; rw [hb] at q; cases q
    · injection q with q; rw [hb] at q; injection q with q; injection q with q; subst q; rw [hb3] at q'; cases q') hv2.1
   refine Raw.mono (append_one und51 elem9 rfl rfl rfl rfl rfl ho (Put.at hh3) rfl rfl (by omega)) ?_
   rintro _ h4 ⟨b4, cap, rfl, ho4, hor, hx4⟩
   have hin : ∀ {q o}, h2 q = some o → h3 q = some o := fun {q o} hq => hx3 q o hq
   obtain ⟨L1, ck1, hm1, _⟩ := hk2.mg
   obtain ⟨L2, ck2, hm2, _⟩ := hk2.mf
   have hq4 : b4 ≠ cb ∧ b4 ≠ m1 ∧ b4 ≠ m2 ∧ g b4 = none := by
    rcases hor with hor | hor
    · refine ⟨fun e => ?_, fun e => ?_, fun e => ?_, ?_⟩
      · subst e; rw [hin hb2] at hor; cases hor
      · subst e; rw [hin hm1] at hor; cases hor
      · subst e; rw [hin hm2] at hor; cases hor
      · cases hg : g b4 with
        | none => rfl
        | some o => rw [hin (hk2.ext _ _ hg)] at hor; cases hor
    · exact hv2.2 _ hor
   have hB4 : KB g cb m1 m2 gl fn h4 := hk2.toKB.of (fun k o hk => by
    rw [hx4 k (fun e => by subst e; rw [hq4.2.2.2] at hk; cases hk)]; exact hin (hk2.ext _ _ hk))
    (by rw [hx4 _ hq4.2.1.symm, hin hm1, hm1]) (by rw [hx4 _ hq4.2.2.1.symm, hin hm2, hm2])
   have hb4 := (hx4 _ hq4.1.symm).trans (hin hb2)
   refine ⟨_, _, _, rfl, _, _, _, hb4, ⟨by simp, Nat.zero_le _⟩, ?_⟩
   intro h5 hh5
   refine ⟨_, cell_of (Put.at hh5) (0 + 3), _, _, _, Put.at hh5, ⟨by simp [splice], Nat.zero_le _⟩, ?_⟩
   intro h6 hh6
   have hx := (Put.chg hh5).trans (Put.chg hh6)
   refine hQ _ ⟨hB4.chg hx, hk2.er, by simp; omega, ad b4 0, cap, ?_, KV.chg (h := h4) ⟨?_, fun b hb => ?_⟩ hx⟩
   · have := Put.at hh6
     rw [wrap64 (by show (-9223372036854775808 : Int) ≤ (c.cnt : Int) + 1; omega) (by show (c.cnt : Int) + 1 ≤ _; omega)] at this
     rw [this, List.length_append]; rfl
   · rw [List.length_append, List.map_append]; exact ho4
   · injection hb with hb; injection hb with hb; subst hb; exact hq4
 · have e : kd = 5 := by have := beq_iff_eq.1 e; omega
   subst e
   rw [if_neg (by decide), if_pos rfl] at hQ
   refine Tri.mono (list_t hih2 hA2 lp hk (by show c.cnt + _ ≤ _; omega)) ?_
   rintro _ h1 ⟨rfl, hk1⟩
   have hg := (ckSs_gr gl fn lp body ⟨e1, c.vis, c.cnt⟩).2.1
   refine ⟨rfl, ?_⟩
   refine Tri.mono (list_t hih3 hA3 lp hk1 (by show (ckSs gl fn lp body ⟨e1, c.vis, c.cnt⟩).cnt + _ ≤ _; simp only at hg; omega)) ?_
   rintro _ h2 ⟨rfl, hk2⟩
   exact ⟨rfl, hQ _ hk2⟩
 · have e : kd = 6 := by have := beq_iff_eq.1 e; omega
   subst e
   rw [if_neg (by decide), if_neg (by decide), if_pos rfl] at hQ
   refine Tri.mono (list_t hih2 hA2 true hk (by show c.cnt + _ ≤ _; omega)) ?_
   rintro _ h1 ⟨rfl, hk1⟩
   exact ⟨rfl, hQ _ hk1⟩
 · have n1 : kd ≠ 1 := fun e => by subst e; cases n1
   have n5 : kd ≠ 5 := fun e => by subst e; cases n5
   have n6 : kd ≠ 6 := fun e => by subst e; cases n6
   rw [if_neg n1, if_neg n5, if_neg n6] at hQ
   exact hQ _ hk
theorem stmt_t : ∀ k e, cntS e ≤ k → XT s g cb m1 m2 gl fn e := by
 intro k
 induction k with
 | zero => intro e he; have := cntS_pos e; omega
 | succ k ih =>
   intro e he cs c h lp hrel hk hc
   match e, he, hrel, hc with
   | .mk kd nm args body els pos, he, hrel, hc =>
   obtain ⟨a1, c1, a2, c2, a3, c3, rfl, hA1, hA2, hA3⟩ := RS_iff.1 hrel
   simp only [cntS] at he hc
   have hlen := cntEs_len args
   have hvl := hk.len
   have hih : ∀ e ∈ args, XE s g cb m1 m2 gl fn e := fun e hm => expr_t _ e (Nat.le_refl _) (by have := cntEs_mem hm; omega)
   have hih2 : ∀ e ∈ body, XT s g cb m1 m2 gl fn e := fun e hm => ih e (by have := cntSs_mem hm; omega)
   have hih3 : ∀ e ∈ els, XT s g cb m1 m2 gl fn e := fun e hm => ih e (by have := cntSs_mem hm; omega)
   refine T103 ?_
   unfold R103
   obtain ⟨pre, hpre⟩ : ∃ pre, pre = if kd = 2 ∨ kd = 3 then varC gl c.vis nm (kd == 3) pos c.err else if kd = 8 ∨ kd = 9 then failC (!lp) (some pos) 10 c.err else c.err := ⟨_, rfl⟩
   have hck : ckS gl fn lp (.mk kd nm args body els pos) c = if kd = 1 then ⟨failC (decide (32 ≤ c.cnt)) (some pos) 9 (failC (c.vis.contains nm) (some pos) 7 (ckEs gl fn c.vis args pre)), c.vis ++ [nm], c.cnt + 1⟩
    else if kd = 5 then ckL gl fn lp els (ckL gl fn lp body ⟨ckEs gl fn c.vis args pre, c.vis, c.cnt⟩) else if kd = 6 then ckL gl fn true body ⟨ckEs gl fn c.vis args pre, c.vis, c.cnt⟩ else ⟨ckEs gl fn c.vis args pre, c.vis, c.cnt⟩ := by
    rw [hpre]; rfl
   rw [hck]
   clear hck
   have hl : c.vis.length ≤ 1000000 := by omega
   refine br_split (fun e => ?_) (fun n2 => br_split (fun e => ?_) (fun n3 => br_split (fun e => ?_) (fun n8 => br_split (fun e => ?_) (fun n9 => ?_))))
   · have e : kd = 2 := by have := beq_iff_eq.1 e; omega
     refine Tri.mono (var_t hk hl nm _ pos) ?_
     rintro _ h1 ⟨rfl, hk1⟩
     refine ⟨rfl, loopE hih (by omega) hA1 rfl (fun h2 hq => ?_) hl (KS.to (e' := pre) hk1 (by rw [hpre, e]; rfl))⟩
     exact tail_t hih2 hih3 hA2 hA3 hq (by omega) fun h hq => ⟨rfl, hq⟩
   · have e : kd = 3 := by have := beq_iff_eq.1 e; omega
     refine Tri.mono (var_t hk hl nm _ pos) ?_
     rintro _ h1 ⟨rfl, hk1⟩
     refine ⟨rfl, loopE hih (by omega) hA1 rfl (fun h2 hq => ?_) hl (KS.to (e' := pre) hk1 (by rw [hpre, e]; rfl))⟩
     exact tail_t hih2 hih3 hA2 hA3 hq (by omega) fun h hq => ⟨rfl, hq⟩
   · have e : kd = 8 := by have := beq_iff_eq.1 e; omega
     refine Tri.mono (fail_t hk _ (some pos) 10 (by decide)) ?_
     rintro _ h1 ⟨rfl, hk1⟩
     refine ⟨rfl, loopE hih (by omega) hA1 rfl (fun h2 hq => ?_) hl (KS.to (e' := pre) hk1 (by rw [hpre, e]; rfl))⟩
     exact tail_t hih2 hih3 hA2 hA3 hq (by omega) fun h hq => ⟨rfl, hq⟩
   · have e : kd = 9 := by have := beq_iff_eq.1 e; omega
     refine Tri.mono (fail_t hk _ (some pos) 10 (by decide)) ?_
     rintro _ h1 ⟨rfl, hk1⟩
     refine ⟨rfl, loopE hih (by omega) hA1 rfl (fun h2 hq => ?_) hl (KS.to (e' := pre) hk1 (by rw [hpre, e]; rfl))⟩
     exact tail_t hih2 hih3 hA2 hA3 hq (by omega) fun h hq => ⟨rfl, hq⟩
   · have n2 : kd ≠ 2 := fun e => by subst e; cases n2
     have n3 : kd ≠ 3 := fun e => by subst e; cases n3
     have n8 : kd ≠ 8 := fun e => by subst e; cases n8
     have n9 : kd ≠ 9 := fun e => by subst e; cases n9
     refine loopE hih (by omega) hA1 rfl (fun h2 hq => ?_) hl (KS.to (e' := pre) hk (by rw [hpre, if_neg (by omega), if_neg (by omega)]))
     exact tail_t hih2 hih3 hA2 hA3 hq (by omega) fun h hq => ⟨rfl, hq⟩
end
end Go.Proofs.D
namespace Go.Proofs.D
open Go Go.Den Go.Sx
set_option maxRecDepth 100000
attribute [local irreducible] IntKind.wrap Tri parseS
section
variable {s : Bytes} {g : PHeap} {cb m1 m2 : Nat} {gl fn : Tab} {c : CS} {h h' : PHeap}
theorem KV.away {a : OA} {k q : Nat} {vis : List Bytes} (hk : KV g cb m1 m2 h a k vis) (hq : q = m1 ∨ q = m2) (x : Chg q h h') : KV g cb m1 m2 h' a k vis :=
 ⟨Own.keep (fun b hb => x b (by have := hk.2 b hb; rcases hq with rfl | rfl; exact this.2.1; exact this.2.2.1)) hk.1, hk.2⟩
theorem updG (hk : KS s g cb m1 m2 gl fn c h) {ρ : Operand → Value} {m k v : Operand} {l nm : Bytes} {z : Nat} {i1 i2 i3 : Int} (hm : ρ m = vM m1) (hl : ρ k = vS l) (hv : ρ v = vA [vS nm, vI z, vI i1, vI i2, vI i3]) (ty : TypeId) :
 Raw Tryz.prog (execOp ρ (mkO (.mapUpdate 111 m k v) ty)) h fun v h' => v = vT [] ∧ KS s g cb m1 m2 ((l, z) :: gl) fn c h' := by
 obtain ⟨L, ck, h1, h2⟩ := hk.mg
 refine Raw.mono (raw_updS (.inl rfl) und111 rfl hm hl hv h1) ?_
 rintro _ h' ⟨rfl, ck', rfl, _⟩
 have hx := Chg.put m1 h (.map ⟨ents (mapSet l (vA [vS nm, vI z, vI i1, vI i2, vI i3]) ck L)⟩ ck')
 obtain ⟨a, k, hb, hv⟩ := hk.bl
 refine ⟨rfl, ⟨⟨ext_away hk.f1 hk.ext hx.away, hk.f0, hk.f1, hk.f2, hk.n1, hk.n2, hk.n3, ⟨_, _, put_same _ _ _, fun n => ?_⟩, ?_⟩, hk.er, hk.len, a, k, ?_, hv.away (.inl rfl) hx⟩⟩
 · simp only [getT, mapGet_set]
   have := h2 n
   by_cases e : (n == l) = true
   · rw [if_pos e, if_pos e]; exact ⟨_, _, _, _, rfl⟩
   · rw [if_neg e, if_neg e]; exact this
 · obtain ⟨L2, ck2, g1, g2⟩ := hk.mf
   exact ⟨L2, ck2, by rw [hx _ hk.n3.symm]; exact g1, g2⟩
 · rw [hx _ hk.n1.symm]; exact hb
theorem updF (hk : KS s g cb m1 m2 gl fn c h) {ρ : Operand → Value} {m k v : Operand} {l : Bytes} {z : Nat} (hm : ρ m = vM m2) (hl : ρ k = vS l) (hv : ρ v = vI z) (ty : TypeId) :
 Raw Tryz.prog (execOp ρ (mkO (.mapUpdate 112 m k v) ty)) h fun v h' => v = vT [] ∧ KS s g cb m1 m2 gl ((l, z) :: fn) c h' := by
 obtain ⟨L, ck, h1, h2⟩ := hk.mf
 refine Raw.mono (raw_updS (.inl rfl) und112 rfl hm hl hv h1) ?_
 rintro _ h' ⟨rfl, ck', rfl, _⟩
 have hx := Chg.put m2 h (.map ⟨ents (mapSet l (vI z) ck L)⟩ ck')
 obtain ⟨a, k, hb, hv⟩ := hk.bl
 refine ⟨rfl, ⟨⟨ext_away hk.f2 hk.ext hx.away, hk.f0, hk.f1, hk.f2, hk.n1, hk.n2, hk.n3, ?_, ⟨_, _, put_same _ _ _, fun n => ?_⟩⟩, hk.er, hk.len, a, k, ?_, hv.away (.inr rfl) hx⟩⟩
 · obtain ⟨L2, ck2, g1, g2⟩ := hk.mg
   exact ⟨L2, ck2, by rw [hx _ hk.n3]; exact g1, g2⟩
 · simp only [getT, mapGet_set]
   have := h2 n
   by_cases e : (n == l) = true
   · rw [if_pos e, if_pos e]; rfl
   · rw [if_neg e, if_neg e]; exact this
 · rw [hx _ hk.n2.symm]; exact hb
theorem ge_cast (i n : Nat) : decide (((i : Nat) : Int) ≥ (n : Nat)) = decide (n ≤ i) := by rw [Bool.eq_iff_iff]; simp
theorem gt_cast (i n : Nat) : decide (((i : Nat) : Int) > (n : Nat)) = decide (n < i) := by rw [Bool.eq_iff_iff]; simp
theorem global_t (hk : KS s g cb m1 m2 gl fn c h) (i : Nat) (x : G) : Tri Tryz.prog 57 [vP cb 0, vI i, vA [vS x.name, vI x.size, vI x.value, vI (place s x.pos).1, vI (place s x.pos).2]] h
 fun v h' => v = vT [] ∧ KS s g cb m1 m2 ((x.name, x.size) :: gl) fn { c with err := ckG i gl x c.err } h' := by
 refine T57 ?_
 unfold R57
 obtain ⟨a, k, hb, hv⟩ := hk.bl
 refine ⟨_, cell_of hb 0, ?_, rfl, cell_of hb 0, ?_⟩
 all_goals
  refine Raw.mono (lookG hk.toKB rfl rfl 181) ?_
  rintro _ h ⟨rfl, _, _, _, _, rfl⟩
  refine ⟨_, _, _, _, _, _, rfl, ?_⟩
  refine Tri.mono (fail_t hk _ (some x.pos) 9 (by decide)) ?_
  rintro _ h1 ⟨rfl, hk1⟩
  refine ⟨rfl, br_split (fun e => ?_) (fun e => ?_)⟩
  · refine ⟨rfl, rfl, ?_⟩
    refine Tri.mono (fail_t hk1 _ (some x.pos) 7 (by decide)) ?_
    rintro _ h2 ⟨rfl, hk2⟩
    refine ⟨rfl, br_neg (by simp) ?_⟩
    refine Tri.mono (fail_t hk2 _ (some x.pos) 2 (by decide)) ?_
    rintro _ h3 ⟨rfl, hk3⟩
    obtain ⟨a3, k3, hb3, hv3⟩ := hk3.bl
    refine ⟨rfl, _, cell_of hb3 0, ?_⟩
    refine Raw.mono (updG hk3 rfl rfl rfl 0) ?_
    rintro _ h4 ⟨rfl, hk4⟩
    refine ⟨rfl, rfl, KS.to hk4 ?_⟩
    simp only [ckG, e, Bool.true_or]
    rw [← ge_cast, ← gt_cast]; rfl
  · refine Tri.mono (isBuiltin_t x.name h1) ?_
    rintro _ h1 ⟨rfl, rfl⟩
    refine ⟨_, rfl, rfl, rfl, ?_⟩
    refine Tri.mono (fail_t hk1 _ (some x.pos) 7 (by decide)) ?_
    rintro _ h2 ⟨rfl, hk2⟩
    refine ⟨rfl, br_neg (by simp) ?_⟩
    refine Tri.mono (fail_t hk2 _ (some x.pos) 2 (by decide)) ?_
    rintro _ h3 ⟨rfl, hk3⟩
    obtain ⟨a3, k3, hb3, hv3⟩ := hk3.bl
    refine ⟨rfl, _, cell_of hb3 0, ?_⟩
    refine Raw.mono (updG hk3 rfl rfl rfl 0) ?_
    rintro _ h4 ⟨rfl, hk4⟩
    refine ⟨rfl, rfl, KS.to hk4 ?_⟩
    simp only [ckG, e, Bool.false_or]
    rw [← ge_cast, ← gt_cast]; rfl
theorem loopP {ps : List Bytes} {a : OA} {ac pos : Nat} (hA : At 1 RStr g a ps) (hok : okN a ps.length ac) (hlen : ps.length ≤ 1000000) {Q : PHeap → Prop} {T1 T2 T3 T4 T5 : Prop} (t1 : T1) (t2 : T2) (t3 : T3) (t4 : T4) (t5 : T5) {e0 : Er}
 (hQ : ∀ h, KS s g cb m1 m2 gl fn { c with err := ckPs pos [] ps e0 } h → Q h) (hk : KS s g cb m1 m2 gl fn { c with err := e0 } h) :
 ∃ (I : Nat → Int → PHeap → Prop), (∃ (m2 : Nat), I m2 (0 : Int) h) ∧ ∀ (m1 : Nat) (i : Int) (h_6 : PHeap), I m1 i h_6 →
   br (decide (i < ((ps.length : Nat) : Int)))
    (∃ (b1 o2 : Nat), a = some ⟨b1, o2, none⟩ ∧ (0 ≤ i ∧ i < ps.length) ∧ ∃ (l3 : Bs), h_6.cell b1 (o2 + (i).toNat * 1) = some (vS l3) ∧
     (okA a ps.length ac ∧ 0 ≤ (0 : Int) ∧ (0 : Int) ≤ i ∧ i ≤ ac) ∧ ∀ (a3 : OA), SlA a a3 0 ac 1 →
     Tri Tryz.prog 102 [vL a3 ((i).toNat - 0) (ac - 0), vS l3] h_6 fun v_6 h_7 => ∃ (c3 : Bool), v_6 = vB c3 ∧ T1 ∧ T2 ∧ T3 ∧
      Tri Tryz.prog 59 [vP cb 0, vB c3, vI ((place s pos).1 : Nat), vI ((place s pos).2 : Nat), vI 7] h_7 fun v_7 h_8 => v_7 = vT [] ∧ T3 ∧ ∃ (m5 : Nat), m5 < m1 ∧ I m5 (IntKind.i64.wrap (i + 1)) h_8 ∧ T4 ∧ T5 ∧ True)
    (Q h_6) := by
 refine ⟨fun m i h' => ∃ (j : Nat) (e : Er), i = j ∧ j + m = ps.length ∧ KS s g cb m1 m2 gl fn { c with err := e } h' ∧ ckPs pos (ps.take j) (ps.drop j) e = ckPs pos [] ps e0, ⟨ps.length, 0, e0, rfl, by omega, hk, rfl⟩, ?_⟩
 rintro m _ h1 ⟨j, e, rfl, hjm, hk1, he⟩
 refine br_split (fun e2 => ?_) (fun e2 => ?_)
 · have hj : j < ps.length := by
    have := of_decide_eq_true e2
    omega
   rcases hA with hA | ⟨b, o, rfl, hA⟩
   · subst hA; simp at hj
   have hcell : ∀ q l, ps[q]? = some l → h1.cell b (o + q) = some (vS l) := fun q l hq => by
    obtain ⟨cs, g1, g2⟩ := hA q l hq
    have g2 : cs = [vS l] := g2
    subst g2
    have : h1.cell b (o + q * 1) = some (vS l) := row_ext (fun ob => hk1.ext b ob) g1
    rwa [Nat.mul_one] at this
   refine ⟨b, o, rfl, ⟨by omega, by omega⟩, ps[j], ?_, ⟨.inl ⟨b, o, rfl⟩, by omega, by omega, by have := hok.1; omega⟩, ?_⟩
   · have := hcell j _ (List.getElem?_eq_getElem hj)
     simpa using this
   intro a3 ha3
   obtain ⟨o', rfl, ho'⟩ := ha3.1 b o rfl
   have ho' := ho' (.inr rfl)
   have hstr : StrAt h1 (ad b o') (ps.take j) := .inr ⟨b, o', rfl, fun q l hq => by
    have hq' : q < j := by
     have := (List.getElem?_eq_some_iff.1 hq).1
     simp at this; omega
    rw [ho', Nat.zero_mul, Nat.add_zero]
    rw [List.getElem?_take_of_lt hq'] at hq
    exact hcell q l hq⟩
   have hct := contains_tri (c := ac - 0) ps[j] hstr (by simp; omega)
   rw [show (ps.take j).length = (((j : Nat) : Int)).toNat - 0 by simp; omega] at hct
   refine Tri.mono hct ?_
   rintro _ h1 ⟨rfl, rfl⟩
   refine ⟨_, rfl, t1, t2, t3, ?_⟩
   refine Tri.mono (fail_t hk1 _ (some pos) 7 (by decide)) ?_
   rintro _ h2 ⟨rfl, hk2⟩
   refine ⟨rfl, t3, m - 1, by omega, ⟨j + 1, _, ?_, by omega, hk2, ?_⟩, t4, t5, trivial⟩
   · rw [wrap64 (by omega) (by omega)]; rfl
   · rw [← he, List.drop_eq_getElem_cons hj, ckPs, ← List.take_append_getElem hj]
 · have : ps.length ≤ j := by
    have := of_decide_eq_false e2
    omega
   rw [List.drop_eq_nil_of_le this] at he
   exact hQ _ (KS.to hk1 he)
theorem function_t (hk : KS s g cb m1 m2 gl fn c h) (i : Nat) (x : F) {a a2 : OA} {ac c2 : Nat} (hA : At 1 RStr g a x.params) (hok : okN a x.params.length ac) (hlen : x.params.length ≤ 1000000) :
 Tri Tryz.prog 58 [vP cb 0, vI i, vA [vS x.name, vL a x.params.length ac, vL a2 x.body.length c2, vI (place s x.pos).1, vI (place s x.pos).2]] h
 fun v h' => v = vT [] ∧ KS s g cb m1 m2 gl ((x.name, x.params.length) :: fn) { c with err := ckF i gl fn x c.err } h' := by
 refine T58 ?_
 unfold R58
 obtain ⟨a0, k0, hb, hv⟩ := hk.bl
 have fin : ∀ {h : PHeap}, KS s g cb m1 m2 gl fn { c with err := ckF i gl fn x c.err } h → ∃ (m6 : Nat), h.cell cb (0 + 1) = some (vM m6) ∧
  Raw Tryz.prog (execOp (rho [(89, vM m6), (91, vS x.name), (94, vI ((x.params.length : Nat) : Int))]) (mkO o58_10 0)) h fun v_8 h_9 => v_8 = vT [] ∧ vT [] = vT [] ∧ KS s g cb m1 m2 gl ((x.name, x.params.length) :: fn) { c with err := ckF i gl fn x c.err } h_9 := fun {h} hk => by
  obtain ⟨a3, k3, hb3, hv3⟩ := hk.bl
  refine ⟨_, cell_of hb3 (0 + 1), ?_⟩
  refine Raw.mono (updF hk rfl rfl rfl 0) ?_
  rintro _ h4 ⟨rfl, hk4⟩
  exact ⟨rfl, rfl, hk4⟩
 refine ⟨_, cell_of hb 0, ?_, rfl, cell_of hb 0, ?_⟩
 all_goals
  refine Raw.mono (lookG hk.toKB rfl rfl 181) ?_
  rintro _ h ⟨rfl, _, _, _, _, rfl⟩
  refine ⟨_, _, _, _, _, _, rfl, _, cell_of hb (0 + 1), ?_⟩
  refine Raw.mono (lookF hk.toKB rfl rfl 117) ?_
  rintro _ h ⟨rfl, rfl⟩
  refine ⟨_, _, rfl, ?_⟩
  refine Tri.mono (fail_t hk _ (some x.pos) 9 (by decide)) ?_
  rintro _ h1 ⟨rfl, hk1⟩
  refine ⟨rfl, br_split (fun e => ?_) (fun e => br_split (fun e' => ?_) (fun e' => ?_))⟩
  · refine ⟨rfl, rfl, ?_⟩
    refine Tri.mono (fail_t hk1 _ (some x.pos) 7 (by decide)) ?_
    rintro _ h2 ⟨rfl, hk2⟩
    refine ⟨rfl, ?_⟩
    refine Tri.mono (fail_t hk2 _ (some x.pos) 9 (by decide)) ?_
    rintro _ h3 ⟨rfl, hk3⟩
    refine ⟨rfl, loopP (pos := x.pos) hA hok hlen rfl rfl rfl rfl rfl (fun h hq => fin (KS.to hq ?_)) hk3⟩
    simp only [ckF, e, Bool.true_or]
    rw [← ge_cast, ← gt_cast]; rfl
  · refine ⟨rfl, rfl, ?_⟩
    refine Tri.mono (fail_t hk1 _ (some x.pos) 7 (by decide)) ?_
    rintro _ h2 ⟨rfl, hk2⟩
    refine ⟨rfl, ?_⟩
    refine Tri.mono (fail_t hk2 _ (some x.pos) 9 (by decide)) ?_
    rintro _ h3 ⟨rfl, hk3⟩
    refine ⟨rfl, loopP (pos := x.pos) hA hok hlen rfl rfl rfl rfl rfl (fun h hq => fin (KS.to hq ?_)) hk3⟩
    simp only [ckF, e, e', Bool.true_or, Bool.or_true]
    rw [← ge_cast, ← gt_cast]; rfl
  · refine Tri.mono (isBuiltin_t x.name h1) ?_
    rintro _ h1 ⟨rfl, rfl⟩
    refine ⟨_, rfl, rfl, rfl, ?_⟩
    refine Tri.mono (fail_t hk1 _ (some x.pos) 7 (by decide)) ?_
    rintro _ h2 ⟨rfl, hk2⟩
    refine ⟨rfl, ?_⟩
    refine Tri.mono (fail_t hk2 _ (some x.pos) 9 (by decide)) ?_
    rintro _ h3 ⟨rfl, hk3⟩
    refine ⟨rfl, loopP (pos := x.pos) hA hok hlen rfl rfl rfl rfl rfl (fun h hq => fin (KS.to hq ?_)) hk3⟩
    simp only [ckF, e, e', Bool.false_or]
    rw [← ge_cast, ← gt_cast]; rfl
theorem clone_t {L : List Bytes} {a : OA} {ac : Nat} (hs : StrAt h a L) (hok : okN a L.length ac) (hl : L.length ≤ 1000000) :
 Tri Tryz.prog 60 [vL a L.length ac] h fun v h' => ∃ a' k', v = vL a' L.length k' ∧ Own h' 9 1 (vL a' L.length k') L.length (L.map fun l => vS l) ∧ Ext h h' ∧ ∀ b, a' = ad b 0 → h b = none := by
 by_cases h0 : L.length = 0
 · obtain ⟨rfl, rfl⟩ := hok.2 h0
   obtain rfl := List.eq_nil_of_length_eq_zero h0
   refine T60n ?_
   unfold R60n
   exact ⟨none, 0, rfl, ⟨by simp, .inl ⟨rfl, rfl⟩⟩, Ext.refl _, fun b hb => by cases hb⟩
 rcases hs with hs | ⟨b, o, rfl, hs⟩
 · subst hs; simp at h0
 refine T60p ?_
 unfold R60p
 intro b2 hb2 h1 hh1
 have hx1 := Put.ext hh1 hb2
 have hrow : h1.row b o (L.map fun l => vS l) := Go.Den.row_of _ _ fun j v hj => by
  rw [List.getElem?_map] at hj
  cases hL : L[j]? with
  | none => rw [hL] at hj; cases hj
  | some l => rw [hL] at hj; cases hj; exact cell_ext (fun ob => hx1 b ob) (hs j l hL)
 have hone : allOne (L.map fun l => vS l) = true := by
  clear hs h0 hok hl hrow
  induction L with
  | nil => rfl
  | cons x L ih => exact ih
 refine Raw.mono (raw_append (i := Tryz.t9) rfl rfl rfl und51 rfl rfl rfl rfl (n := 0) (xs := []) ⟨by simp, .inr ⟨b2, 0, [], rfl, Put.at hh1, by simp, by omega⟩⟩ (SrcH.row und51 (by rw [List.length_map]; show L.length = L.length * 1; omega) hrow hone) rfl (by omega) (by show (16 * (0 + L.length) + 16384) * 16 ≤ _; omega) (by omega)) ?_
 rintro _ h2 ⟨b', cap, rest, rfl, rfl, hr, hcap, hb'⟩
 have hn : h b' = none := by
  rcases hb' with hb' | ⟨_, hb'⟩
  · cases hh : h b' with
    | none => rfl
    | some o => rw [hx1 _ _ hh] at hb'; cases hb'
  · injection hb' with hb'; injection hb' with hb'; injection hb' with hb'; subst hb'; exact hb2
 refine ⟨_, _, _, rfl, _, _, by rw [Nat.zero_add], ⟨by simp, .inr ⟨b', cap, rest, rfl, by rw [put_same]; rfl, ?_, by omega⟩⟩, ?_, fun q hq => ?_⟩
 · rw [hr, Nat.zero_add]; rfl
 · intro k o hk
   rw [put_ne (fun e => by subst e; rw [hn] at hk; cases hk)]
   exact hx1 _ _ hk
 · injection hq with hq; injection hq with hq; subst hq; exact hn
end
end Go.Proofs.D
namespace Go.Proofs.D
open Go Go.Den Go.Sx
set_option maxRecDepth 100000
attribute [local irreducible] IntKind.wrap Tri parseS
section
variable {s : Bytes} {g : PHeap} {cb m1 m2 : Nat} {gl fn : Tab} {c : CS} {h h' : PHeap}
theorem RStr_str {h : PHeap} {a : OA} {L : List Bytes} (hA : At 1 RStr h a L) : StrAt h a L := by
 rcases hA with hA | ⟨b, o, ha, hA⟩
 · exact .inl hA
 · refine .inr ⟨b, o, ha, fun j l hj => ?_⟩
   obtain ⟨cs, g1, g2⟩ := hA j l hj
   have g2 : cs = [vS l] := g2
   subst g2
   have : h.cell b (o + j * 1) = some (vS l) := g1
   rwa [Nat.mul_one] at this
theorem loopB {fs : List F} (hc : cntFs fs ≤ 10000) {fa : OA} (hF : At 5 (RF (plP s) 8 7) g fa fs) {Q : PHeap → Prop} {T : Prop} (hT : T)
 (hk : KS s g cb m1 m2 gl fn c h) (hQ : ∀ h c', KS s g cb m1 m2 gl fn c' h → c'.err = ckB gl fn fs c.err → Q h) :
 ∃ (I_3 : Nat → Int → PHeap → Prop), (∃ (m11 : Nat), I_3 m11 (0 : Int) h) ∧ ∀ (m10 : Nat) (i10 : Int) (h_11 : PHeap), I_3 m10 i10 h_11 →
   br (decide (i10 < ((fs.length : Nat) : Int)))
    (∃ (b4 o3 : Nat), fa = some ⟨b4, o3, none⟩ ∧ (0 ≤ i10 ∧ i10 < fs.length) ∧
     ∃ (l3 : Bs) (a5 : OA) (n5 k5 : Nat) (a6 : OA) (n6 k6 : Nat) (i11 i12 : Int), h_11.row b4 (o3 + (i10).toNat * 5) [vS l3, vL a5 n5 k5, vL a6 n6 k6, vI i11, vI i12] ∧
     Tri Tryz.prog 60 [vL a5 n5 k5] h_11 fun v_8 h_12 => ∃ (a7 : OA) (n7 k7 : Nat), v_8 = vL a7 n7 k7 ∧
      ∃ (l4 : List Value) (t1 : TypeId) (z1 : Nat × Nat), h_12 cb = some (.cells ⟨l4⟩ t1 z1) ∧ (2 + 1 ≤ l4.length ∧ z1.2 ≤ 2) ∧ ∀ (h_13 : PHeap), h_13 = h_12.put cb (.cells ⟨splice l4 2 [vL a7 n7 k7]⟩ t1 z1) →
        ∃ (l5 : List Value) (t2 : TypeId) (z2 : Nat × Nat), h_13 cb = some (.cells ⟨l5⟩ t2 z2) ∧ (3 + 1 ≤ l5.length ∧ z2.2 ≤ 3) ∧ ∀ (h_14 : PHeap), h_14 = h_13.put cb (.cells ⟨splice l5 3 [vI ((n5 : Nat) : Int)]⟩ t2 z2) →
          Tri Tryz.prog 61 [vP cb 0, vL a6 n6 k6, vB false] h_14 fun v_9 h_15 => v_9 = vT [] ∧ ∃ (m12 : Nat), m12 < m10 ∧ I_3 m12 (IntKind.i64.wrap (i10 + 1)) h_15 ∧ T ∧ True)
    (Q h_11) := by
 have hlen := cntFs_len fs
 refine ⟨fun m i h' => ∃ (j : Nat) (c' : CS), i = j ∧ j + m = fs.length ∧ KS s g cb m1 m2 gl fn c' h' ∧ ckB gl fn (fs.drop j) c'.err = ckB gl fn fs c.err, ⟨fs.length, 0, c, rfl, by omega, hk, rfl⟩, ?_⟩
 rintro m _ h1 ⟨j, c', rfl, hjm, hk1, he⟩
 refine br_split (fun e2 => ?_) (fun e2 => ?_)
 · have hj : j < fs.length := by
    have := of_decide_eq_true e2
    omega
   obtain ⟨b, o, cs, rfl, hr, hrel⟩ := hF.get hj
   have hcj := cntFs_mem (List.getElem_mem hj)
   rw [List.drop_eq_getElem_cons hj, ckB] at he
   generalize fs[j] = x at *
   obtain ⟨a1, c1, a2, c2, rfl, hP, hB, hok⟩ := hrel
   simp only [cntF] at hcj
   refine ⟨b, o, rfl, ⟨by omega, by omega⟩, _, _, _, _, _, _, _, _, _, row_ext (fun ob => hk1.ext b ob) hr, ?_⟩
   refine Tri.mono (clone_t ((RStr_str hP).ext hk1.ext) hok (by omega)) ?_
   rintro _ h2 ⟨a', k', rfl, ho2, hx2, hf2⟩
   obtain ⟨a0, k0, hb0, hv0⟩ := hk1.bl
   refine ⟨_, _, _, rfl, _, _, _, hx2 _ _ hb0, ⟨by simp, Nat.zero_le _⟩, ?_⟩
   intro h3 hh3
   refine ⟨_, _, _, Put.at hh3, ⟨by simp [splice], Nat.zero_le _⟩, ?_⟩
   intro h4 hh4
   have hx4 := (Put.chg hh3).trans (Put.chg hh4)
   obtain ⟨L1, ck1, hm1, _⟩ := hk1.mg
   obtain ⟨L2, ck2, hm2, _⟩ := hk1.mf
   have hB2 : KB g cb m1 m2 gl fn h2 := hk1.toKB.of (hk1.ext.trans hx2) (by rw [hx2 _ _ hm1, hm1]) (by rw [hx2 _ _ hm2, hm2])
   have hv2 : KV g cb m1 m2 h2 a' k' x.params := ⟨ho2, fun q hq => by
    have hn := hf2 q hq
    refine ⟨fun e => ?_, fun e => ?_, fun e => ?_, ?_⟩
    · subst e; rw [hb0] at hn; cases hn
    · subst e; rw [hm1] at hn; cases hn
    · subst e; rw [hm2] at hn; cases hn
    · cases hg : g q with
      | none => rfl
      | some o => rw [hk1.ext _ _ hg] at hn; cases hn⟩
   have hk4 : KS s g cb m1 m2 gl fn ⟨c'.err, x.params, x.params.length⟩ h4 := ⟨hB2.chg hx4, hk1.er, Nat.le_refl _, a', k', Put.at hh4, hv2.chg hx4⟩
   refine Tri.mono (list_t (fun e _ => stmt_t _ e (Nat.le_refl _)) hB false hk4 (by show x.params.length + cntSs x.body ≤ _; omega)) ?_
   rintro _ h5 ⟨rfl, hk5⟩
   refine ⟨rfl, m - 1, by omega, ⟨j + 1, _, ?_, by omega, hk5, he⟩, hT, trivial⟩
   rw [wrap64 (by omega) (by omega)]; rfl
 · have : fs.length ≤ j := by
    have := of_decide_eq_false e2
    omega
   rw [List.drop_eq_nil_of_le this] at he
   exact hQ _ _ hk1 he
theorem check_tri {p : Pg} (hw : ∀ f ∈ p.funcs, wfSs f.body) (hc : cntP p ≤ 4097) {ga fa : OA} {gc fc : Nat} (hG : At 5 (RG (plP s)) h ga p.globals) (hF : At 5 (RF (plP s) 8 7) h fa p.funcs) :
 Tri Tryz.prog 19 [vA [vL ga p.globals.length gc, vL fa p.funcs.length fc]] h fun v h' => v = vT [vI (erp s (checkS p)).1, vI (erp s (checkS p)).2.1, vI (erp s (checkS p)).2.2] ∧ Ext h h' := by
 refine T19 ?_
 unfold R19
 refine Tri.mono (tree_tri hw hc hF) ?_
 rintro _ h1 ⟨rfl, hx1⟩
 have hG := hG.ext (RG_mono _) hx1
 have hF := hF.ext (RF_mono _ _ _) hx1
 refine ⟨_, rfl, br_neg rfl ?_⟩
 refine raw_makeMap fun m1 hm1 => ⟨m1, rfl, ?_⟩
 refine raw_makeMap fun m2 hm2 => ⟨m2, rfl, ?_⟩
 intro cb hcb h4 hh4
 simp only [cntP] at hc
 have hlen := cntFs_len p.funcs
 have hn21 : m2 ≠ m1 := fun e => by subst e; rw [put_same] at hm2; cases hm2
 have hm2' : h1 m2 = none := by rwa [put_ne hn21] at hm2
 have hnc2 : cb ≠ m2 := fun e => by subst e; rw [put_same] at hcb; cases hcb
 rw [put_ne hnc2] at hcb
 have hnc1 : cb ≠ m1 := fun e => by subst e; rw [put_same] at hcb; cases hcb
 rw [put_ne hnc1] at hcb
 have hk4 : KS s h1 cb m1 m2 [] [] ⟨none, [], 0⟩ h4 := by
  refine ⟨⟨fun k o hk => ?_, hcb, hm1, hm2', hnc1.symm, hnc2.symm, hn21.symm, ⟨[], 0, ?_, fun n => rfl⟩, ⟨[], 0, ?_, fun n => rfl⟩⟩, (fun x hx => by cases hx), Nat.le_refl _, none, 0, Put.at hh4, ⟨by simp, .inl ⟨rfl, rfl⟩⟩, fun b hb => by cases hb⟩
  · rw [hh4, put_ne (fun e => by subst e; rw [hcb] at hk; cases hk), put_ne (fun e => by subst e; rw [hm2'] at hk; cases hk), put_ne (fun e => by subst e; rw [hm1] at hk; cases hk)]
    exact hk
  · rw [hh4, put_ne hnc1.symm, put_ne hn21.symm, put_same]; rfl
  · rw [hh4, put_ne hnc2.symm, put_same]; rfl
 clear hh4 hcb hm1 hm2 hn21 hm2' hnc1 hnc2
 refine ⟨fun m i h' => ∃ (j : Nat) (gl : Tab) (e : Er), i = j ∧ j + m = p.globals.length ∧ KS s h1 cb m1 m2 gl [] ⟨e, [], 0⟩ h' ∧ ckGs j (p.globals.drop j) gl e = ckGs 0 p.globals [] none, ⟨p.globals.length, 0, [], none, rfl, by omega, hk4, rfl⟩, ?_⟩
 clear hk4
 rintro m _ h5 ⟨j, gl, e, rfl, hjm, hk5, he⟩
 refine br_split (fun e2 => ?_) (fun e2 => ?_)
 · have hj : j < p.globals.length := by
    have := of_decide_eq_true e2
    omega
   obtain ⟨b, o, cs, rfl, hr, hrel⟩ := hG.get hj
   rw [List.drop_eq_getElem_cons hj, ckGs] at he
   generalize p.globals[j] = x at *
   have hrel : cs = [vS x.name, vI x.size, vI x.value] ++ plP s x.pos := hrel
   subst hrel
   refine ⟨b, o, rfl, ⟨by omega, by omega⟩, _, _, _, _, _, row_ext (fun ob => hk5.ext b ob) hr, ?_⟩
   refine Tri.mono (global_t hk5 j x) ?_
   rintro _ h6 ⟨rfl, hk6⟩
   refine ⟨rfl, m - 1, by omega, ⟨j + 1, _, _, ?_, by omega, hk6, he⟩, rfl, trivial⟩
   rw [wrap64 (by omega) (by omega)]; rfl
 have : p.globals.length ≤ j := by
  have := of_decide_eq_false e2
  omega
 rw [List.drop_eq_nil_of_le this] at he
 have he1 : gl = (ckGs 0 p.globals [] none).1 := (congrArg Prod.fst he)
 have he2 : e = (ckGs 0 p.globals [] none).2 := (congrArg Prod.snd he)
 clear e2 this he hjm
 refine ⟨fun m i h' => ∃ (j : Nat) (fn : Tab) (e' : Er), i = j ∧ j + m = p.funcs.length ∧ KS s h1 cb m1 m2 gl fn ⟨e', [], 0⟩ h' ∧ ckFs gl j (p.funcs.drop j) fn e' = ckFs gl 0 p.funcs [] e, ⟨p.funcs.length, 0, [], e, rfl, by omega, hk5, rfl⟩, ?_⟩
 rintro m _ h7 ⟨j, fn, e', rfl, hjm, hk7, he⟩
 refine br_split (fun e3 => ?_) (fun e3 => ?_)
 · have hj : j < p.funcs.length := by
    have := of_decide_eq_true e3
    omega
   obtain ⟨b, o, cs, rfl, hr, hrel⟩ := hF.get hj
   have hcj := cntFs_mem (List.getElem_mem hj)
   rw [List.drop_eq_getElem_cons hj, ckFs] at he
   generalize p.funcs[j] = x at *
   obtain ⟨a1, c1, a2, c2, rfl, hP, hB, hok⟩ := hrel
   simp only [cntF] at hcj
   refine ⟨b, o, rfl, ⟨by omega, by omega⟩, _, _, _, _, _, _, _, _, _, row_ext (fun ob => hk7.ext b ob) hr, ?_⟩
   refine Tri.mono (function_t hk7 j x hP hok (by omega)) ?_
   rintro _ h8 ⟨rfl, hk8⟩
   refine ⟨rfl, m - 1, by omega, ⟨j + 1, _, _, ?_, by omega, hk8, he⟩, rfl, trivial⟩
   rw [wrap64 (by omega) (by omega)]; rfl
 have : p.funcs.length ≤ j := by
  have := of_decide_eq_false e3
  omega
 rw [List.drop_eq_nil_of_le this] at he
 have he3 : fn = (ckFs gl 0 p.funcs [] e).1 := (congrArg Prod.fst he)
 have he4 : e' = (ckFs gl 0 p.funcs [] e).2 := (congrArg Prod.snd he)
 clear e3 this he hjm
 obtain ⟨a7, k7, hb7, hv7⟩ := hk7.bl
 refine ⟨_, cell_of hb7 1, ?_⟩
 refine Raw.mono (lookF (l := mainS) hk7.toKB rfl rfl 117) ?_
 rintro _ h7 ⟨rfl, rfl⟩
 have hck : checkS p = ckB gl fn p.funcs (failC ((getT fn mainS).isNone || ((getT fn mainS).getD 0 != 0)) none 8 e') := by
  rw [checkS, he4, he3, he2, he1]
 have fin : ∀ (h9 : PHeap) (c' : CS), KS s h1 cb m1 m2 gl fn c' h9 → c'.err = ckB gl fn p.funcs (failC ((getT fn mainS).isNone || ((getT fn mainS).getD 0 != 0)) none 8 e') →
  ∃ (i13 : Int), h9.cell cb 4 = some (vI i13) ∧ ∃ (i14 : Int), h9.cell cb 5 = some (vI i14) ∧ ∃ (i15 : Int), h9.cell cb 6 = some (vI i15) ∧
    vT [vI i13, vI i14, vI i15] = vT [vI (erp s (checkS p)).1, vI (erp s (checkS p)).2.1, vI (erp s (checkS p)).2.2] ∧ Ext h h9 := fun h9 c' hk9 he9 => by
  obtain ⟨a9, k9, hb9, hv9⟩ := hk9.bl
  refine ⟨_, cell_of hb9 4, _, cell_of hb9 5, _, cell_of hb9 6, ?_, hx1.trans hk9.ext⟩
  rw [he9, ← hck]
 refine ⟨_, _, rfl, br_split (fun e5 => ?_) (fun e5 => ?_)⟩
 · have e5 : (getT fn mainS).isNone = true := by cases hq : getT fn mainS with
    | none => rfl
    | some x => rw [hq] at e5; cases e5
   refine Tri.mono (fail_t hk7 _ none 8 (by decide)) ?_
   rintro _ h8 ⟨rfl, hk8⟩
   refine ⟨rfl, loopB (by omega) hF rfl hk8 fun h9 c' hk9 he9 => fin h9 c' hk9 ?_⟩
   rw [he9, e5, Bool.true_or]
 · have e5 : (getT fn mainS).isNone = false := by cases hq : getT fn mainS with
    | none => rw [hq] at e5; cases e5
    | some x => rfl
   refine Tri.mono (fail_t hk7 _ none 8 (by decide)) ?_
   rintro _ h8 ⟨rfl, hk8⟩
   refine ⟨rfl, loopB (by omega) hF rfl hk8 fun h9 c' hk9 he9 => fin h9 c' hk9 ?_⟩
   rw [he9, e5, Bool.false_or, bne_cast]
end
end Go.Proofs.D
namespace Go.Proofs.D
open Go Go.Den
set_option maxRecDepth 100000
set_option maxHeartbeats 4000000
abbrev dzk1 : List CK := [qi, .str, .str, qi, .str, .slice, qi, qi]
noncomputable def d22 : DCode := up ⟨[(7, .l dzk1), (8, .c (.one false [.bool])), (10, .l dzk1), (11, .c (.one false [.str]))], [], []⟩ (low Tryz.prog (fun d => Nat.beq d 5) (Tryz.f22.body.getD .skip))
theorem low22 : low Tryz.prog (fun d => Nat.beq d 5) (Tryz.f22.body.getD .skip) = some (eC d22) := by kernel_rfl
def R22 (i1 : Int) (l1 : Bs) (l2 : Bs) (i2 : Int) (l3 : Bs) (a1 : OA) (n1 : Nat) (dzk1 : Nat) (i3 : Int) (i4 : Int) (h : PHeap) (Q : Value → PHeap → Prop) : Prop :=
 ∀ (b1 : Nat), h b1 = none → ∀ (h_1 : PHeap), h_1 = h.put b1 (.cells ⟨[vI 4096]⟩ 129) →
 Tri Tryz.prog 66 [vP b1 0, vA [vI i1, vS l1, vS l2, vI i2, vS l3, vL a1 n1 dzk1, vI i3, vI i4]] h_1 fun v_1 h_2 =>
 ∃ (c1 : Bool), v_1 = vB c1 ∧
 br (!c1)
 (Q (vS []) h_2)
 (Tri Tryz.prog 67 [vA [vI i1, vS l1, vS l2, vI i2, vS l3, vL a1 n1 dzk1, vI i3, vI i4]] h_2 fun v_2 h_3 =>
 ∃ (l4 : Bs), v_2 = vS l4 ∧
 Q (vS l4) h_3)
theorem T22 {i1 : Int} {l1 : Bs} {l2 : Bs} {i2 : Int} {l3 : Bs} {a1 : OA} {n1 : Nat} {dzk1 : Nat} {i3 : Int} {i4 : Int} {h : PHeap} {Q : Value → PHeap → Prop} (hR : R22 i1 l1 l2 i2 l3 a1 n1 dzk1 i3 i4 h Q) : Tri Tryz.prog 22 [vA [vI i1, vS l1, vS l2, vI i2, vS l3, vL a1 n1 dzk1, vI i3, vI i4]] h Q :=
 tri_of_dn mixed Tryz.func22 rfl (by kernel_rfl) low22 (rs := [.tmp 2]) (by kernel_rfl) rfl (Eq.mpr (by kernel_rfl : dnF Tryz.prog Tryz.f22.ntmps d22 [.tmp 2] [vA [vI i1, vS l1, vS l2, vI i2, vS l3, vL a1 n1 dzk1, vI i3, vI i4]] h Q = R22 i1 l1 l2 i2 l3 a1 n1 dzk1 i3 i4 h Q) hR)
abbrev o67_1 : Op := .call { callee := (.builtin .append), args := #[(.tmp 18), (.tmp 21)], argTypes := #[51, 51] }
noncomputable def d67 : DCode := up ⟨[(12, .l [.slice]), (17, .l dzk1), (19, .l dzk1), (20, .c (.one false [.str])), (22, .c (.one false [.slice])), (25, .l [qi]), (29, .l [qi]), (30, .c (.one false [.str])), (35, .l [.str]), (36, .c (.tup [(false, [.str]), (false, [qi])])), (43, .l [.str]), (47, .l [.str]), (53, .l [.str]), (56, .c (.one false [.str])), (62, .l [.str]), (65, .l [.str]), (67, .l [.slice]), (70, .l [qi]), (72, .c (.one false [.str])), (77, .l [.str]), (78, .c (.one false [qi])), (81, .l [.str]), (83, .l [.slice]), (86, .l [qi]), (90, .l [.slice]), (93, .l [.str]), (94, .c (.one false [qi])), (98, .c (.one false [.str])), (101, .l [.str]), (103, .l [.slice]), (106, .l [qi]), (110, .l [.slice]), (113, .l [.str]), (114, .c (.one false [qi])), (118, .c (.one false [.str])), (122, .l [.str]), (128, .l [.str])], [], [(15, 12, [(3, .slice), (14, qi)], [])]⟩ (low Tryz.prog (fun _ => false) (Tryz.f67.body.getD .skip))
theorem low67 : low Tryz.prog (fun _ => false) (Tryz.f67.body.getD .skip) = some (eC d67) := by kernel_rfl
def R67 (i1 : Int) (l1 : Bs) (l2 : Bs) (i2 : Int) (l3 : Bs) (a1 : OA) (n1 : Nat) (dzk1 : Nat) (i3 : Int) (i4 : Int) (h : PHeap) (Q : Value → PHeap → Prop) : Prop :=
 ∃ (I_1 : Nat → OA → Nat → Nat → Int → PHeap → Prop), (∃ (m2 : Nat), I_1 m2 none 0 0 (0 : Int) h) ∧
 ∀ (m1 : Nat) (a2 : OA) (n2 : Nat) (k2 : Nat) (i5 : Int) (h_1 : PHeap), I_1 m1 a2 n2 k2 i5 h_1 →
 br (decide (i5 < ((n1 : Nat) : Int)))
 (∃ (b1 o1 : Nat), a1 = some ⟨b1, o1, none⟩ ∧ (0 ≤ i5 ∧ i5 < n1) ∧
 ∃ (i6 : Int) (l4 l5 : Bs) (i7 : Int) (l6 : Bs) (a3 : OA) (n3 k3 : Nat) (i8 i9 : Int), h_1.row b1 (o1 + (i5).toNat * 8) [vI i6, vS l4, vS l5, vI i7, vS l6, vL a3 n3 k3, vI i8, vI i9] ∧
 Tri Tryz.prog 67 [vA [vI i6, vS l4, vS l5, vI i7, vS l6, vL a3 n3 k3, vI i8, vI i9]] h_1 fun v_1 h_2 =>
 ∃ (l7 : Bs), v_1 = vS l7 ∧
 ∀ (b2 : Nat), h_2 b2 = none → ∀ (h_3 : PHeap), h_3 = h_2.put b2 (.cells ⟨[vS l7]⟩ 9) →
 Raw Tryz.prog (execOp (rho [(18, vL a2 n2 k2), (21, vL (ad b2 0) 1 1)]) (mkO o67_1 51)) h_3 fun v_2 h_4 =>
 ∃ (a4 : OA) (n4 k4 : Nat), v_2 = vL a4 n4 k4 ∧
 ∃ (m3 : Nat), m3 < m1 ∧ I_1 m3 a4 n4 k4 (IntKind.i64.wrap (i5 + 1)) h_4 ∧
 tv [vI i1, vS l1, vS l2, vI i2, vS l3, vL a1 n1 dzk1, vI i3, vI i4] ∧ True)
 (br (i1 == 1)
 (Tri Tryz.prog 80 [vI i2] h_1 fun v_3 h_5 =>
 ∃ (l8 : Bs), v_3 = vS l8 ∧
 Q (vS l8) h_5)
 (br (i1 == 2)
 (Tri Tryz.prog 109 [vS l3] h_1 fun v_4 h_6 =>
 ∃ (l9 : Bs) (i10 : Int), v_4 = vT [vS l9, vI i10] ∧
 Q (vS l9) h_6)
 (br (i1 == 4)
 (l2.length + ([91] : Bs).length ≤ 9223372036854775807 ∧
 ∃ (b3 o2 : Nat), a2 = some ⟨b3, o2, none⟩ ∧ (0 ≤ (0 : Int) ∧ (0 : Int) < n2) ∧
 ∃ (l10 : Bs), h_1.cell b3 o2 = some (vS l10) ∧
 (l2 ++ ([91] : Bs)).length + l10.length ≤ 9223372036854775807 ∧
 ((l2 ++ ([91] : Bs)) ++ l10).length + ([93] : Bs).length ≤ 9223372036854775807 ∧
 Q (vS (((l2 ++ ([91] : Bs)) ++ l10) ++ ([93] : Bs))) h_1)
 (br (i1 == 5)
 (l2.length + ([40] : Bs).length ≤ 9223372036854775807 ∧
 Tri Tryz.prog 81 [vL a2 n2 k2, vS [44, 32]] h_1 fun v_5 h_7 =>
 ∃ (l11 : Bs), v_5 = vS l11 ∧
 (tv [vS l2]) ∧
 (l2 ++ ([40] : Bs)).length + l11.length ≤ 9223372036854775807 ∧
 ((l2 ++ ([40] : Bs)) ++ l11).length + ([41] : Bs).length ≤ 9223372036854775807 ∧
 Q (vS (((l2 ++ ([40] : Bs)) ++ l11) ++ ([41] : Bs))) h_7)
 (br (i1 == 6)
 (∃ (b4 o3 : Nat), a2 = some ⟨b4, o3, none⟩ ∧ (0 ≤ (0 : Int) ∧ (0 : Int) < n2) ∧
 ∃ (l12 : Bs), h_1.cell b4 o3 = some (vS l12) ∧
 ∃ (b5 o4 : Nat), a1 = some ⟨b5, o4, none⟩ ∧ (0 ≤ (0 : Int) ∧ (0 : Int) < n1) ∧
 ∃ (i11 : Int), h_1.cell b5 o4 = some (vI i11) ∧
 Tri Tryz.prog 110 [vS l12, vB (i11 == 7)] h_1 fun v_6 h_8 =>
 ∃ (l13 : Bs), v_6 = vS l13 ∧
 (h_8.cell b5 o4 = some (vI i11)) ∧
 (tv [vL a1 n1 dzk1]) ∧
 (tv [vS l1]) ∧
 l1.length + l13.length ≤ 9223372036854775807 ∧
 Q (vS (l1 ++ l13)) h_8)
 (br (i1 == 7)
 (Tri Tryz.prog 26 [vS l1] h_1 fun v_7 h_9 =>
 ∃ (i12 : Int), v_7 = vI i12 ∧
 ∃ (b6 o5 : Nat), a2 = some ⟨b6, o5, none⟩ ∧ (0 ≤ (0 : Int) ∧ (0 : Int) < n2) ∧
 ∃ (l14 : Bs), h_9.cell b6 o5 = some (vS l14) ∧
 ∃ (b7 o6 : Nat), a1 = some ⟨b7, o6, none⟩ ∧ (0 ≤ (0 : Int) ∧ (0 : Int) < n1) ∧
 ∃ (i13 : Int), h_9.cell b7 o6 = some (vI i13) ∧
 br (i13 == 7)
 (∃ (b8 o7 : Nat), a1 = some ⟨b8, o7, none⟩ ∧ (0 ≤ (0 : Int) ∧ (0 : Int) < n1) ∧
 ∃ (l15 : Bs), h_9.cell b8 (o7 + 1) = some (vS l15) ∧
 Tri Tryz.prog 26 [vS l15] h_9 fun v_8 h_10 =>
 ∃ (i14 : Int), v_8 = vI i14 ∧
 (tv [vL a1 n1 dzk1]) ∧
 (h_10.cell b7 o6 = some (vI i13)) ∧
 (tv [vL a1 n1 dzk1]) ∧
 (h_10.cell b6 o5 = some (vS l14)) ∧
 Tri Tryz.prog 110 [vS l14, vB (decide (i14 < i12))] h_10 fun v_9 h_11 =>
 ∃ (l16 : Bs), v_9 = vS l16 ∧
 (tv [vL a1 n1 dzk1]) ∧
 (h_11.cell b7 o6 = some (vI i13)) ∧
 (tv [vL a1 n1 dzk1]) ∧
 ∃ (b9 o8 : Nat), a2 = some ⟨b9, o8, none⟩ ∧ (0 ≤ (1 : Int) ∧ (1 : Int) < n2) ∧
 ∃ (l17 : Bs), h_11.cell b9 (o8 + 1) = some (vS l17) ∧
 ∃ (b10 o9 : Nat), a1 = some ⟨b10, o9, none⟩ ∧ (0 ≤ (1 : Int) ∧ (1 : Int) < n1) ∧
 ∃ (i15 : Int), h_11.cell b10 (o9 + 8) = some (vI i15) ∧
 br (i15 == 7)
 (∃ (b11 o10 : Nat), a1 = some ⟨b11, o10, none⟩ ∧ (0 ≤ (1 : Int) ∧ (1 : Int) < n1) ∧
 ∃ (l18 : Bs), h_11.cell b11 (o10 + 9) = some (vS l18) ∧
 Tri Tryz.prog 26 [vS l18] h_11 fun v_10 h_12 =>
 ∃ (i16 : Int), v_10 = vI i16 ∧
 (tv [vL a1 n1 dzk1]) ∧
 (h_12.cell b10 (o9 + 8) = some (vI i15)) ∧
 (tv [vL a1 n1 dzk1]) ∧
 (h_12.cell b9 (o8 + 1) = some (vS l17)) ∧
 Tri Tryz.prog 110 [vS l17, vB (decide (i16 ≤ i12))] h_12 fun v_11 h_13 =>
 ∃ (l19 : Bs), v_11 = vS l19 ∧
 (tv [vL a1 n1 dzk1]) ∧
 (h_13.cell b10 (o9 + 8) = some (vI i15)) ∧
 (tv [vL a1 n1 dzk1]) ∧
 l16.length + ([32] : Bs).length ≤ 9223372036854775807 ∧
 (l16 ++ ([32] : Bs)).length + l1.length ≤ 9223372036854775807 ∧
 ((l16 ++ ([32] : Bs)) ++ l1).length + ([32] : Bs).length ≤ 9223372036854775807 ∧
 (((l16 ++ ([32] : Bs)) ++ l1) ++ ([32] : Bs)).length + l19.length ≤ 9223372036854775807 ∧
 Q (vS ((((l16 ++ ([32] : Bs)) ++ l1) ++ ([32] : Bs)) ++ l19)) h_13)
 ((h_11.cell b10 (o9 + 8) = some (vI i15)) ∧
 (tv [vL a1 n1 dzk1]) ∧
 (h_11.cell b9 (o8 + 1) = some (vS l17)) ∧
 Tri Tryz.prog 110 [vS l17, vB false] h_11 fun v_12 h_14 =>
 ∃ (l20 : Bs), v_12 = vS l20 ∧
 (h_14.cell b10 (o9 + 8) = some (vI i15)) ∧
 (tv [vL a1 n1 dzk1]) ∧
 l16.length + ([32] : Bs).length ≤ 9223372036854775807 ∧
 (l16 ++ ([32] : Bs)).length + l1.length ≤ 9223372036854775807 ∧
 ((l16 ++ ([32] : Bs)) ++ l1).length + ([32] : Bs).length ≤ 9223372036854775807 ∧
 (((l16 ++ ([32] : Bs)) ++ l1) ++ ([32] : Bs)).length + l20.length ≤ 9223372036854775807 ∧
 Q (vS ((((l16 ++ ([32] : Bs)) ++ l1) ++ ([32] : Bs)) ++ l20)) h_14))
 ((h_9.cell b7 o6 = some (vI i13)) ∧
 (tv [vL a1 n1 dzk1]) ∧
 (h_9.cell b6 o5 = some (vS l14)) ∧
 Tri Tryz.prog 110 [vS l14, vB false] h_9 fun v_13 h_15 =>
 ∃ (l21 : Bs), v_13 = vS l21 ∧
 (h_15.cell b7 o6 = some (vI i13)) ∧
 (tv [vL a1 n1 dzk1]) ∧
 ∃ (b12 o11 : Nat), a2 = some ⟨b12, o11, none⟩ ∧ (0 ≤ (1 : Int) ∧ (1 : Int) < n2) ∧
 ∃ (l22 : Bs), h_15.cell b12 (o11 + 1) = some (vS l22) ∧
 ∃ (b13 o12 : Nat), a1 = some ⟨b13, o12, none⟩ ∧ (0 ≤ (1 : Int) ∧ (1 : Int) < n1) ∧
 ∃ (i17 : Int), h_15.cell b13 (o12 + 8) = some (vI i17) ∧
 br (i17 == 7)
 (∃ (b14 o13 : Nat), a1 = some ⟨b14, o13, none⟩ ∧ (0 ≤ (1 : Int) ∧ (1 : Int) < n1) ∧
 ∃ (l23 : Bs), h_15.cell b14 (o13 + 9) = some (vS l23) ∧
 Tri Tryz.prog 26 [vS l23] h_15 fun v_14 h_16 =>
 ∃ (i18 : Int), v_14 = vI i18 ∧
 (tv [vL a1 n1 dzk1]) ∧
 (h_16.cell b13 (o12 + 8) = some (vI i17)) ∧
 (tv [vL a1 n1 dzk1]) ∧
 (h_16.cell b12 (o11 + 1) = some (vS l22)) ∧
 Tri Tryz.prog 110 [vS l22, vB (decide (i18 ≤ i12))] h_16 fun v_15 h_17 =>
 ∃ (l24 : Bs), v_15 = vS l24 ∧
 (tv [vL a1 n1 dzk1]) ∧
 (h_17.cell b13 (o12 + 8) = some (vI i17)) ∧
 (tv [vL a1 n1 dzk1]) ∧
 l21.length + ([32] : Bs).length ≤ 9223372036854775807 ∧
 (l21 ++ ([32] : Bs)).length + l1.length ≤ 9223372036854775807 ∧
 ((l21 ++ ([32] : Bs)) ++ l1).length + ([32] : Bs).length ≤ 9223372036854775807 ∧
 (((l21 ++ ([32] : Bs)) ++ l1) ++ ([32] : Bs)).length + l24.length ≤ 9223372036854775807 ∧
 Q (vS ((((l21 ++ ([32] : Bs)) ++ l1) ++ ([32] : Bs)) ++ l24)) h_17)
 ((h_15.cell b13 (o12 + 8) = some (vI i17)) ∧
 (tv [vL a1 n1 dzk1]) ∧
 (h_15.cell b12 (o11 + 1) = some (vS l22)) ∧
 Tri Tryz.prog 110 [vS l22, vB false] h_15 fun v_16 h_18 =>
 ∃ (l25 : Bs), v_16 = vS l25 ∧
 (h_18.cell b13 (o12 + 8) = some (vI i17)) ∧
 (tv [vL a1 n1 dzk1]) ∧
 l21.length + ([32] : Bs).length ≤ 9223372036854775807 ∧
 (l21 ++ ([32] : Bs)).length + l1.length ≤ 9223372036854775807 ∧
 ((l21 ++ ([32] : Bs)) ++ l1).length + ([32] : Bs).length ≤ 9223372036854775807 ∧
 (((l21 ++ ([32] : Bs)) ++ l1) ++ ([32] : Bs)).length + l25.length ≤ 9223372036854775807 ∧
 Q (vS ((((l21 ++ ([32] : Bs)) ++ l1) ++ ([32] : Bs)) ++ l25)) h_18)))
 (Q (vS l2) h_1)))))))
theorem T67 {i1 : Int} {l1 : Bs} {l2 : Bs} {i2 : Int} {l3 : Bs} {a1 : OA} {n1 : Nat} {dzk1 : Nat} {i3 : Int} {i4 : Int} {h : PHeap} {Q : Value → PHeap → Prop} (hR : R67 i1 l1 l2 i2 l3 a1 n1 dzk1 i3 i4 h Q) : Tri Tryz.prog 67 [vA [vI i1, vS l1, vS l2, vI i2, vS l3, vL a1 n1 dzk1, vI i3, vI i4]] h Q :=
 tri_of_dn mixed Tryz.func67 rfl (by kernel_rfl) low67 (rs := [.tmp 2]) (by kernel_rfl) rfl (Eq.mpr (by kernel_rfl : dnF Tryz.prog Tryz.f67.ntmps d67 [.tmp 2] [vA [vI i1, vS l1, vS l2, vI i2, vS l3, vL a1 n1 dzk1, vI i3, vI i4]] h Q = R67 i1 l1 l2 i2 l3 a1 n1 dzk1 i3 i4 h Q) hR)
noncomputable def d80 : DCode := up ⟨[(4, .c (.one false [.str]))], [], []⟩ (low Tryz.prog (fun _ => false) (Tryz.f80.body.getD .skip))
theorem low80 : low Tryz.prog (fun _ => false) (Tryz.f80.body.getD .skip) = some (eC d80) := by kernel_rfl
def R80 (i1 : Int) (h : PHeap) (Q : Value → PHeap → Prop) : Prop :=
 Tri Tryz.prog 126 [vI i1] h fun v_1 h_1 =>
 ∃ (l1 : Bs), v_1 = vS l1 ∧
 Q (vS l1) h_1
theorem T80 {i1 : Int} {h : PHeap} {Q : Value → PHeap → Prop} (hR : R80 i1 h Q) : Tri Tryz.prog 80 [vI i1] h Q :=
 tri_of_dn mixed Tryz.func80 rfl (by kernel_rfl) low80 (rs := [.tmp 2]) (by kernel_rfl) rfl (Eq.mpr (by kernel_rfl : dnF Tryz.prog Tryz.f80.ntmps d80 [.tmp 2] [vI i1] h Q = R80 i1 h Q) hR)
noncomputable def d110 : DCode := up ⟨[], [], []⟩ (low Tryz.prog (fun _ => false) (Tryz.f110.body.getD .skip))
theorem low110 : low Tryz.prog (fun _ => false) (Tryz.f110.body.getD .skip) = some (eC d110) := by kernel_rfl
def R110 (l1 : Bs) (c1 : Bool) (h : PHeap) (Q : Value → PHeap → Prop) : Prop :=
 br c1
 (([40] : Bs).length + l1.length ≤ 9223372036854775807 ∧
 (([40] : Bs) ++ l1).length + ([41] : Bs).length ≤ 9223372036854775807 ∧
 Q (vS ((([40] : Bs) ++ l1) ++ ([41] : Bs))) h)
 (Q (vS l1) h)
theorem T110 {l1 : Bs} {c1 : Bool} {h : PHeap} {Q : Value → PHeap → Prop} (hR : R110 l1 c1 h Q) : Tri Tryz.prog 110 [vS l1, vB c1] h Q :=
 tri_of_dn mixed Tryz.func110 rfl (by kernel_rfl) low110 (rs := [.tmp 4]) (by kernel_rfl) rfl (Eq.mpr (by kernel_rfl : dnF Tryz.prog Tryz.f110.ntmps d110 [.tmp 4] [vS l1, vB c1] h Q = R110 l1 c1 h Q) hR)
noncomputable def d126 : DCode := up ⟨[(4, .c (.one false [.str]))], [], []⟩ (low Tryz.prog (fun _ => false) (Tryz.f126.body.getD .skip))
theorem low126 : low Tryz.prog (fun _ => false) (Tryz.f126.body.getD .skip) = some (eC d126) := by kernel_rfl
def R126 (i1 : Int) (h : PHeap) (Q : Value → PHeap → Prop) : Prop :=
 Tri Tryz.prog 159 [vI i1, vI 10] h fun v_1 h_1 =>
 ∃ (l1 : Bs), v_1 = vS l1 ∧
 Q (vS l1) h_1
theorem T126 {i1 : Int} {h : PHeap} {Q : Value → PHeap → Prop} (hR : R126 i1 h Q) : Tri Tryz.prog 126 [vI i1] h Q :=
 tri_of_dn mixed Tryz.func126 rfl (by kernel_rfl) low126 (rs := [.tmp 2]) (by kernel_rfl) rfl (Eq.mpr (by kernel_rfl : dnF Tryz.prog Tryz.f126.ntmps d126 [.tmp 2] [vI i1] h Q = R126 i1 h Q) hR)
abbrev o159_6 : Op := .slice 245 (.tmp 5) (some (.const (vI 1))) (some (.tmp 29)) none
abbrev o159_9 : Op := .slice 245 (.tmp 5) none (some (.tmp 37)) none
abbrev o159_11 : Op := .slice 245 (.tmp 5) (some (.const (vI 1))) (some (.tmp 41)) none
noncomputable def d159 : DCode := up ⟨[(19, .c (.one false [.str])), (27, .c (.one false [qi])), (30, .c (.one false [.slice])), (32, .c (.tup [])), (38, .c (.one false [.slice])), (42, .c (.one false [.slice])), (50, .c (.tup [(false, [.slice]), (false, [.str])]))], [35], []⟩ (low Tryz.prog (fun d => Nat.beq d 5) (Tryz.f159.body.getD .skip))
theorem low159 : low Tryz.prog (fun d => Nat.beq d 5) (Tryz.f159.body.getD .skip) = some (eC d159) := by kernel_rfl
def R159 (i1 : Int) (i2 : Int) (h : PHeap) (Q : Value → PHeap → Prop) : Prop :=
 br (i2 == 10)
 (br (decide (0 ≤ i1))
 (br (decide (i1 < 100))
 (Tri Tryz.prog 180 [vI i1] h fun v_1 h_1 =>
 ∃ (l1 : Bs), v_1 = vS l1 ∧
 Q (vS l1) h_1)
 (∀ (b1 : Nat), h b1 = none → ∀ (h_2 : PHeap), h_2 = h.put b1 (.cells ⟨[vU 0, vU 0, vU 0, vU 0, vU 0, vU 0, vU 0, vU 0, vU 0, vU 0, vU 0, vU 0, vU 0, vU 0, vU 0, vU 0, vU 0, vU 0, vU 0, vU 0, vU 0, vU 0, vU 0, vU 0]⟩ 245) →
 br (decide (i1 < 0))
 (Tri Tryz.prog 181 [.int .u64 (IntKind.u64.wrap (0 - (IntKind.u64.wrap (i1))))] h_2 fun v_2 h_3 =>
 ∃ (i3 : Int), v_2 = vI i3 ∧
 ∃ (a1 : OA) (n1 dzk1 : Nat), PureRun Tryz.prog (execOp (rho [(5, vP b1 0), (29, vI (IntKind.i64.wrap (1 + i3)))]) (mkO o159_6 45)) (vL a1 n1 dzk1) ∧
 Tri Tryz.prog 182 [vL a1 n1 dzk1, .int .u64 (IntKind.u64.wrap (0 - (IntKind.u64.wrap (i1))))] h_3 fun v_3 h_4 =>
 v_3 = vT [] ∧
 br (decide (i1 < 0))
 ((0 ≤ (0 : Int) ∧ (0 : Int) < 24) ∧
 ∃ (l2 : List Value) (t1 : TypeId) (z1 : Nat × Nat), h_4 b1 = some (.cells ⟨l2⟩ t1 z1) ∧ (0 + 1 ≤ l2.length ∧ z1.2 ≤ 0) ∧
 ∀ (h_5 : PHeap), h_5 = h_4.put b1 (.cells ⟨splice l2 0 [vU 45]⟩ t1 z1) →
 ∃ (a2 : OA) (n2 k2 : Nat), PureRun Tryz.prog (execOp (rho [(5, vP b1 0), (37, vI (IntKind.i64.wrap (1 + i3)))]) (mkO o159_9 45)) (vL a2 n2 k2) ∧
 ∃ (l3 : Bs), BytesAt h_5 a2 n2 l3 ∧
 Q (vS l3) h_5)
 (∃ (a3 : OA) (n3 k3 : Nat), PureRun Tryz.prog (execOp (rho [(5, vP b1 0), (41, vI (IntKind.i64.wrap (1 + i3)))]) (mkO o159_11 45)) (vL a3 n3 k3) ∧
 ∃ (l4 : Bs), BytesAt h_4 a3 n3 l4 ∧
 Q (vS l4) h_4))
 (Tri Tryz.prog 181 [.int .u64 (IntKind.u64.wrap (i1))] h_2 fun v_4 h_6 =>
 ∃ (i4 : Int), v_4 = vI i4 ∧
 ∃ (a4 : OA) (n4 k4 : Nat), PureRun Tryz.prog (execOp (rho [(5, vP b1 0), (29, vI (IntKind.i64.wrap (1 + i4)))]) (mkO o159_6 45)) (vL a4 n4 k4) ∧
 Tri Tryz.prog 182 [vL a4 n4 k4, .int .u64 (IntKind.u64.wrap (i1))] h_6 fun v_5 h_7 =>
 v_5 = vT [] ∧
 br (decide (i1 < 0))
 ((0 ≤ (0 : Int) ∧ (0 : Int) < 24) ∧
 ∃ (l5 : List Value) (t2 : TypeId) (z2 : Nat × Nat), h_7 b1 = some (.cells ⟨l5⟩ t2 z2) ∧ (0 + 1 ≤ l5.length ∧ z2.2 ≤ 0) ∧
 ∀ (h_8 : PHeap), h_8 = h_7.put b1 (.cells ⟨splice l5 0 [vU 45]⟩ t2 z2) →
 ∃ (a5 : OA) (n5 k5 : Nat), PureRun Tryz.prog (execOp (rho [(5, vP b1 0), (37, vI (IntKind.i64.wrap (1 + i4)))]) (mkO o159_9 45)) (vL a5 n5 k5) ∧
 ∃ (l6 : Bs), BytesAt h_8 a5 n5 l6 ∧
 Q (vS l6) h_8)
 (∃ (a6 : OA) (n6 k6 : Nat), PureRun Tryz.prog (execOp (rho [(5, vP b1 0), (41, vI (IntKind.i64.wrap (1 + i4)))]) (mkO o159_11 45)) (vL a6 n6 k6) ∧
 ∃ (l7 : Bs), BytesAt h_7 a6 n6 l7 ∧
 Q (vS l7) h_7))))
 (∀ (b2 : Nat), h b2 = none → ∀ (h_9 : PHeap), h_9 = h.put b2 (.cells ⟨[vU 0, vU 0, vU 0, vU 0, vU 0, vU 0, vU 0, vU 0, vU 0, vU 0, vU 0, vU 0, vU 0, vU 0, vU 0, vU 0, vU 0, vU 0, vU 0, vU 0, vU 0, vU 0, vU 0, vU 0]⟩ 245) →
 br (decide (i1 < 0))
 (Tri Tryz.prog 181 [.int .u64 (IntKind.u64.wrap (0 - (IntKind.u64.wrap (i1))))] h_9 fun v_6 h_10 =>
 ∃ (i5 : Int), v_6 = vI i5 ∧
 ∃ (a7 : OA) (n7 k7 : Nat), PureRun Tryz.prog (execOp (rho [(5, vP b2 0), (29, vI (IntKind.i64.wrap (1 + i5)))]) (mkO o159_6 45)) (vL a7 n7 k7) ∧
 Tri Tryz.prog 182 [vL a7 n7 k7, .int .u64 (IntKind.u64.wrap (0 - (IntKind.u64.wrap (i1))))] h_10 fun v_7 h_11 =>
 v_7 = vT [] ∧
 br (decide (i1 < 0))
 ((0 ≤ (0 : Int) ∧ (0 : Int) < 24) ∧
 ∃ (l8 : List Value) (t3 : TypeId) (z3 : Nat × Nat), h_11 b2 = some (.cells ⟨l8⟩ t3 z3) ∧ (0 + 1 ≤ l8.length ∧ z3.2 ≤ 0) ∧
 ∀ (h_12 : PHeap), h_12 = h_11.put b2 (.cells ⟨splice l8 0 [vU 45]⟩ t3 z3) →
 ∃ (a8 : OA) (n8 k8 : Nat), PureRun Tryz.prog (execOp (rho [(5, vP b2 0), (37, vI (IntKind.i64.wrap (1 + i5)))]) (mkO o159_9 45)) (vL a8 n8 k8) ∧
 ∃ (l9 : Bs), BytesAt h_12 a8 n8 l9 ∧
 Q (vS l9) h_12)
 (∃ (a9 : OA) (n9 k9 : Nat), PureRun Tryz.prog (execOp (rho [(5, vP b2 0), (41, vI (IntKind.i64.wrap (1 + i5)))]) (mkO o159_11 45)) (vL a9 n9 k9) ∧
 ∃ (l10 : Bs), BytesAt h_11 a9 n9 l10 ∧
 Q (vS l10) h_11))
 (Tri Tryz.prog 181 [.int .u64 (IntKind.u64.wrap (i1))] h_9 fun v_8 h_13 =>
 ∃ (i6 : Int), v_8 = vI i6 ∧
 ∃ (a10 : OA) (n10 k10 : Nat), PureRun Tryz.prog (execOp (rho [(5, vP b2 0), (29, vI (IntKind.i64.wrap (1 + i6)))]) (mkO o159_6 45)) (vL a10 n10 k10) ∧
 Tri Tryz.prog 182 [vL a10 n10 k10, .int .u64 (IntKind.u64.wrap (i1))] h_13 fun v_9 h_14 =>
 v_9 = vT [] ∧
 br (decide (i1 < 0))
 ((0 ≤ (0 : Int) ∧ (0 : Int) < 24) ∧
 ∃ (l11 : List Value) (t4 : TypeId) (z4 : Nat × Nat), h_14 b2 = some (.cells ⟨l11⟩ t4 z4) ∧ (0 + 1 ≤ l11.length ∧ z4.2 ≤ 0) ∧
 ∀ (h_15 : PHeap), h_15 = h_14.put b2 (.cells ⟨splice l11 0 [vU 45]⟩ t4 z4) →
 ∃ (a11 : OA) (n11 k11 : Nat), PureRun Tryz.prog (execOp (rho [(5, vP b2 0), (37, vI (IntKind.i64.wrap (1 + i6)))]) (mkO o159_9 45)) (vL a11 n11 k11) ∧
 ∃ (l12 : Bs), BytesAt h_15 a11 n11 l12 ∧
 Q (vS l12) h_15)
 (∃ (a12 : OA) (n12 k12 : Nat), PureRun Tryz.prog (execOp (rho [(5, vP b2 0), (41, vI (IntKind.i64.wrap (1 + i6)))]) (mkO o159_11 45)) (vL a12 n12 k12) ∧
 ∃ (l13 : Bs), BytesAt h_14 a12 n12 l13 ∧
 Q (vS l13) h_14))))
 (Tri Tryz.prog 183 [vL none 0 0, .int .u64 (IntKind.u64.wrap (i1)), vI i2, vB (decide (i1 < 0)), vB false] h fun v_10 h_16 =>
 ∃ (a13 : OA) (n13 k13 : Nat) (l14 : Bs), v_10 = vT [vL a13 n13 k13, vS l14] ∧
 Q (vS l14) h_16)
theorem T159 {i1 : Int} {i2 : Int} {h : PHeap} {Q : Value → PHeap → Prop} (hR : R159 i1 i2 h Q) : Tri Tryz.prog 159 [vI i1, vI i2] h Q :=
 tri_of_dn mixed Tryz.func159 rfl (by kernel_rfl) low159 (rs := [.tmp 4]) (by kernel_rfl) rfl (Eq.mpr (by kernel_rfl : dnF Tryz.prog Tryz.f159.ntmps d159 [.tmp 4] [vI i1, vI i2] h Q = R159 i1 i2 h Q) hR)
noncomputable def d180 : DCode := up ⟨[], [], []⟩ (low Tryz.prog (fun _ => false) (Tryz.f180.body.getD .skip))
theorem low180 : low Tryz.prog (fun _ => false) (Tryz.f180.body.getD .skip) = some (eC d180) := by kernel_rfl
def R180 (i1 : Int) (h : PHeap) (Q : Value → PHeap → Prop) : Prop :=
 br (decide (i1 < 10))
 ((0 ≤ i1 ∧ i1 ≤ (IntKind.i64.wrap (i1 + 1)) ∧ (IntKind.i64.wrap (i1 + 1)) ≤ (36 : Int)) ∧
 Q (vS ((([48, 49, 50, 51, 52, 53, 54, 55, 56, 57, 97, 98, 99, 100, 101, 102, 103, 104, 105, 106, 107, 108, 109, 110, 111, 112, 113, 114, 115, 116, 117, 118, 119, 120, 121, 122] : Bs).drop (i1).toNat).take ((IntKind.i64.wrap (i1 + 1)).toNat - (i1).toNat))) h)
 ((0 ≤ (IntKind.i64.wrap (i1 * 2)) ∧ (IntKind.i64.wrap (i1 * 2)) ≤ (IntKind.i64.wrap ((IntKind.i64.wrap (i1 * 2)) + 2)) ∧ (IntKind.i64.wrap ((IntKind.i64.wrap (i1 * 2)) + 2)) ≤ (200 : Int)) ∧
 Q (vS ((([48, 48, 48, 49, 48, 50, 48, 51, 48, 52, 48, 53, 48, 54, 48, 55, 48, 56, 48, 57, 49, 48, 49, 49, 49, 50, 49, 51, 49, 52, 49, 53, 49, 54, 49, 55, 49, 56, 49, 57, 50, 48, 50, 49, 50, 50, 50, 51, 50, 52, 50, 53, 50, 54, 50, 55, 50, 56, 50, 57, 51, 48, 51, 49, 51, 50, 51, 51, 51, 52, 51, 53, 51, 54, 51, 55, 51, 56, 51, 57, 52, 48, 52, 49, 52, 50, 52, 51, 52, 52, 52, 53, 52, 54, 52, 55, 52, 56, 52, 57, 53, 48, 53, 49, 53, 50, 53, 51, 53, 52, 53, 53, 53, 54, 53, 55, 53, 56, 53, 57, 54, 48, 54, 49, 54, 50, 54, 51, 54, 52, 54, 53, 54, 54, 54, 55, 54, 56, 54, 57, 55, 48, 55, 49, 55, 50, 55, 51, 55, 52, 55, 53, 55, 54, 55, 55, 55, 56, 55, 57, 56, 48, 56, 49, 56, 50, 56, 51, 56, 52, 56, 53, 56, 54, 56, 55, 56, 56, 56, 57, 57, 48, 57, 49, 57, 50, 57, 51, 57, 52, 57, 53, 57, 54, 57, 55, 57, 56, 57, 57] : Bs).drop (IntKind.i64.wrap (i1 * 2)).toNat).take ((IntKind.i64.wrap ((IntKind.i64.wrap (i1 * 2)) + 2)).toNat - (IntKind.i64.wrap (i1 * 2)).toNat))) h)
theorem T180 {i1 : Int} {h : PHeap} {Q : Value → PHeap → Prop} (hR : R180 i1 h Q) : Tri Tryz.prog 180 [vI i1] h Q :=
 tri_of_dn mixed Tryz.func180 rfl (by kernel_rfl) low180 (rs := [.tmp 2]) (by kernel_rfl) rfl (Eq.mpr (by kernel_rfl : dnF Tryz.prog Tryz.f180.ntmps d180 [.tmp 2] [vI i1] h Q = R180 i1 h Q) hR)
end Go.Proofs.D
