import Derived.Test.YteegmpghbhmekaaGreatDoorB5
import Derived.Laws.IdiomStrings
namespace Go.Proofs.D
open Go Go.Den
set_option maxRecDepth 100000
set_option maxHeartbeats 4000000
noncomputable def d162 : DCode := up ⟨[(8, .c (.tup [(false, [.str]), (false, [.bool])]))], [], []⟩ (low Tryz.prog (fun _ => false) (Tryz.f162.body.getD .skip))
theorem low162 : low Tryz.prog (fun _ => false) (Tryz.f162.body.getD .skip) = some (eC d162) := by kernel_rfl
def R162 (l1 : Bs) (l2 : Bs) (h : PHeap) (Q : Value → PHeap → Prop) : Prop :=
 Tri Tryz.prog 178 [vS l1, vS l2] h fun v_1 h_1 =>
 ∃ (l3 : Bs) (c1 : Bool), v_1 = vT [vS l3, vB c1] ∧
 Q (vT [vS l3, vB c1]) h_1
theorem T162 {l1 : Bs} {l2 : Bs} {h : PHeap} {Q : Value → PHeap → Prop} (hR : R162 l1 l2 h Q) : Tri Tryz.prog 162 [vS l1, vS l2] h Q :=
 tri_of_dn mixed Tryz.func162 rfl (by kernel_rfl) low162 (rs := [.tmp 4, .tmp 5]) (by kernel_rfl) rfl (Eq.mpr (by kernel_rfl : dnF Tryz.prog Tryz.f162.ntmps d162 [.tmp 4, .tmp 5] [vS l1, vS l2] h Q = R162 l1 l2 h Q) hR)
noncomputable def d178 : DCode := up ⟨[(8, .c (.one false [.bool]))], [], []⟩ (low Tryz.prog (fun _ => false) (Tryz.f178.body.getD .skip))
theorem low178 : low Tryz.prog (fun _ => false) (Tryz.f178.body.getD .skip) = some (eC d178) := by kernel_rfl
def R178 (l1 : Bs) (l2 : Bs) (h : PHeap) (Q : Value → PHeap → Prop) : Prop :=
 Tri Tryz.prog 186 [vS l1, vS l2] h fun v_1 h_1 =>
 ∃ (c1 : Bool), v_1 = vB c1 ∧
 br (!c1)
 (Q (vT [vS l1, vB false]) h_1)
 ((0 ≤ (l2.length : Int) ∧ (l2.length : Int) ≤ (l1.length : Int) ∧ (l1.length : Int) ≤ (l1.length : Int)) ∧
 Q (vT [vS ((l1.drop (l2.length : Int).toNat).take ((l1.length : Int).toNat - (l2.length : Int).toNat)), vB true]) h_1)
theorem T178 {l1 : Bs} {l2 : Bs} {h : PHeap} {Q : Value → PHeap → Prop} (hR : R178 l1 l2 h Q) : Tri Tryz.prog 178 [vS l1, vS l2] h Q :=
 tri_of_dn mixed Tryz.func178 rfl (by kernel_rfl) low178 (rs := [.tmp 4, .tmp 5]) (by kernel_rfl) rfl (Eq.mpr (by kernel_rfl : dnF Tryz.prog Tryz.f178.ntmps d178 [.tmp 4, .tmp 5] [vS l1, vS l2] h Q = R178 l1 l2 h Q) hR)
noncomputable def d165 : DCode := up ⟨[(7, .c (.one false [.str]))], [], []⟩ (low Tryz.prog (fun _ => false) (Tryz.f165.body.getD .skip))
theorem low165 : low Tryz.prog (fun _ => false) (Tryz.f165.body.getD .skip) = some (eC d165) := by kernel_rfl
def R165 (l1 : Bs) (l2 : Bs) (h : PHeap) (Q : Value → PHeap → Prop) : Prop :=
 Tri Tryz.prog 181 [vS l1, vS l2] h fun v_1 h_1 =>
 ∃ (l3 : Bs), v_1 = vS l3 ∧
 Q (vS l3) h_1
theorem T165 {l1 : Bs} {l2 : Bs} {h : PHeap} {Q : Value → PHeap → Prop} (hR : R165 l1 l2 h Q) : Tri Tryz.prog 165 [vS l1, vS l2] h Q :=
 tri_of_dn mixed Tryz.func165 rfl (by kernel_rfl) low165 (rs := [.tmp 4]) (by kernel_rfl) rfl (Eq.mpr (by kernel_rfl : dnF Tryz.prog Tryz.f165.ntmps d165 [.tmp 4] [vS l1, vS l2] h Q = R165 l1 l2 h Q) hR)
noncomputable def d181 : DCode := up ⟨[(7, .c (.one false [.bool]))], [], []⟩ (low Tryz.prog (fun _ => false) (Tryz.f181.body.getD .skip))
theorem low181 : low Tryz.prog (fun _ => false) (Tryz.f181.body.getD .skip) = some (eC d181) := by kernel_rfl
def R181 (l1 : Bs) (l2 : Bs) (h : PHeap) (Q : Value → PHeap → Prop) : Prop :=
 Tri Tryz.prog 186 [vS l1, vS l2] h fun v_1 h_1 =>
 ∃ (c1 : Bool), v_1 = vB c1 ∧
 br c1
 ((0 ≤ (l2.length : Int) ∧ (l2.length : Int) ≤ (l1.length : Int) ∧ (l1.length : Int) ≤ (l1.length : Int)) ∧
 Q (vS ((l1.drop (l2.length : Int).toNat).take ((l1.length : Int).toNat - (l2.length : Int).toNat))) h_1)
 (Q (vS l1) h_1)
theorem T181 {l1 : Bs} {l2 : Bs} {h : PHeap} {Q : Value → PHeap → Prop} (hR : R181 l1 l2 h Q) : Tri Tryz.prog 181 [vS l1, vS l2] h Q :=
 tri_of_dn mixed Tryz.func181 rfl (by kernel_rfl) low181 (rs := [.tmp 4]) (by kernel_rfl) rfl (Eq.mpr (by kernel_rfl : dnF Tryz.prog Tryz.f181.ntmps d181 [.tmp 4] [vS l1, vS l2] h Q = R181 l1 l2 h Q) hR)
noncomputable def d186 : DCode := up ⟨[], [], []⟩ (low Tryz.prog (fun _ => false) (Tryz.f186.body.getD .skip))
theorem low186 : low Tryz.prog (fun _ => false) (Tryz.f186.body.getD .skip) = some (eC d186) := by kernel_rfl
def R186 (l1 : Bs) (l2 : Bs) (h : PHeap) (Q : Value → PHeap → Prop) : Prop :=
 br (decide ((l1.length : Int) ≥ (l2.length : Int)))
 ((0 ≤ (0 : Int) ∧ (0 : Int) ≤ (l2.length : Int) ∧ (l2.length : Int) ≤ (l1.length : Int)) ∧
 Q (vB (((l1.drop 0).take ((l2.length : Int).toNat - 0)) == l2)) h)
 (Q (vB false) h)
theorem T186 {l1 : Bs} {l2 : Bs} {h : PHeap} {Q : Value → PHeap → Prop} (hR : R186 l1 l2 h Q) : Tri Tryz.prog 186 [vS l1, vS l2] h Q :=
 tri_of_dn mixed Tryz.func186 rfl (by kernel_rfl) low186 (rs := [.tmp 4]) (by kernel_rfl) rfl (Eq.mpr (by kernel_rfl : dnF Tryz.prog Tryz.f186.ntmps d186 [.tmp 4] [vS l1, vS l2] h Q = R186 l1 l2 h Q) hR)
abbrev o141_7 : Op := .binOp .eql 152 (.tmp 36) (.const (.nilIface)) 152
abbrev o141_13 : Op := .binOp .eql 152 (.tmp 59) (.const (.nilIface)) 152
noncomputable def d141 : DCode := up ⟨[(13, .c (.tup [(false, [.str]), (false, [.bool])])), (27, .c (.one false [.bool])), (32, .c (.tup [(false, [qi]), (false, [.any])])), (37, .c (.one false [.bool])), (39, .c (.one false [.str])), (50, .c (.one false [.bool])), (55, .c (.tup [(false, [qi]), (false, [.any])])), (60, .c (.one false [.bool]))], [], []⟩ (low Tryz.prog (fun _ => false) (Tryz.f141.body.getD .skip))
theorem low141 : low Tryz.prog (fun _ => false) (Tryz.f141.body.getD .skip) = some (eC d141) := by kernel_rfl
def R141 (l1 : Bs) (h : PHeap) (Q : Value → PHeap → Prop) : Prop :=
 Tri Tryz.prog 162 [vS l1, vS [48, 120]] h fun v_1 h_1 =>
 ∃ (l2 : Bs) (c1 : Bool), v_1 = vT [vS l2, vB c1] ∧
 br c1
 (br (decide ((l2.length : Int) < 1))
 (Q (vT [vI 0, vB false]) h_1)
 (br (decide ((l2.length : Int) > 8))
 (Q (vT [vI 0, vB false]) h_1)
 (Tri Tryz.prog 51 [vS l2, vF 163 [] []] h_1 fun v_2 h_2 =>
 ∃ (c2 : Bool), v_2 = vB c2 ∧
 br (!c2)
 (Q (vT [vI 0, vB false]) h_2)
 (Tri Tryz.prog 164 [vS l2, vI 16, vI 64] h_2 fun v_3 h_3 =>
 ∃ (i1 : Int) (u1 : Value), v_3 = vT [vI i1, u1] ∧
 ∃ (c3 : Bool), PureRun Tryz.prog (execOp (rho [(36, u1)]) (mkO o141_7 4)) (vB c3) ∧
 Q (vT [vI i1, vB c3]) h_3))))
 (Tri Tryz.prog 165 [vS l1, vS [45]] h_1 fun v_4 h_4 =>
 ∃ (l3 : Bs), v_4 = vS l3 ∧
 br (decide ((l3.length : Int) < 1))
 (Q (vT [vI 0, vB false]) h_4)
 (br (decide ((l3.length : Int) > 10))
 (Q (vT [vI 0, vB false]) h_4)
 (Tri Tryz.prog 51 [vS l3, vF 53 [] []] h_4 fun v_5 h_5 =>
 ∃ (c4 : Bool), v_5 = vB c4 ∧
 br (!c4)
 (Q (vT [vI 0, vB false]) h_5)
 (Tri Tryz.prog 164 [vS l1, vI 10, vI 64] h_5 fun v_6 h_6 =>
 ∃ (i2 : Int) (u2 : Value), v_6 = vT [vI i2, u2] ∧
 ∃ (c5 : Bool), PureRun Tryz.prog (execOp (rho [(59, u2)]) (mkO o141_13 4)) (vB c5) ∧
 Q (vT [vI i2, vB c5]) h_6))))
theorem T141 {l1 : Bs} {h : PHeap} {Q : Value → PHeap → Prop} (hR : R141 l1 h Q) : Tri Tryz.prog 141 [vS l1] h Q :=
 tri_of_dn mixed Tryz.func141 rfl (by kernel_rfl) low141 (rs := [.tmp 2, .tmp 3]) (by kernel_rfl) rfl (Eq.mpr (by kernel_rfl : dnF Tryz.prog Tryz.f141.ntmps d141 [.tmp 2, .tmp 3] [vS l1] h Q = R141 l1 h Q) hR)
noncomputable def d111 : DCode := up ⟨[(12, .c (.tup [(false, [qi]), (false, [.bool])]))], [], []⟩ (low Tryz.prog (fun _ => false) (Tryz.f111.body.getD .skip))
theorem low111 : low Tryz.prog (fun _ => false) (Tryz.f111.body.getD .skip) = some (eC d111) := by kernel_rfl
def R111 (l1 : Bs) (i1 : Int) (i2 : Int) (h : PHeap) (Q : Value → PHeap → Prop) : Prop :=
 Tri Tryz.prog 141 [vS l1] h fun v_1 h_1 =>
 ∃ (i3 : Int) (c1 : Bool), v_1 = vT [vI i3, vB c1] ∧
 br (!c1)
 (Q (vT [vI 0, vI 3]) h_1)
 (br (decide (i3 < i1))
 (Q (vT [vI 0, vI 2]) h_1)
 (br (decide (i3 > i2))
 (Q (vT [vI 0, vI 2]) h_1)
 (Q (vT [vI i3, vI 0]) h_1)))
theorem T111 {l1 : Bs} {i1 : Int} {i2 : Int} {h : PHeap} {Q : Value → PHeap → Prop} (hR : R111 l1 i1 i2 h Q) : Tri Tryz.prog 111 [vS l1, vI i1, vI i2] h Q :=
 tri_of_dn mixed Tryz.func111 rfl (by kernel_rfl) low111 (rs := [.tmp 6, .tmp 7]) (by kernel_rfl) rfl (Eq.mpr (by kernel_rfl : dnF Tryz.prog Tryz.f111.ntmps d111 [.tmp 6, .tmp 7] [vS l1, vI i1, vI i2] h Q = R111 l1 i1 i2 h Q) hR)
abbrev o164_2 : Op := .binOp .neq 152 (.tmp 16) (.const (.nilIface)) 152
noncomputable def d164 : DCode := up ⟨[(13, .c (.tup [(false, [qi]), (false, [.any])])), (17, .c (.one false [.bool])), (23, .c (.one false [.any]))], [], []⟩ (low Tryz.prog (fun _ => false) (Tryz.f164.body.getD .skip))
theorem low164 : low Tryz.prog (fun _ => false) (Tryz.f164.body.getD .skip) = some (eC d164) := by kernel_rfl
def R164pAQ (l1 : Bs) (h : PHeap) (Q : Value → PHeap → Prop) : Prop :=
 Tri Tryz.prog 179 [vS l1, vI 16, vI 64] h fun v_1 h_1 =>
 ∃ (i1 : Int) (u1 : Value), v_1 = vT [vI i1, u1] ∧
 ∃ (c1 : Bool), PureRun Tryz.prog (execOp (rho [(16, u1)]) (mkO o164_2 4)) (vB c1) ∧
 br c1
 (Tri Tryz.prog 180 [vS [80, 97, 114, 115, 101, 73, 110, 116], vS l1, vI 16, vI 64, u1] h_1 fun v_2 h_2 =>
 ∃ (u2 : Value), v_2 = u2 ∧
 Q (vT [vI i1, u2]) h_2)
 (Q (vT [vI i1, .nilIface]) h_1)
theorem T164pAQ {l1 : Bs} {h : PHeap} {Q : Value → PHeap → Prop} (hR : R164pAQ l1 h Q) : Tri Tryz.prog 164 [vS l1, vI 16, vI 64] h Q :=
 tri_of_dn mixed Tryz.func164 rfl (by kernel_rfl) low164 (rs := [.tmp 6, .tmp 7]) (by kernel_rfl) rfl (Eq.mpr (by kernel_rfl : dnF Tryz.prog Tryz.f164.ntmps d164 [.tmp 6, .tmp 7] [vS l1, vI 16, vI 64] h Q = R164pAQ l1 h Q) hR)
def R164pDQ (l1 : Bs) (h : PHeap) (Q : Value → PHeap → Prop) : Prop :=
 Tri Tryz.prog 179 [vS l1, vI 10, vI 64] h fun v_1 h_1 =>
 ∃ (i1 : Int) (u1 : Value), v_1 = vT [vI i1, u1] ∧
 ∃ (c1 : Bool), PureRun Tryz.prog (execOp (rho [(16, u1)]) (mkO o164_2 4)) (vB c1) ∧
 br c1
 (Tri Tryz.prog 180 [vS [80, 97, 114, 115, 101, 73, 110, 116], vS l1, vI 10, vI 64, u1] h_1 fun v_2 h_2 =>
 ∃ (u2 : Value), v_2 = u2 ∧
 Q (vT [vI i1, u2]) h_2)
 (Q (vT [vI i1, .nilIface]) h_1)
theorem T164pDQ {l1 : Bs} {h : PHeap} {Q : Value → PHeap → Prop} (hR : R164pDQ l1 h Q) : Tri Tryz.prog 164 [vS l1, vI 10, vI 64] h Q :=
 tri_of_dn mixed Tryz.func164 rfl (by kernel_rfl) low164 (rs := [.tmp 6, .tmp 7]) (by kernel_rfl) rfl (Eq.mpr (by kernel_rfl : dnF Tryz.prog Tryz.f164.ntmps d164 [.tmp 6, .tmp 7] [vS l1, vI 10, vI 64] h Q = R164pDQ l1 h Q) hR)
abbrev o179_0 : Op := .makeInterface 227 (.const (vI 2))
abbrev o179_5 : Op := .binOp .neq 152 (.tmp 32) (.const (.nilIface)) 152
abbrev o179_6 : Op := .makeInterface 227 (.const (vI 1))
abbrev o179_7 : Op := .binOp .neq 152 (.tmp 35) (.tmp 36) 152
abbrev o179_10 : Op := .binOp .shl 178 (.const (.int .u64 1)) (.tmp 44) 98
abbrev o179_14 : Op := .makeInterface 227 (.const (vI 1))
abbrev o179_17 : Op := .makeInterface 227 (.const (vI 1))
noncomputable def d179 : DCode := up ⟨[(14, .c (.one false [.any])), (29, .c (.tup [(false, [.int .u64]), (false, [.any])])), (33, .c (.one false [.bool])), (36, .c (.one false [.any])), (37, .c (.one false [.bool])), (45, .c (.one false [.int .u64])), (56, .c (.one false [.any])), (66, .c (.one false [.any]))], [], []⟩ (low Tryz.prog (fun _ => false) (Tryz.f179.body.getD .skip))
theorem low179 : low Tryz.prog (fun _ => false) (Tryz.f179.body.getD .skip) = some (eC d179) := by kernel_rfl
def R179pAQ (l1 : Bs) (h : PHeap) (Q : Value → PHeap → Prop) : Prop :=
 br (l1 == [])
 (∃ (u1 : Value), PureRun Tryz.prog (execOp (rho []) (mkO o179_0 152)) u1 ∧
 Q (vT [vI 0, u1]) h)
 (0 ≤ (0 : Int) ∧ ∃ (c1 : UInt8), (l1)[0]? = some c1 ∧
 br ((c1.toNat : Int) == 43)
 ((0 ≤ (1 : Int) ∧ (1 : Int) ≤ (l1.length : Int) ∧ (l1.length : Int) ≤ (l1.length : Int)) ∧
 Tri Tryz.prog 187 [vS ((l1.drop 1).take ((l1.length : Int).toNat - 1)), vI 16, vI 64] h fun v_1 h_1 =>
 ∃ (i1 : Int) (u2 : Value), v_1 = vT [.int .u64 i1, u2] ∧
 ∃ (c2 : Bool), PureRun Tryz.prog (execOp (rho [(32, u2)]) (mkO o179_5 4)) (vB c2) ∧
 br c2
 (∃ (u3 : Value), PureRun Tryz.prog (execOp (rho []) (mkO o179_6 152)) u3 ∧
 ∃ (c3 : Bool), PureRun Tryz.prog (execOp (rho [(35, u2), (36, u3)]) (mkO o179_7 4)) (vB c3) ∧
 br c3
 (Q (vT [vI 0, u2]) h_1)
 (∃ (i2 : Int), PureRun Tryz.prog (execOp (rho [(44, .int .u64 63)]) (mkO o179_10 178)) (.int .u64 i2) ∧
 br (decide (i1 ≥ i2))
 (∃ (u4 : Value), PureRun Tryz.prog (execOp (rho []) (mkO o179_14 152)) u4 ∧
 Q (vT [vI (IntKind.i64.wrap ((IntKind.u64.wrap (i2 - 1)))), u4]) h_1)
 (Q (vT [vI (IntKind.i64.wrap (i1)), .nilIface]) h_1)))
 (∃ (i3 : Int), PureRun Tryz.prog (execOp (rho [(44, .int .u64 63)]) (mkO o179_10 178)) (.int .u64 i3) ∧
 br (decide (i1 ≥ i3))
 (∃ (u5 : Value), PureRun Tryz.prog (execOp (rho []) (mkO o179_14 152)) u5 ∧
 Q (vT [vI (IntKind.i64.wrap ((IntKind.u64.wrap (i3 - 1)))), u5]) h_1)
 (Q (vT [vI (IntKind.i64.wrap (i1)), .nilIface]) h_1)))
 (br ((c1.toNat : Int) == 45)
 ((0 ≤ (1 : Int) ∧ (1 : Int) ≤ (l1.length : Int) ∧ (l1.length : Int) ≤ (l1.length : Int)) ∧
 Tri Tryz.prog 187 [vS ((l1.drop 1).take ((l1.length : Int).toNat - 1)), vI 16, vI 64] h fun v_2 h_2 =>
 ∃ (i4 : Int) (u6 : Value), v_2 = vT [.int .u64 i4, u6] ∧
 ∃ (c4 : Bool), PureRun Tryz.prog (execOp (rho [(32, u6)]) (mkO o179_5 4)) (vB c4) ∧
 br c4
 (∃ (u7 : Value), PureRun Tryz.prog (execOp (rho []) (mkO o179_6 152)) u7 ∧
 ∃ (c5 : Bool), PureRun Tryz.prog (execOp (rho [(35, u6), (36, u7)]) (mkO o179_7 4)) (vB c5) ∧
 br c5
 (Q (vT [vI 0, u6]) h_2)
 (∃ (i5 : Int), PureRun Tryz.prog (execOp (rho [(44, .int .u64 63)]) (mkO o179_10 178)) (.int .u64 i5) ∧
 br (decide (i4 > i5))
 (∃ (u8 : Value), PureRun Tryz.prog (execOp (rho []) (mkO o179_17 152)) u8 ∧
 Q (vT [vI (IntKind.i64.wrap (0 - (IntKind.i64.wrap (i5)))), u8]) h_2)
 (Q (vT [vI (IntKind.i64.wrap (0 - (IntKind.i64.wrap (i4)))), .nilIface]) h_2)))
 (∃ (i6 : Int), PureRun Tryz.prog (execOp (rho [(44, .int .u64 63)]) (mkO o179_10 178)) (.int .u64 i6) ∧
 br (decide (i4 > i6))
 (∃ (u9 : Value), PureRun Tryz.prog (execOp (rho []) (mkO o179_17 152)) u9 ∧
 Q (vT [vI (IntKind.i64.wrap (0 - (IntKind.i64.wrap (i6)))), u9]) h_2)
 (Q (vT [vI (IntKind.i64.wrap (0 - (IntKind.i64.wrap (i4)))), .nilIface]) h_2)))
 (Tri Tryz.prog 187 [vS l1, vI 16, vI 64] h fun v_3 h_3 =>
 ∃ (i7 : Int) (u10 : Value), v_3 = vT [.int .u64 i7, u10] ∧
 ∃ (c6 : Bool), PureRun Tryz.prog (execOp (rho [(32, u10)]) (mkO o179_5 4)) (vB c6) ∧
 br c6
 (∃ (u11 : Value), PureRun Tryz.prog (execOp (rho []) (mkO o179_6 152)) u11 ∧
 ∃ (c7 : Bool), PureRun Tryz.prog (execOp (rho [(35, u10), (36, u11)]) (mkO o179_7 4)) (vB c7) ∧
 br c7
 (Q (vT [vI 0, u10]) h_3)
 (∃ (i8 : Int), PureRun Tryz.prog (execOp (rho [(44, .int .u64 63)]) (mkO o179_10 178)) (.int .u64 i8) ∧
 br (decide (i7 ≥ i8))
 (∃ (u12 : Value), PureRun Tryz.prog (execOp (rho []) (mkO o179_14 152)) u12 ∧
 Q (vT [vI (IntKind.i64.wrap ((IntKind.u64.wrap (i8 - 1)))), u12]) h_3)
 (Q (vT [vI (IntKind.i64.wrap (i7)), .nilIface]) h_3)))
 (∃ (i9 : Int), PureRun Tryz.prog (execOp (rho [(44, .int .u64 63)]) (mkO o179_10 178)) (.int .u64 i9) ∧
 br (decide (i7 ≥ i9))
 (∃ (u13 : Value), PureRun Tryz.prog (execOp (rho []) (mkO o179_14 152)) u13 ∧
 Q (vT [vI (IntKind.i64.wrap ((IntKind.u64.wrap (i9 - 1)))), u13]) h_3)
 (Q (vT [vI (IntKind.i64.wrap (i7)), .nilIface]) h_3)))))
theorem T179pAQ {l1 : Bs} {h : PHeap} {Q : Value → PHeap → Prop} (hR : R179pAQ l1 h Q) : Tri Tryz.prog 179 [vS l1, vI 16, vI 64] h Q :=
 tri_of_dn mixed Tryz.func179 rfl (by kernel_rfl) low179 (rs := [.tmp 6, .tmp 7]) (by kernel_rfl) rfl (Eq.mpr (by kernel_rfl : dnF Tryz.prog Tryz.f179.ntmps d179 [.tmp 6, .tmp 7] [vS l1, vI 16, vI 64] h Q = R179pAQ l1 h Q) hR)
def R179pDQ (l1 : Bs) (h : PHeap) (Q : Value → PHeap → Prop) : Prop :=
 br (l1 == [])
 (∃ (u1 : Value), PureRun Tryz.prog (execOp (rho []) (mkO o179_0 152)) u1 ∧
 Q (vT [vI 0, u1]) h)
 (0 ≤ (0 : Int) ∧ ∃ (c1 : UInt8), (l1)[0]? = some c1 ∧
 br ((c1.toNat : Int) == 43)
 ((0 ≤ (1 : Int) ∧ (1 : Int) ≤ (l1.length : Int) ∧ (l1.length : Int) ≤ (l1.length : Int)) ∧
 Tri Tryz.prog 187 [vS ((l1.drop 1).take ((l1.length : Int).toNat - 1)), vI 10, vI 64] h fun v_1 h_1 =>
 ∃ (i1 : Int) (u2 : Value), v_1 = vT [.int .u64 i1, u2] ∧
 ∃ (c2 : Bool), PureRun Tryz.prog (execOp (rho [(32, u2)]) (mkO o179_5 4)) (vB c2) ∧
 br c2
 (∃ (u3 : Value), PureRun Tryz.prog (execOp (rho []) (mkO o179_6 152)) u3 ∧
 ∃ (c3 : Bool), PureRun Tryz.prog (execOp (rho [(35, u2), (36, u3)]) (mkO o179_7 4)) (vB c3) ∧
 br c3
 (Q (vT [vI 0, u2]) h_1)
 (∃ (i2 : Int), PureRun Tryz.prog (execOp (rho [(44, .int .u64 63)]) (mkO o179_10 178)) (.int .u64 i2) ∧
 br (decide (i1 ≥ i2))
 (∃ (u4 : Value), PureRun Tryz.prog (execOp (rho []) (mkO o179_14 152)) u4 ∧
 Q (vT [vI (IntKind.i64.wrap ((IntKind.u64.wrap (i2 - 1)))), u4]) h_1)
 (Q (vT [vI (IntKind.i64.wrap (i1)), .nilIface]) h_1)))
 (∃ (i3 : Int), PureRun Tryz.prog (execOp (rho [(44, .int .u64 63)]) (mkO o179_10 178)) (.int .u64 i3) ∧
 br (decide (i1 ≥ i3))
 (∃ (u5 : Value), PureRun Tryz.prog (execOp (rho []) (mkO o179_14 152)) u5 ∧
 Q (vT [vI (IntKind.i64.wrap ((IntKind.u64.wrap (i3 - 1)))), u5]) h_1)
 (Q (vT [vI (IntKind.i64.wrap (i1)), .nilIface]) h_1)))
 (br ((c1.toNat : Int) == 45)
 ((0 ≤ (1 : Int) ∧ (1 : Int) ≤ (l1.length : Int) ∧ (l1.length : Int) ≤ (l1.length : Int)) ∧
 Tri Tryz.prog 187 [vS ((l1.drop 1).take ((l1.length : Int).toNat - 1)), vI 10, vI 64] h fun v_2 h_2 =>
 ∃ (i4 : Int) (u6 : Value), v_2 = vT [.int .u64 i4, u6] ∧
 ∃ (c4 : Bool), PureRun Tryz.prog (execOp (rho [(32, u6)]) (mkO o179_5 4)) (vB c4) ∧
 br c4
 (∃ (u7 : Value), PureRun Tryz.prog (execOp (rho []) (mkO o179_6 152)) u7 ∧
 ∃ (c5 : Bool), PureRun Tryz.prog (execOp (rho [(35, u6), (36, u7)]) (mkO o179_7 4)) (vB c5) ∧
 br c5
 (Q (vT [vI 0, u6]) h_2)
 (∃ (i5 : Int), PureRun Tryz.prog (execOp (rho [(44, .int .u64 63)]) (mkO o179_10 178)) (.int .u64 i5) ∧
 br (decide (i4 > i5))
 (∃ (u8 : Value), PureRun Tryz.prog (execOp (rho []) (mkO o179_17 152)) u8 ∧
 Q (vT [vI (IntKind.i64.wrap (0 - (IntKind.i64.wrap (i5)))), u8]) h_2)
 (Q (vT [vI (IntKind.i64.wrap (0 - (IntKind.i64.wrap (i4)))), .nilIface]) h_2)))
 (∃ (i6 : Int), PureRun Tryz.prog (execOp (rho [(44, .int .u64 63)]) (mkO o179_10 178)) (.int .u64 i6) ∧
 br (decide (i4 > i6))
 (∃ (u9 : Value), PureRun Tryz.prog (execOp (rho []) (mkO o179_17 152)) u9 ∧
 Q (vT [vI (IntKind.i64.wrap (0 - (IntKind.i64.wrap (i6)))), u9]) h_2)
 (Q (vT [vI (IntKind.i64.wrap (0 - (IntKind.i64.wrap (i4)))), .nilIface]) h_2)))
 (Tri Tryz.prog 187 [vS l1, vI 10, vI 64] h fun v_3 h_3 =>
 ∃ (i7 : Int) (u10 : Value), v_3 = vT [.int .u64 i7, u10] ∧
 ∃ (c6 : Bool), PureRun Tryz.prog (execOp (rho [(32, u10)]) (mkO o179_5 4)) (vB c6) ∧
 br c6
 (∃ (u11 : Value), PureRun Tryz.prog (execOp (rho []) (mkO o179_6 152)) u11 ∧
 ∃ (c7 : Bool), PureRun Tryz.prog (execOp (rho [(35, u10), (36, u11)]) (mkO o179_7 4)) (vB c7) ∧
 br c7
 (Q (vT [vI 0, u10]) h_3)
 (∃ (i8 : Int), PureRun Tryz.prog (execOp (rho [(44, .int .u64 63)]) (mkO o179_10 178)) (.int .u64 i8) ∧
 br (decide (i7 ≥ i8))
 (∃ (u12 : Value), PureRun Tryz.prog (execOp (rho []) (mkO o179_14 152)) u12 ∧
 Q (vT [vI (IntKind.i64.wrap ((IntKind.u64.wrap (i8 - 1)))), u12]) h_3)
 (Q (vT [vI (IntKind.i64.wrap (i7)), .nilIface]) h_3)))
 (∃ (i9 : Int), PureRun Tryz.prog (execOp (rho [(44, .int .u64 63)]) (mkO o179_10 178)) (.int .u64 i9) ∧
 br (decide (i7 ≥ i9))
 (∃ (u13 : Value), PureRun Tryz.prog (execOp (rho []) (mkO o179_14 152)) u13 ∧
 Q (vT [vI (IntKind.i64.wrap ((IntKind.u64.wrap (i9 - 1)))), u13]) h_3)
 (Q (vT [vI (IntKind.i64.wrap (i7)), .nilIface]) h_3)))))
theorem T179pDQ {l1 : Bs} {h : PHeap} {Q : Value → PHeap → Prop} (hR : R179pDQ l1 h Q) : Tri Tryz.prog 179 [vS l1, vI 10, vI 64] h Q :=
 tri_of_dn mixed Tryz.func179 rfl (by kernel_rfl) low179 (rs := [.tmp 6, .tmp 7]) (by kernel_rfl) rfl (Eq.mpr (by kernel_rfl : dnF Tryz.prog Tryz.f179.ntmps d179 [.tmp 6, .tmp 7] [vS l1, vI 10, vI 64] h Q = R179pDQ l1 h Q) hR)
abbrev o187_0 : Op := .makeInterface 227 (.const (vI 2))
abbrev o187_21 : Op := .binOp .shl 178 (.const (.int .u64 1)) (.tmp 95) 98
abbrev o187_23 : Op := .convert 9 40 (.tmp 98)
abbrev o187_33 : Op := .makeInterface 227 (.const (vI 2))
abbrev o187_35 : Op := .makeInterface 227 (.const (vI 2))
abbrev o187_37 : Op := .makeInterface 227 (.const (vI 1))
abbrev o187_42 : Op := .makeInterface 227 (.const (vI 1))
abbrev o187_45 : Op := .makeInterface 227 (.const (vI 2))
noncomputable def d187 : DCode := up ⟨[(20, .c (.one false [.any])), (47, .c (.one false [.int .u8])), (59, .c (.one false [.int .u8])), (71, .c (.one false [.int .u8])), (24, .c (.one false [.any])), (84, .c (.one false [.any])), (88, .c (.one false [.int .u64])), (96, .c (.one false [.int .u64])), (99, .c (.one false [.slice])), (104, .l [.int .u8]), (123, .c (.one false [.int .u8])), (127, .c (.one false [.int .u8])), (131, .c (.one false [.int .u8])), (105, .c (.one false [.any])), (138, .c (.one false [.any])), (143, .c (.one false [.any])), (161, .c (.one false [.any])), (167, .c (.one false [.bool])), (170, .c (.one false [.any]))], [], [(102, 70, [(12, .bool), (13, .int .u64), (101, qi)], [])]⟩ (low Tryz.prog (fun _ => false) (Tryz.f187.body.getD .skip))
theorem low187 : low Tryz.prog (fun _ => false) (Tryz.f187.body.getD .skip) = some (eC d187) := by kernel_rfl
def R187pAQ (l1 : Bs) (h : PHeap) (Q : Value → PHeap → Prop) : Prop :=
 br (l1 == [])
 (∃ (u1 : Value), PureRun Tryz.prog (execOp (rho []) (mkO o187_0 152)) u1 ∧
 Q (vT [.int .u64 0, u1]) h)
 (∃ (i1 : Int), PureRun Tryz.prog (execOp (rho [(95, .int .u64 64)]) (mkO o187_21 178)) (.int .u64 i1) ∧
 Raw Tryz.prog (execOp (rho [(98, vS l1)]) (mkO o187_23 40)) h fun v_1 h_1 =>
 ∃ (a1 : OA) (n1 k1 : Nat), v_1 = vL a1 n1 k1 ∧
 ∃ (I_1 : Nat → Bool → Int → Int → PHeap → Prop), (∃ (m2 : Nat), I_1 m2 false (0 : Int) (0 : Int) h_1) ∧
 ∀ (m1 : Nat) (c1 : Bool) (i2 : Int) (i3 : Int) (h_2 : PHeap), I_1 m1 c1 i2 i3 h_2 →
 br (decide (i3 < ((n1 : Nat) : Int)))
 (∃ (b1 o1 : Nat), a1 = some ⟨b1, o1, none⟩ ∧ (0 ≤ i3 ∧ i3 < n1) ∧
 ∃ (i4 : Int), h_2.cell b1 (o1 + (i3).toNat * 1) = some (vU i4) ∧
 br (i4 == 95)
 (br (decide (48 ≤ i4))
 (br (decide (i4 ≤ 57))
 (br (decide ((IntKind.u8.wrap (i4 - 48)) ≥ 16))
 (∃ (u2 : Value), PureRun Tryz.prog (execOp (rho []) (mkO o187_35 152)) u2 ∧
 Q (vT [.int .u64 0, u2]) h_2)
 (br (decide (i2 ≥ 1152921504606846976))
 (∃ (u3 : Value), PureRun Tryz.prog (execOp (rho []) (mkO o187_37 152)) u3 ∧
 Q (vT [.int .u64 (IntKind.u64.wrap (i1 - 1)), u3]) h_2)
 (br (decide ((IntKind.u64.wrap ((IntKind.u64.wrap (i2 * 16)) + (IntKind.u64.wrap ((IntKind.u8.wrap (i4 - 48)))))) < (IntKind.u64.wrap (i2 * 16))))
 (∃ (u4 : Value), PureRun Tryz.prog (execOp (rho []) (mkO o187_42 152)) u4 ∧
 Q (vT [.int .u64 (IntKind.u64.wrap (i1 - 1)), u4]) h_2)
 (br (decide ((IntKind.u64.wrap ((IntKind.u64.wrap (i2 * 16)) + (IntKind.u64.wrap ((IntKind.u8.wrap (i4 - 48)))))) > (IntKind.u64.wrap (i1 - 1))))
 (∃ (u5 : Value), PureRun Tryz.prog (execOp (rho []) (mkO o187_42 152)) u5 ∧
 Q (vT [.int .u64 (IntKind.u64.wrap (i1 - 1)), u5]) h_2)
 (∃ (m3 : Nat), m3 < m1 ∧ I_1 m3 c1 (IntKind.u64.wrap ((IntKind.u64.wrap (i2 * 16)) + (IntKind.u64.wrap ((IntKind.u8.wrap (i4 - 48)))))) (IntKind.i64.wrap (i3 + 1)) h_2 ∧
 True)))))
 (Tri Tryz.prog 192 [vU i4] h_2 fun v_2 h_3 =>
 ∃ (i5 : Int), v_2 = vU i5 ∧
 br (decide (97 ≤ i5))
 (Tri Tryz.prog 192 [vU i4] h_3 fun v_3 h_4 =>
 ∃ (i6 : Int), v_3 = vU i6 ∧
 br (decide (i6 ≤ 122))
 (Tri Tryz.prog 192 [vU i4] h_4 fun v_4 h_5 =>
 ∃ (i7 : Int), v_4 = vU i7 ∧
 br (decide ((IntKind.u8.wrap ((IntKind.u8.wrap (i7 - 97)) + 10)) ≥ 16))
 (∃ (u6 : Value), PureRun Tryz.prog (execOp (rho []) (mkO o187_35 152)) u6 ∧
 Q (vT [.int .u64 0, u6]) h_5)
 (br (decide (i2 ≥ 1152921504606846976))
 (∃ (u7 : Value), PureRun Tryz.prog (execOp (rho []) (mkO o187_37 152)) u7 ∧
 Q (vT [.int .u64 (IntKind.u64.wrap (i1 - 1)), u7]) h_5)
 (br (decide ((IntKind.u64.wrap ((IntKind.u64.wrap (i2 * 16)) + (IntKind.u64.wrap ((IntKind.u8.wrap ((IntKind.u8.wrap (i7 - 97)) + 10)))))) < (IntKind.u64.wrap (i2 * 16))))
 (∃ (u8 : Value), PureRun Tryz.prog (execOp (rho []) (mkO o187_42 152)) u8 ∧
 Q (vT [.int .u64 (IntKind.u64.wrap (i1 - 1)), u8]) h_5)
 (br (decide ((IntKind.u64.wrap ((IntKind.u64.wrap (i2 * 16)) + (IntKind.u64.wrap ((IntKind.u8.wrap ((IntKind.u8.wrap (i7 - 97)) + 10)))))) > (IntKind.u64.wrap (i1 - 1))))
 (∃ (u9 : Value), PureRun Tryz.prog (execOp (rho []) (mkO o187_42 152)) u9 ∧
 Q (vT [.int .u64 (IntKind.u64.wrap (i1 - 1)), u9]) h_5)
 (∃ (m4 : Nat), m4 < m1 ∧ I_1 m4 c1 (IntKind.u64.wrap ((IntKind.u64.wrap (i2 * 16)) + (IntKind.u64.wrap ((IntKind.u8.wrap ((IntKind.u8.wrap (i7 - 97)) + 10)))))) (IntKind.i64.wrap (i3 + 1)) h_5 ∧
 True)))))
 (∃ (u10 : Value), PureRun Tryz.prog (execOp (rho []) (mkO o187_33 152)) u10 ∧
 Q (vT [.int .u64 0, u10]) h_4))
 (∃ (u11 : Value), PureRun Tryz.prog (execOp (rho []) (mkO o187_33 152)) u11 ∧
 Q (vT [.int .u64 0, u11]) h_3)))
 (Tri Tryz.prog 192 [vU i4] h_2 fun v_5 h_6 =>
 ∃ (i8 : Int), v_5 = vU i8 ∧
 br (decide (97 ≤ i8))
 (Tri Tryz.prog 192 [vU i4] h_6 fun v_6 h_7 =>
 ∃ (i9 : Int), v_6 = vU i9 ∧
 br (decide (i9 ≤ 122))
 (Tri Tryz.prog 192 [vU i4] h_7 fun v_7 h_8 =>
 ∃ (i10 : Int), v_7 = vU i10 ∧
 br (decide ((IntKind.u8.wrap ((IntKind.u8.wrap (i10 - 97)) + 10)) ≥ 16))
 (∃ (u12 : Value), PureRun Tryz.prog (execOp (rho []) (mkO o187_35 152)) u12 ∧
 Q (vT [.int .u64 0, u12]) h_8)
 (br (decide (i2 ≥ 1152921504606846976))
 (∃ (u13 : Value), PureRun Tryz.prog (execOp (rho []) (mkO o187_37 152)) u13 ∧
 Q (vT [.int .u64 (IntKind.u64.wrap (i1 - 1)), u13]) h_8)
 (br (decide ((IntKind.u64.wrap ((IntKind.u64.wrap (i2 * 16)) + (IntKind.u64.wrap ((IntKind.u8.wrap ((IntKind.u8.wrap (i10 - 97)) + 10)))))) < (IntKind.u64.wrap (i2 * 16))))
 (∃ (u14 : Value), PureRun Tryz.prog (execOp (rho []) (mkO o187_42 152)) u14 ∧
 Q (vT [.int .u64 (IntKind.u64.wrap (i1 - 1)), u14]) h_8)
 (br (decide ((IntKind.u64.wrap ((IntKind.u64.wrap (i2 * 16)) + (IntKind.u64.wrap ((IntKind.u8.wrap ((IntKind.u8.wrap (i10 - 97)) + 10)))))) > (IntKind.u64.wrap (i1 - 1))))
 (∃ (u15 : Value), PureRun Tryz.prog (execOp (rho []) (mkO o187_42 152)) u15 ∧
 Q (vT [.int .u64 (IntKind.u64.wrap (i1 - 1)), u15]) h_8)
 (∃ (m5 : Nat), m5 < m1 ∧ I_1 m5 c1 (IntKind.u64.wrap ((IntKind.u64.wrap (i2 * 16)) + (IntKind.u64.wrap ((IntKind.u8.wrap ((IntKind.u8.wrap (i10 - 97)) + 10)))))) (IntKind.i64.wrap (i3 + 1)) h_8 ∧
 True)))))
 (∃ (u16 : Value), PureRun Tryz.prog (execOp (rho []) (mkO o187_33 152)) u16 ∧
 Q (vT [.int .u64 0, u16]) h_7))
 (∃ (u17 : Value), PureRun Tryz.prog (execOp (rho []) (mkO o187_33 152)) u17 ∧
 Q (vT [.int .u64 0, u17]) h_6)))
 (br (decide (48 ≤ i4))
 (br (decide (i4 ≤ 57))
 (br (decide ((IntKind.u8.wrap (i4 - 48)) ≥ 16))
 (∃ (u18 : Value), PureRun Tryz.prog (execOp (rho []) (mkO o187_35 152)) u18 ∧
 Q (vT [.int .u64 0, u18]) h_2)
 (br (decide (i2 ≥ 1152921504606846976))
 (∃ (u19 : Value), PureRun Tryz.prog (execOp (rho []) (mkO o187_37 152)) u19 ∧
 Q (vT [.int .u64 (IntKind.u64.wrap (i1 - 1)), u19]) h_2)
 (br (decide ((IntKind.u64.wrap ((IntKind.u64.wrap (i2 * 16)) + (IntKind.u64.wrap ((IntKind.u8.wrap (i4 - 48)))))) < (IntKind.u64.wrap (i2 * 16))))
 (∃ (u20 : Value), PureRun Tryz.prog (execOp (rho []) (mkO o187_42 152)) u20 ∧
 Q (vT [.int .u64 (IntKind.u64.wrap (i1 - 1)), u20]) h_2)
 (br (decide ((IntKind.u64.wrap ((IntKind.u64.wrap (i2 * 16)) + (IntKind.u64.wrap ((IntKind.u8.wrap (i4 - 48)))))) > (IntKind.u64.wrap (i1 - 1))))
 (∃ (u21 : Value), PureRun Tryz.prog (execOp (rho []) (mkO o187_42 152)) u21 ∧
 Q (vT [.int .u64 (IntKind.u64.wrap (i1 - 1)), u21]) h_2)
 (∃ (m6 : Nat), m6 < m1 ∧ I_1 m6 c1 (IntKind.u64.wrap ((IntKind.u64.wrap (i2 * 16)) + (IntKind.u64.wrap ((IntKind.u8.wrap (i4 - 48)))))) (IntKind.i64.wrap (i3 + 1)) h_2 ∧
 True)))))
 (Tri Tryz.prog 192 [vU i4] h_2 fun v_8 h_9 =>
 ∃ (i11 : Int), v_8 = vU i11 ∧
 br (decide (97 ≤ i11))
 (Tri Tryz.prog 192 [vU i4] h_9 fun v_9 h_10 =>
 ∃ (i12 : Int), v_9 = vU i12 ∧
 br (decide (i12 ≤ 122))
 (Tri Tryz.prog 192 [vU i4] h_10 fun v_10 h_11 =>
 ∃ (i13 : Int), v_10 = vU i13 ∧
 br (decide ((IntKind.u8.wrap ((IntKind.u8.wrap (i13 - 97)) + 10)) ≥ 16))
 (∃ (u22 : Value), PureRun Tryz.prog (execOp (rho []) (mkO o187_35 152)) u22 ∧
 Q (vT [.int .u64 0, u22]) h_11)
 (br (decide (i2 ≥ 1152921504606846976))
 (∃ (u23 : Value), PureRun Tryz.prog (execOp (rho []) (mkO o187_37 152)) u23 ∧
 Q (vT [.int .u64 (IntKind.u64.wrap (i1 - 1)), u23]) h_11)
 (br (decide ((IntKind.u64.wrap ((IntKind.u64.wrap (i2 * 16)) + (IntKind.u64.wrap ((IntKind.u8.wrap ((IntKind.u8.wrap (i13 - 97)) + 10)))))) < (IntKind.u64.wrap (i2 * 16))))
 (∃ (u24 : Value), PureRun Tryz.prog (execOp (rho []) (mkO o187_42 152)) u24 ∧
 Q (vT [.int .u64 (IntKind.u64.wrap (i1 - 1)), u24]) h_11)
 (br (decide ((IntKind.u64.wrap ((IntKind.u64.wrap (i2 * 16)) + (IntKind.u64.wrap ((IntKind.u8.wrap ((IntKind.u8.wrap (i13 - 97)) + 10)))))) > (IntKind.u64.wrap (i1 - 1))))
 (∃ (u25 : Value), PureRun Tryz.prog (execOp (rho []) (mkO o187_42 152)) u25 ∧
 Q (vT [.int .u64 (IntKind.u64.wrap (i1 - 1)), u25]) h_11)
 (∃ (m7 : Nat), m7 < m1 ∧ I_1 m7 c1 (IntKind.u64.wrap ((IntKind.u64.wrap (i2 * 16)) + (IntKind.u64.wrap ((IntKind.u8.wrap ((IntKind.u8.wrap (i13 - 97)) + 10)))))) (IntKind.i64.wrap (i3 + 1)) h_11 ∧
 True)))))
 (∃ (u26 : Value), PureRun Tryz.prog (execOp (rho []) (mkO o187_33 152)) u26 ∧
 Q (vT [.int .u64 0, u26]) h_10))
 (∃ (u27 : Value), PureRun Tryz.prog (execOp (rho []) (mkO o187_33 152)) u27 ∧
 Q (vT [.int .u64 0, u27]) h_9)))
 (Tri Tryz.prog 192 [vU i4] h_2 fun v_11 h_12 =>
 ∃ (i14 : Int), v_11 = vU i14 ∧
 br (decide (97 ≤ i14))
 (Tri Tryz.prog 192 [vU i4] h_12 fun v_12 h_13 =>
 ∃ (i15 : Int), v_12 = vU i15 ∧
 br (decide (i15 ≤ 122))
 (Tri Tryz.prog 192 [vU i4] h_13 fun v_13 h_14 =>
 ∃ (i16 : Int), v_13 = vU i16 ∧
 br (decide ((IntKind.u8.wrap ((IntKind.u8.wrap (i16 - 97)) + 10)) ≥ 16))
 (∃ (u28 : Value), PureRun Tryz.prog (execOp (rho []) (mkO o187_35 152)) u28 ∧
 Q (vT [.int .u64 0, u28]) h_14)
 (br (decide (i2 ≥ 1152921504606846976))
 (∃ (u29 : Value), PureRun Tryz.prog (execOp (rho []) (mkO o187_37 152)) u29 ∧
 Q (vT [.int .u64 (IntKind.u64.wrap (i1 - 1)), u29]) h_14)
 (br (decide ((IntKind.u64.wrap ((IntKind.u64.wrap (i2 * 16)) + (IntKind.u64.wrap ((IntKind.u8.wrap ((IntKind.u8.wrap (i16 - 97)) + 10)))))) < (IntKind.u64.wrap (i2 * 16))))
 (∃ (u30 : Value), PureRun Tryz.prog (execOp (rho []) (mkO o187_42 152)) u30 ∧
 Q (vT [.int .u64 (IntKind.u64.wrap (i1 - 1)), u30]) h_14)
 (br (decide ((IntKind.u64.wrap ((IntKind.u64.wrap (i2 * 16)) + (IntKind.u64.wrap ((IntKind.u8.wrap ((IntKind.u8.wrap (i16 - 97)) + 10)))))) > (IntKind.u64.wrap (i1 - 1))))
 (∃ (u31 : Value), PureRun Tryz.prog (execOp (rho []) (mkO o187_42 152)) u31 ∧
 Q (vT [.int .u64 (IntKind.u64.wrap (i1 - 1)), u31]) h_14)
 (∃ (m8 : Nat), m8 < m1 ∧ I_1 m8 c1 (IntKind.u64.wrap ((IntKind.u64.wrap (i2 * 16)) + (IntKind.u64.wrap ((IntKind.u8.wrap ((IntKind.u8.wrap (i16 - 97)) + 10)))))) (IntKind.i64.wrap (i3 + 1)) h_14 ∧
 True)))))
 (∃ (u32 : Value), PureRun Tryz.prog (execOp (rho []) (mkO o187_33 152)) u32 ∧
 Q (vT [.int .u64 0, u32]) h_13))
 (∃ (u33 : Value), PureRun Tryz.prog (execOp (rho []) (mkO o187_33 152)) u33 ∧
 Q (vT [.int .u64 0, u33]) h_12))))
 (br c1
 (Tri Tryz.prog 193 [vS l1] h_2 fun v_14 h_15 =>
 ∃ (c2 : Bool), v_14 = vB c2 ∧
 br (!c2)
 (∃ (u34 : Value), PureRun Tryz.prog (execOp (rho []) (mkO o187_45 152)) u34 ∧
 Q (vT [.int .u64 0, u34]) h_15)
 (Q (vT [.int .u64 i2, .nilIface]) h_15))
 (Q (vT [.int .u64 i2, .nilIface]) h_2)))
theorem T187pAQ {l1 : Bs} {h : PHeap} {Q : Value → PHeap → Prop} (hR : R187pAQ l1 h Q) : Tri Tryz.prog 187 [vS l1, vI 16, vI 64] h Q :=
 tri_of_dn mixed Tryz.func187 rfl (by kernel_rfl) low187 (rs := [.tmp 6, .tmp 7]) (by kernel_rfl) rfl (Eq.mpr (by kernel_rfl : dnF Tryz.prog Tryz.f187.ntmps d187 [.tmp 6, .tmp 7] [vS l1, vI 16, vI 64] h Q = R187pAQ l1 h Q) hR)
def R187pDQ (l1 : Bs) (h : PHeap) (Q : Value → PHeap → Prop) : Prop :=
 br (l1 == [])
 (∃ (u1 : Value), PureRun Tryz.prog (execOp (rho []) (mkO o187_0 152)) u1 ∧
 Q (vT [.int .u64 0, u1]) h)
 (∃ (i1 : Int), PureRun Tryz.prog (execOp (rho [(95, .int .u64 64)]) (mkO o187_21 178)) (.int .u64 i1) ∧
 Raw Tryz.prog (execOp (rho [(98, vS l1)]) (mkO o187_23 40)) h fun v_1 h_1 =>
 ∃ (a1 : OA) (n1 k1 : Nat), v_1 = vL a1 n1 k1 ∧
 ∃ (I_1 : Nat → Bool → Int → Int → PHeap → Prop), (∃ (m2 : Nat), I_1 m2 false (0 : Int) (0 : Int) h_1) ∧
 ∀ (m1 : Nat) (c1 : Bool) (i2 : Int) (i3 : Int) (h_2 : PHeap), I_1 m1 c1 i2 i3 h_2 →
 br (decide (i3 < ((n1 : Nat) : Int)))
 (∃ (b1 o1 : Nat), a1 = some ⟨b1, o1, none⟩ ∧ (0 ≤ i3 ∧ i3 < n1) ∧
 ∃ (i4 : Int), h_2.cell b1 (o1 + (i3).toNat * 1) = some (vU i4) ∧
 br (i4 == 95)
 (br (decide (48 ≤ i4))
 (br (decide (i4 ≤ 57))
 (br (decide ((IntKind.u8.wrap (i4 - 48)) ≥ 10))
 (∃ (u2 : Value), PureRun Tryz.prog (execOp (rho []) (mkO o187_35 152)) u2 ∧
 Q (vT [.int .u64 0, u2]) h_2)
 (br (decide (i2 ≥ 1844674407370955162))
 (∃ (u3 : Value), PureRun Tryz.prog (execOp (rho []) (mkO o187_37 152)) u3 ∧
 Q (vT [.int .u64 (IntKind.u64.wrap (i1 - 1)), u3]) h_2)
 (br (decide ((IntKind.u64.wrap ((IntKind.u64.wrap (i2 * 10)) + (IntKind.u64.wrap ((IntKind.u8.wrap (i4 - 48)))))) < (IntKind.u64.wrap (i2 * 10))))
 (∃ (u4 : Value), PureRun Tryz.prog (execOp (rho []) (mkO o187_42 152)) u4 ∧
 Q (vT [.int .u64 (IntKind.u64.wrap (i1 - 1)), u4]) h_2)
 (br (decide ((IntKind.u64.wrap ((IntKind.u64.wrap (i2 * 10)) + (IntKind.u64.wrap ((IntKind.u8.wrap (i4 - 48)))))) > (IntKind.u64.wrap (i1 - 1))))
 (∃ (u5 : Value), PureRun Tryz.prog (execOp (rho []) (mkO o187_42 152)) u5 ∧
 Q (vT [.int .u64 (IntKind.u64.wrap (i1 - 1)), u5]) h_2)
 (∃ (m3 : Nat), m3 < m1 ∧ I_1 m3 c1 (IntKind.u64.wrap ((IntKind.u64.wrap (i2 * 10)) + (IntKind.u64.wrap ((IntKind.u8.wrap (i4 - 48)))))) (IntKind.i64.wrap (i3 + 1)) h_2 ∧
 True)))))
 (Tri Tryz.prog 192 [vU i4] h_2 fun v_2 h_3 =>
 ∃ (i5 : Int), v_2 = vU i5 ∧
 br (decide (97 ≤ i5))
 (Tri Tryz.prog 192 [vU i4] h_3 fun v_3 h_4 =>
 ∃ (i6 : Int), v_3 = vU i6 ∧
 br (decide (i6 ≤ 122))
 (Tri Tryz.prog 192 [vU i4] h_4 fun v_4 h_5 =>
 ∃ (i7 : Int), v_4 = vU i7 ∧
 br (decide ((IntKind.u8.wrap ((IntKind.u8.wrap (i7 - 97)) + 10)) ≥ 10))
 (∃ (u6 : Value), PureRun Tryz.prog (execOp (rho []) (mkO o187_35 152)) u6 ∧
 Q (vT [.int .u64 0, u6]) h_5)
 (br (decide (i2 ≥ 1844674407370955162))
 (∃ (u7 : Value), PureRun Tryz.prog (execOp (rho []) (mkO o187_37 152)) u7 ∧
 Q (vT [.int .u64 (IntKind.u64.wrap (i1 - 1)), u7]) h_5)
 (br (decide ((IntKind.u64.wrap ((IntKind.u64.wrap (i2 * 10)) + (IntKind.u64.wrap ((IntKind.u8.wrap ((IntKind.u8.wrap (i7 - 97)) + 10)))))) < (IntKind.u64.wrap (i2 * 10))))
 (∃ (u8 : Value), PureRun Tryz.prog (execOp (rho []) (mkO o187_42 152)) u8 ∧
 Q (vT [.int .u64 (IntKind.u64.wrap (i1 - 1)), u8]) h_5)
 (br (decide ((IntKind.u64.wrap ((IntKind.u64.wrap (i2 * 10)) + (IntKind.u64.wrap ((IntKind.u8.wrap ((IntKind.u8.wrap (i7 - 97)) + 10)))))) > (IntKind.u64.wrap (i1 - 1))))
 (∃ (u9 : Value), PureRun Tryz.prog (execOp (rho []) (mkO o187_42 152)) u9 ∧
 Q (vT [.int .u64 (IntKind.u64.wrap (i1 - 1)), u9]) h_5)
 (∃ (m4 : Nat), m4 < m1 ∧ I_1 m4 c1 (IntKind.u64.wrap ((IntKind.u64.wrap (i2 * 10)) + (IntKind.u64.wrap ((IntKind.u8.wrap ((IntKind.u8.wrap (i7 - 97)) + 10)))))) (IntKind.i64.wrap (i3 + 1)) h_5 ∧
 True)))))
 (∃ (u10 : Value), PureRun Tryz.prog (execOp (rho []) (mkO o187_33 152)) u10 ∧
 Q (vT [.int .u64 0, u10]) h_4))
 (∃ (u11 : Value), PureRun Tryz.prog (execOp (rho []) (mkO o187_33 152)) u11 ∧
 Q (vT [.int .u64 0, u11]) h_3)))
 (Tri Tryz.prog 192 [vU i4] h_2 fun v_5 h_6 =>
 ∃ (i8 : Int), v_5 = vU i8 ∧
 br (decide (97 ≤ i8))
 (Tri Tryz.prog 192 [vU i4] h_6 fun v_6 h_7 =>
 ∃ (i9 : Int), v_6 = vU i9 ∧
 br (decide (i9 ≤ 122))
 (Tri Tryz.prog 192 [vU i4] h_7 fun v_7 h_8 =>
 ∃ (i10 : Int), v_7 = vU i10 ∧
 br (decide ((IntKind.u8.wrap ((IntKind.u8.wrap (i10 - 97)) + 10)) ≥ 10))
 (∃ (u12 : Value), PureRun Tryz.prog (execOp (rho []) (mkO o187_35 152)) u12 ∧
 Q (vT [.int .u64 0, u12]) h_8)
 (br (decide (i2 ≥ 1844674407370955162))
 (∃ (u13 : Value), PureRun Tryz.prog (execOp (rho []) (mkO o187_37 152)) u13 ∧
 Q (vT [.int .u64 (IntKind.u64.wrap (i1 - 1)), u13]) h_8)
 (br (decide ((IntKind.u64.wrap ((IntKind.u64.wrap (i2 * 10)) + (IntKind.u64.wrap ((IntKind.u8.wrap ((IntKind.u8.wrap (i10 - 97)) + 10)))))) < (IntKind.u64.wrap (i2 * 10))))
 (∃ (u14 : Value), PureRun Tryz.prog (execOp (rho []) (mkO o187_42 152)) u14 ∧
 Q (vT [.int .u64 (IntKind.u64.wrap (i1 - 1)), u14]) h_8)
 (br (decide ((IntKind.u64.wrap ((IntKind.u64.wrap (i2 * 10)) + (IntKind.u64.wrap ((IntKind.u8.wrap ((IntKind.u8.wrap (i10 - 97)) + 10)))))) > (IntKind.u64.wrap (i1 - 1))))
 (∃ (u15 : Value), PureRun Tryz.prog (execOp (rho []) (mkO o187_42 152)) u15 ∧
 Q (vT [.int .u64 (IntKind.u64.wrap (i1 - 1)), u15]) h_8)
 (∃ (m5 : Nat), m5 < m1 ∧ I_1 m5 c1 (IntKind.u64.wrap ((IntKind.u64.wrap (i2 * 10)) + (IntKind.u64.wrap ((IntKind.u8.wrap ((IntKind.u8.wrap (i10 - 97)) + 10)))))) (IntKind.i64.wrap (i3 + 1)) h_8 ∧
 True)))))
 (∃ (u16 : Value), PureRun Tryz.prog (execOp (rho []) (mkO o187_33 152)) u16 ∧
 Q (vT [.int .u64 0, u16]) h_7))
 (∃ (u17 : Value), PureRun Tryz.prog (execOp (rho []) (mkO o187_33 152)) u17 ∧
 Q (vT [.int .u64 0, u17]) h_6)))
 (br (decide (48 ≤ i4))
 (br (decide (i4 ≤ 57))
 (br (decide ((IntKind.u8.wrap (i4 - 48)) ≥ 10))
 (∃ (u18 : Value), PureRun Tryz.prog (execOp (rho []) (mkO o187_35 152)) u18 ∧
 Q (vT [.int .u64 0, u18]) h_2)
 (br (decide (i2 ≥ 1844674407370955162))
 (∃ (u19 : Value), PureRun Tryz.prog (execOp (rho []) (mkO o187_37 152)) u19 ∧
 Q (vT [.int .u64 (IntKind.u64.wrap (i1 - 1)), u19]) h_2)
 (br (decide ((IntKind.u64.wrap ((IntKind.u64.wrap (i2 * 10)) + (IntKind.u64.wrap ((IntKind.u8.wrap (i4 - 48)))))) < (IntKind.u64.wrap (i2 * 10))))
 (∃ (u20 : Value), PureRun Tryz.prog (execOp (rho []) (mkO o187_42 152)) u20 ∧
 Q (vT [.int .u64 (IntKind.u64.wrap (i1 - 1)), u20]) h_2)
 (br (decide ((IntKind.u64.wrap ((IntKind.u64.wrap (i2 * 10)) + (IntKind.u64.wrap ((IntKind.u8.wrap (i4 - 48)))))) > (IntKind.u64.wrap (i1 - 1))))
 (∃ (u21 : Value), PureRun Tryz.prog (execOp (rho []) (mkO o187_42 152)) u21 ∧
 Q (vT [.int .u64 (IntKind.u64.wrap (i1 - 1)), u21]) h_2)
 (∃ (m6 : Nat), m6 < m1 ∧ I_1 m6 c1 (IntKind.u64.wrap ((IntKind.u64.wrap (i2 * 10)) + (IntKind.u64.wrap ((IntKind.u8.wrap (i4 - 48)))))) (IntKind.i64.wrap (i3 + 1)) h_2 ∧
 True)))))
 (Tri Tryz.prog 192 [vU i4] h_2 fun v_8 h_9 =>
 ∃ (i11 : Int), v_8 = vU i11 ∧
 br (decide (97 ≤ i11))
 (Tri Tryz.prog 192 [vU i4] h_9 fun v_9 h_10 =>
 ∃ (i12 : Int), v_9 = vU i12 ∧
 br (decide (i12 ≤ 122))
 (Tri Tryz.prog 192 [vU i4] h_10 fun v_10 h_11 =>
 ∃ (i13 : Int), v_10 = vU i13 ∧
 br (decide ((IntKind.u8.wrap ((IntKind.u8.wrap (i13 - 97)) + 10)) ≥ 10))
 (∃ (u22 : Value), PureRun Tryz.prog (execOp (rho []) (mkO o187_35 152)) u22 ∧
 Q (vT [.int .u64 0, u22]) h_11)
 (br (decide (i2 ≥ 1844674407370955162))
 (∃ (u23 : Value), PureRun Tryz.prog (execOp (rho []) (mkO o187_37 152)) u23 ∧
 Q (vT [.int .u64 (IntKind.u64.wrap (i1 - 1)), u23]) h_11)
 (br (decide ((IntKind.u64.wrap ((IntKind.u64.wrap (i2 * 10)) + (IntKind.u64.wrap ((IntKind.u8.wrap ((IntKind.u8.wrap (i13 - 97)) + 10)))))) < (IntKind.u64.wrap (i2 * 10))))
 (∃ (u24 : Value), PureRun Tryz.prog (execOp (rho []) (mkO o187_42 152)) u24 ∧
 Q (vT [.int .u64 (IntKind.u64.wrap (i1 - 1)), u24]) h_11)
 (br (decide ((IntKind.u64.wrap ((IntKind.u64.wrap (i2 * 10)) + (IntKind.u64.wrap ((IntKind.u8.wrap ((IntKind.u8.wrap (i13 - 97)) + 10)))))) > (IntKind.u64.wrap (i1 - 1))))
 (∃ (u25 : Value), PureRun Tryz.prog (execOp (rho []) (mkO o187_42 152)) u25 ∧
 Q (vT [.int .u64 (IntKind.u64.wrap (i1 - 1)), u25]) h_11)
 (∃ (m7 : Nat), m7 < m1 ∧ I_1 m7 c1 (IntKind.u64.wrap ((IntKind.u64.wrap (i2 * 10)) + (IntKind.u64.wrap ((IntKind.u8.wrap ((IntKind.u8.wrap (i13 - 97)) + 10)))))) (IntKind.i64.wrap (i3 + 1)) h_11 ∧
 True)))))
 (∃ (u26 : Value), PureRun Tryz.prog (execOp (rho []) (mkO o187_33 152)) u26 ∧
 Q (vT [.int .u64 0, u26]) h_10))
 (∃ (u27 : Value), PureRun Tryz.prog (execOp (rho []) (mkO o187_33 152)) u27 ∧
 Q (vT [.int .u64 0, u27]) h_9)))
 (Tri Tryz.prog 192 [vU i4] h_2 fun v_11 h_12 =>
 ∃ (i14 : Int), v_11 = vU i14 ∧
 br (decide (97 ≤ i14))
 (Tri Tryz.prog 192 [vU i4] h_12 fun v_12 h_13 =>
 ∃ (i15 : Int), v_12 = vU i15 ∧
 br (decide (i15 ≤ 122))
 (Tri Tryz.prog 192 [vU i4] h_13 fun v_13 h_14 =>
 ∃ (i16 : Int), v_13 = vU i16 ∧
 br (decide ((IntKind.u8.wrap ((IntKind.u8.wrap (i16 - 97)) + 10)) ≥ 10))
 (∃ (u28 : Value), PureRun Tryz.prog (execOp (rho []) (mkO o187_35 152)) u28 ∧
 Q (vT [.int .u64 0, u28]) h_14)
 (br (decide (i2 ≥ 1844674407370955162))
 (∃ (u29 : Value), PureRun Tryz.prog (execOp (rho []) (mkO o187_37 152)) u29 ∧
 Q (vT [.int .u64 (IntKind.u64.wrap (i1 - 1)), u29]) h_14)
 (br (decide ((IntKind.u64.wrap ((IntKind.u64.wrap (i2 * 10)) + (IntKind.u64.wrap ((IntKind.u8.wrap ((IntKind.u8.wrap (i16 - 97)) + 10)))))) < (IntKind.u64.wrap (i2 * 10))))
 (∃ (u30 : Value), PureRun Tryz.prog (execOp (rho []) (mkO o187_42 152)) u30 ∧
 Q (vT [.int .u64 (IntKind.u64.wrap (i1 - 1)), u30]) h_14)
 (br (decide ((IntKind.u64.wrap ((IntKind.u64.wrap (i2 * 10)) + (IntKind.u64.wrap ((IntKind.u8.wrap ((IntKind.u8.wrap (i16 - 97)) + 10)))))) > (IntKind.u64.wrap (i1 - 1))))
 (∃ (u31 : Value), PureRun Tryz.prog (execOp (rho []) (mkO o187_42 152)) u31 ∧
 Q (vT [.int .u64 (IntKind.u64.wrap (i1 - 1)), u31]) h_14)
 (∃ (m8 : Nat), m8 < m1 ∧ I_1 m8 c1 (IntKind.u64.wrap ((IntKind.u64.wrap (i2 * 10)) + (IntKind.u64.wrap ((IntKind.u8.wrap ((IntKind.u8.wrap (i16 - 97)) + 10)))))) (IntKind.i64.wrap (i3 + 1)) h_14 ∧
 True)))))
 (∃ (u32 : Value), PureRun Tryz.prog (execOp (rho []) (mkO o187_33 152)) u32 ∧
 Q (vT [.int .u64 0, u32]) h_13))
 (∃ (u33 : Value), PureRun Tryz.prog (execOp (rho []) (mkO o187_33 152)) u33 ∧
 Q (vT [.int .u64 0, u33]) h_12))))
 (br c1
 (Tri Tryz.prog 193 [vS l1] h_2 fun v_14 h_15 =>
 ∃ (c2 : Bool), v_14 = vB c2 ∧
 br (!c2)
 (∃ (u34 : Value), PureRun Tryz.prog (execOp (rho []) (mkO o187_45 152)) u34 ∧
 Q (vT [.int .u64 0, u34]) h_15)
 (Q (vT [.int .u64 i2, .nilIface]) h_15))
 (Q (vT [.int .u64 i2, .nilIface]) h_2)))
theorem T187pDQ {l1 : Bs} {h : PHeap} {Q : Value → PHeap → Prop} (hR : R187pDQ l1 h Q) : Tri Tryz.prog 187 [vS l1, vI 10, vI 64] h Q :=
 tri_of_dn mixed Tryz.func187 rfl (by kernel_rfl) low187 (rs := [.tmp 6, .tmp 7]) (by kernel_rfl) rfl (Eq.mpr (by kernel_rfl : dnF Tryz.prog Tryz.f187.ntmps d187 [.tmp 6, .tmp 7] [vS l1, vI 10, vI 64] h Q = R187pDQ l1 h Q) hR)
noncomputable def d192 : DCode := up ⟨[], [], []⟩ (low Tryz.prog (fun _ => false) (Tryz.f192.body.getD .skip))
theorem low192 : low Tryz.prog (fun _ => false) (Tryz.f192.body.getD .skip) = some (eC d192) := by kernel_rfl
def R192 (i1 : Int) (h : PHeap) (Q : Value → PHeap → Prop) : Prop :=
 Q (vU (IntKind.u8.wrap ((BitVec.ofInt 8 i1 ||| BitVec.ofInt 8 32).toNat : Int))) h
theorem T192 {i1 : Int} {h : PHeap} {Q : Value → PHeap → Prop} (hR : R192 i1 h Q) : Tri Tryz.prog 192 [vU i1] h Q :=
 tri_of_dn mixed Tryz.func192 rfl (by kernel_rfl) low192 (rs := [.tmp 2]) (by kernel_rfl) rfl (Eq.mpr (by kernel_rfl : dnF Tryz.prog Tryz.f192.ntmps d192 [.tmp 2] [vU i1] h Q = R192 i1 h Q) hR)
end Go.Proofs.D
namespace Go.As
def numV (B : Nat) (s : Bytes) : Nat := s.foldl (fun n c => B * n + hexN c) 0
theorem numV_snoc (B : Nat) (s : Bytes) (c : UInt8) : numV B (s ++ [c]) = B * numV B s + hexN c := by simp [numV, List.foldl_append]
theorem numV_hex (s : Bytes) : numV 16 s = hexV s := rfl
theorem foldl_dec : ∀ (s : Bytes) (n : Nat), s.all digitB = true → s.foldl (fun n c => 10 * n + hexN c) n = s.foldl (fun n c => 10 * n + (c.toNat - 48)) n
 | [], _, _ => rfl
 | c :: s, n, h => by
   simp only [List.all_cons, Bool.and_eq_true] at h
   rw [List.foldl_cons, List.foldl_cons, foldl_dec s _ h.2]
   unfold hexN; rw [if_pos h.1]
theorem numV_dec {s : Bytes} (h : s.all digitB = true) : numV 10 s = decN s := foldl_dec s 0 h
theorem hexN_lt : ∀ n : Fin 256, hexB (UInt8.ofNat n.val) = true → hexN (UInt8.ofNat n.val) < 16 := by decide +kernel
theorem hexN_dig : ∀ n : Fin 256, digitB (UInt8.ofNat n.val) = true → hexN (UInt8.ofNat n.val) < 10 := by decide +kernel
theorem numV_lt {B : Nat} {p : UInt8 → Bool} (hp : ∀ c, p c = true → hexN c < B) (hB : 1 ≤ B) : ∀ (s : Bytes), s.all p = true → numV B s < B ^ s.length := by
 intro s hs
 have key : ∀ (s : Bytes) (n : Nat), s.all p = true → s.foldl (fun n c => B * n + hexN c) n < B ^ s.length * (n + 1) := by
  intro s
  induction s with
  | nil => intro n _; simp
  | cons c s ih =>
    intro n h
    simp only [List.all_cons, Bool.and_eq_true] at h
    rw [List.foldl_cons, List.length_cons, Nat.pow_succ]
    have h1 := ih (B * n + hexN c) h.2
    have h2 := hp c h.1
    refine Nat.lt_of_lt_of_le h1 ?_
    rw [Nat.mul_assoc]
    refine Nat.mul_le_mul_left _ ?_
    rw [Nat.mul_add, Nat.mul_one]; omega
 simpa [numV] using key s 0 hs
end Go.As
namespace Go.Proofs.D
open Go Go.Den Go.As
set_option maxRecDepth 100000
theorem wrapU64 {n : Int} (h1 : 0 ≤ n) (h2 : n < 18446744073709551616) : IntKind.u64.wrap n = n := by
 simp [IntKind.wrap, IntKind.bits, IntKind.signed]; omega
theorem dig_u8 : ∀ n : Fin 256, digitB (UInt8.ofNat n.val) = true → IntKind.u8.wrap ((n.val : Int) - 48) = (hexN (UInt8.ofNat n.val) : Int) ∧ 48 ≤ n.val ∧ n.val ≤ 57 := by decide +kernel
theorem hex_u8 : ∀ n : Fin 256, digitB (UInt8.ofNat n.val) = false → hexB (UInt8.ofNat n.val) = true → IntKind.u8.wrap ((BitVec.ofInt 8 (n.val : Int) ||| BitVec.ofInt 8 32).toNat : Int) = (n.val : Int) ∧ 97 ≤ n.val ∧ n.val ≤ 102 ∧ IntKind.u8.wrap (IntKind.u8.wrap ((n.val : Int) - 97) + 10) = (hexN (UInt8.ofNat n.val) : Int) := by decide +kernel
attribute [local irreducible] IntKind.wrap Tri
section
variable (h : PHeap)
theorem raw_bytes {x : Operand} {ρ : Operand → Value} {s : Bytes} (hx : ρ x = vS s) : Raw Tryz.prog (execOp ρ (mkO (.convert 9 40 x) 40)) h fun v h' => ∃ b cap rest z, v = vL (ad b 0) s.length cap ∧ h b = none ∧ h' = h.put b (.cells ⟨s.map byteV ++ rest⟩ 5 z) := by
 intro w hs
 have hrun := run_bytes_of_string (P := Tryz.prog) w 9 40 5 ⟨⟨s⟩⟩ rfl rfl rfl
 have hexec : (execOp ρ (mkO (.convert 9 40 x) 40)).run Tryz.prog w = ((convert 9 40 (.string ⟨⟨s⟩⟩)).run Tryz.prog w).andThen fun v w' => .ok (.value v) w' := by
  simp [execOp, mkO, hx]
 rw [hexec, hrun]
 have hs' : Den.Sub w.drew h := hs
 have hrow : bytesRow ⟨⟨s⟩⟩ (grownCap w (⟨⟨s⟩⟩ : ByteArray).size 0 5) = ⟨s.map byteV ++ List.replicate (grownCap w (⟨⟨s⟩⟩ : ByteArray).size 0 5 - (⟨⟨s⟩⟩ : ByteArray).size) (.int .u8 0)⟩ := by
  unfold bytesRow
  apply Array.ext'
  simp
  intro a _; rfl
 rw [hrow]
 refine ⟨_, _, _, h.put w.heap.size _, rfl, .inl rfl, ⟨w.heap.size, _, _, _, rfl, hs.fresh, rfl⟩, hs'.allocReal _, ?_⟩
 have := Keep.allocReal w.drew h (.cells ⟨s.map byteV ++ List.replicate (grownCap w (⟨⟨s⟩⟩ : ByteArray).size 0 5 - (⟨⟨s⟩⟩ : ByteArray).size) (.int .u8 0)⟩ 5 ((⟨s.map byteV ++ List.replicate (grownCap w (⟨⟨s⟩⟩ : ByteArray).size 0 5 - (⟨⟨s⟩⟩ : ByteArray).size) (.int .u8 0)⟩ : Array Value).size, (⟨s.map byteV ++ List.replicate (grownCap w (⟨⟨s⟩⟩ : ByteArray).size 0 5 - (⟨⟨s⟩⟩ : ByteArray).size) (.int .u8 0)⟩ : Array Value).size + 1))
 exact ⟨this.os, this.tape, this.output, this.size, this.out⟩
theorem lower_t (i : Int) : Tri Tryz.prog 192 [vU i] h fun v h' => v = vU (IntKind.u8.wrap ((BitVec.ofInt 8 i ||| BitVec.ofInt 8 32).toNat : Int)) ∧ h' = h := by
 refine T192 ?_
 unfold R192
 exact ⟨rfl, rfl⟩
theorem shl_64 : PureRun Tryz.prog (execOp (rho [(95, .int .u64 64)]) (mkO o187_21 178)) (.int .u64 0) := pureVal_run _ (by kernel_rfl)
theorem shl_63 : PureRun Tryz.prog (execOp (rho [(44, .int .u64 63)]) (mkO o179_10 178)) (.int .u64 9223372036854775808) := pureVal_run _ (by kernel_rfl)
theorem nil_179 : PureRun Tryz.prog (execOp (rho [(32, .nilIface)]) (mkO o179_5 4)) (vB false) := pureVal_run _ (by kernel_rfl)
theorem nil_164 : PureRun Tryz.prog (execOp (rho [(16, .nilIface)]) (mkO o164_2 4)) (vB false) := pureVal_run _ (by kernel_rfl)
theorem nil_141a : PureRun Tryz.prog (execOp (rho [(36, .nilIface)]) (mkO o141_7 4)) (vB true) := pureVal_run _ (by kernel_rfl)
theorem nil_141b : PureRun Tryz.prog (execOp (rho [(59, .nilIface)]) (mkO o141_13 4)) (vB true) := pureVal_run _ (by kernel_rfl)
theorem uint16_t {s : Bytes} (hs : s.all hexB = true) (h1 : 1 ≤ s.length) (h2 : s.length ≤ 8) : Tri Tryz.prog 187 [vS s, vI 16, vI 64] h fun v h' => v = vT [.int .u64 (numV 16 s : Int), .nilIface] ∧ Ext h h' := by
 refine T187pAQ ?_
 unfold R187pAQ
 refine br_neg (by cases s <;> simp at h1 ⊢) ⟨0, shl_64, ?_⟩
 rw [show IntKind.u64.wrap (0 - 1) = 18446744073709551615 by with_unfolding_all rfl]
 refine Raw.mono (raw_bytes h rfl) ?_
 rintro _ h1' ⟨b, cap, rest, z, rfl, hb, rfl⟩
 refine ⟨_, _, _, rfl, ?_⟩
 have hx0 : Ext h (h.put b (.cells ⟨s.map byteV ++ rest⟩ 5 z)) := Ext.put hb _
 have hb0 : (h.put b (.cells ⟨s.map byteV ++ rest⟩ 5 z)) b = some (.cells ⟨s.map byteV ++ rest⟩ 5 z) := put_same _ _ _
 generalize h.put b (.cells ⟨s.map byteV ++ rest⟩ 5 z) = h1' at *
 refine ⟨fun m c n i h' => ∃ j : Nat, i = (j : Int) ∧ j + m = s.length ∧ c = false ∧ n = (numV 16 (s.take j) : Int) ∧ h' = h1', ⟨s.length, 0, rfl, by omega, rfl, rfl, rfl⟩, ?_⟩
 rintro m _ _ _ h3 ⟨j, rfl, hjm, rfl, rfl, rfl⟩
 refine br_split (fun e => ?_) fun e => ?_
 · have hlt : j < s.length := by have := of_decide_eq_true e; omega
   have hd : hexB s[j] = true := List.all_eq_true.1 hs _ (List.getElem_mem hlt)
   have ht := List.take_append_getElem hlt
   have hall : (s.take j).all hexB = true := by
    rw [List.all_eq_true] at hs ⊢
    exact fun x hx => hs x (List.mem_of_mem_take hx)
   have hN := numV_lt (B := 16) (p := hexB) (fun c hc => by have := hexN_lt ⟨c.toNat, c.toNat_lt⟩; simp only [UInt8.ofNat_toNat] at this; exact this hc) (by omega) (s.take j) hall
   have hN2 : numV 16 (s.take j) < 1099511627776 := by
    refine Nat.lt_of_lt_of_le hN ?_
    have : (s.take j).length ≤ 10 := by rw [List.length_take]; omega
    exact Nat.le_trans (Nat.pow_le_pow_right (by omega) this) (by decide)
   have hs1 := numV_snoc 16 (s.take j) s[j]
   rw [ht] at hs1
   have hdn : hexN s[j] < 16 := by have := hexN_lt ⟨s[j].toNat, s[j].toNat_lt⟩; simp only [UInt8.ofNat_toNat] at this; exact this hd
   have hcell : h3.cell b (0 + ((j : Nat) : Int).toNat * 1) = some (vU (s[j].toNat : Int)) := by
    rw [cell_of hb0, Int.toNat_natCast, List.getElem?_append_left (by simp; omega)]
    simp [hlt, byteV]
   have hn1 : IntKind.i64.wrap ((j : Int) + 1) = ((j + 1 : Nat) : Int) := by rw [wrap64 (by omega) (by omega)]; omega
   have hw1 : IntKind.u64.wrap ((numV 16 (s.take j) : Int) * 16) = ((numV 16 (s.take j) * 16 : Nat) : Int) := by rw [wrapU64 (by omega) (by omega)]; omega
   have hw2 : IntKind.u64.wrap (hexN s[j] : Int) = (hexN s[j] : Int) := wrapU64 (by omega) (by omega)
   have hw3 : IntKind.u64.wrap (((numV 16 (s.take j) * 16 : Nat) : Int) + (hexN s[j] : Int)) = ((numV 16 (s.take (j + 1)) : Nat) : Int) := by rw [wrapU64 (by omega) (by omega), hs1]; omega
   have h95 : ((s[j].toNat : Int) == 95) = false := by
    have : ∀ n : Fin 256, hexB (UInt8.ofNat n.val) = true → ((n.val : Int) == 95) = false := by decide +kernel
    have := this ⟨s[j].toNat, s[j].toNat_lt⟩
    simp only [UInt8.ofNat_toNat] at this
    exact this hd
   refine ⟨b, 0, rfl, ⟨by omega, by omega⟩, _, hcell, br_neg h95 ?_⟩
   cases hdg : digitB s[j] with
   | true =>
     have k := dig_u8 ⟨s[j].toNat, s[j].toNat_lt⟩
     simp only [UInt8.ofNat_toNat] at k
     obtain ⟨k1, k2, k3⟩ := k hdg
     rw [k1]
     refine br_pos (decide_eq_true (by omega)) (br_pos (decide_eq_true (by omega)) (br_neg (decide_eq_false (by omega)) (br_neg (decide_eq_false (by omega)) ?_)))
     rw [hw1, hw2, hw3]
     refine br_neg (decide_eq_false (by omega)) (br_neg (decide_eq_false (by omega)) ⟨m - 1, by omega, ⟨j + 1, hn1, by omega, rfl, rfl, rfl⟩, trivial⟩)
   | false =>
     have k := hex_u8 ⟨s[j].toNat, s[j].toNat_lt⟩
     simp only [UInt8.ofNat_toNat] at k
     obtain ⟨k1, k2, k3, k4⟩ := k hdg hd
     refine br_pos (decide_eq_true (by omega)) (br_neg (decide_eq_false (by omega)) ?_)
     refine Tri.mono (lower_t h3 _) ?_
     rintro _ h4 ⟨rfl, rfl⟩
     rw [k1]
     refine ⟨_, rfl, br_pos (decide_eq_true (by omega)) ?_⟩
     refine Tri.mono (lower_t h4 _) ?_
     rintro _ h4 ⟨rfl, rfl⟩
     rw [k1]
     refine ⟨_, rfl, br_pos (decide_eq_true (by omega)) ?_⟩
     refine Tri.mono (lower_t h4 _) ?_
     rintro _ h4 ⟨rfl, rfl⟩
     rw [k1]
     refine ⟨_, rfl, ?_⟩
     rw [k4]
     refine br_neg (decide_eq_false (by omega)) (br_neg (decide_eq_false (by omega)) ?_)
     rw [hw1, hw2, hw3]
     refine br_neg (decide_eq_false (by omega)) (br_neg (decide_eq_false (by omega)) ⟨m - 1, by omega, ⟨j + 1, hn1, by omega, rfl, rfl, rfl⟩, trivial⟩)
 · have hj : j = s.length := by have := of_decide_eq_false e; omega
   subst hj
   rw [List.take_length]
   exact br_neg rfl ⟨rfl, hx0⟩
theorem uint10_t {s : Bytes} (hs : s.all digitB = true) (h1 : 1 ≤ s.length) (h2 : s.length ≤ 10) : Tri Tryz.prog 187 [vS s, vI 10, vI 64] h fun v h' => v = vT [.int .u64 (numV 10 s : Int), .nilIface] ∧ Ext h h' := by
 refine T187pDQ ?_
 unfold R187pDQ
 refine br_neg (by cases s <;> simp at h1 ⊢) ⟨0, shl_64, ?_⟩
 rw [show IntKind.u64.wrap (0 - 1) = 18446744073709551615 by with_unfolding_all rfl]
 refine Raw.mono (raw_bytes h rfl) ?_
 rintro _ h1' ⟨b, cap, rest, z, rfl, hb, rfl⟩
 refine ⟨_, _, _, rfl, ?_⟩
 have hx0 : Ext h (h.put b (.cells ⟨s.map byteV ++ rest⟩ 5 z)) := Ext.put hb _
 have hb0 : (h.put b (.cells ⟨s.map byteV ++ rest⟩ 5 z)) b = some (.cells ⟨s.map byteV ++ rest⟩ 5 z) := put_same _ _ _
 generalize h.put b (.cells ⟨s.map byteV ++ rest⟩ 5 z) = h1' at *
 refine ⟨fun m c n i h' => ∃ j : Nat, i = (j : Int) ∧ j + m = s.length ∧ c = false ∧ n = (numV 10 (s.take j) : Int) ∧ h' = h1', ⟨s.length, 0, rfl, by omega, rfl, rfl, rfl⟩, ?_⟩
 rintro m _ _ _ h3 ⟨j, rfl, hjm, rfl, rfl, rfl⟩
 refine br_split (fun e => ?_) fun e => ?_
 · have hlt : j < s.length := by have := of_decide_eq_true e; omega
   have hd : digitB s[j] = true := List.all_eq_true.1 hs _ (List.getElem_mem hlt)
   have ht := List.take_append_getElem hlt
   have hall : (s.take j).all digitB = true := by
    rw [List.all_eq_true] at hs ⊢
    exact fun x hx => hs x (List.mem_of_mem_take hx)
   have hN := numV_lt (B := 10) (p := digitB) (fun c hc => by have := hexN_dig ⟨c.toNat, c.toNat_lt⟩; simp only [UInt8.ofNat_toNat] at this; exact this hc) (by omega) (s.take j) hall
   have hN2 : numV 10 (s.take j) < 1099511627776 := by
    refine Nat.lt_of_lt_of_le hN ?_
    have : (s.take j).length ≤ 10 := by rw [List.length_take]; omega
    exact Nat.le_trans (Nat.pow_le_pow_right (by omega) this) (by decide)
   have hs1 := numV_snoc 10 (s.take j) s[j]
   rw [ht] at hs1
   have hdn : hexN s[j] < 10 := by have := hexN_dig ⟨s[j].toNat, s[j].toNat_lt⟩; simp only [UInt8.ofNat_toNat] at this; exact this hd
   have hcell : h3.cell b (0 + ((j : Nat) : Int).toNat * 1) = some (vU (s[j].toNat : Int)) := by
    rw [cell_of hb0, Int.toNat_natCast, List.getElem?_append_left (by simp; omega)]
    simp [hlt, byteV]
   have hn1 : IntKind.i64.wrap ((j : Int) + 1) = ((j + 1 : Nat) : Int) := by rw [wrap64 (by omega) (by omega)]; omega
   have hw1 : IntKind.u64.wrap ((numV 10 (s.take j) : Int) * 10) = ((numV 10 (s.take j) * 10 : Nat) : Int) := by rw [wrapU64 (by omega) (by omega)]; omega
   have hw2 : IntKind.u64.wrap (hexN s[j] : Int) = (hexN s[j] : Int) := wrapU64 (by omega) (by omega)
   have hw3 : IntKind.u64.wrap (((numV 10 (s.take j) * 10 : Nat) : Int) + (hexN s[j] : Int)) = ((numV 10 (s.take (j + 1)) : Nat) : Int) := by rw [wrapU64 (by omega) (by omega), hs1]; omega
   have k := dig_u8 ⟨s[j].toNat, s[j].toNat_lt⟩
   simp only [UInt8.ofNat_toNat] at k
   obtain ⟨k1, k2, k3⟩ := k hd
   refine ⟨b, 0, rfl, ⟨by omega, by omega⟩, _, hcell, br_neg (by simp; omega) ?_⟩
   rw [k1]
   refine br_pos (decide_eq_true (by omega)) (br_pos (decide_eq_true (by omega)) (br_neg (decide_eq_false (by omega)) (br_neg (decide_eq_false (by omega)) ?_)))
   rw [hw1, hw2, hw3]
   refine br_neg (decide_eq_false (by omega)) (br_neg (decide_eq_false (by omega)) ⟨m - 1, by omega, ⟨j + 1, hn1, by omega, rfl, rfl, rfl⟩, trivial⟩)
 · have hj : j = s.length := by have := of_decide_eq_false e; omega
   subst hj
   rw [List.take_length]
   exact br_neg rfl ⟨rfl, hx0⟩
theorem pow10_10 : (10 : Nat) ^ 10 = 10000000000 := by decide
theorem numV_lt10 {s : Bytes} (hs : s.all digitB = true) (h2 : s.length ≤ 10) : numV 10 s < 10000000000 := by
 have hN := numV_lt (B := 10) (p := digitB) (fun c hc => by have := hexN_dig ⟨c.toNat, c.toNat_lt⟩; simp only [UInt8.ofNat_toNat] at this; exact this hc) (by omega) s hs
 exact Nat.lt_of_lt_of_le hN (Nat.le_trans (Nat.pow_le_pow_right (by omega) h2) (by decide))
theorem numV_lt16 {s : Bytes} (hs : s.all hexB = true) (h2 : s.length ≤ 8) : numV 16 s < 4294967296 := by
 have hN := numV_lt (B := 16) (p := hexB) (fun c hc => by have := hexN_lt ⟨c.toNat, c.toNat_lt⟩; simp only [UInt8.ofNat_toNat] at this; exact this hc) (by omega) s hs
 exact Nat.lt_of_lt_of_le hN (Nat.le_trans (Nat.pow_le_pow_right (by omega) h2) (by decide))
theorem first_ne {p : UInt8 → Bool} {s : Bytes} (hs : s.all p = true) (h1 : 1 ≤ s.length) {k : UInt8} (hk : p k = false) : ∃ c r, s = c :: r ∧ ((c.toNat : Int) == (k.toNat : Int)) = false := by
 match s, h1 with
 | c :: r, _ =>
   refine ⟨c, r, rfl, ?_⟩
   simp only [List.all_cons, Bool.and_eq_true] at hs
   rw [u8_beq]
   cases e : c == k with
   | false => rfl
   | true => have e : c = k := by simpa using e
             subst e; rw [hk] at hs; exact absurd hs.1 (by decide)
theorem int16_t {s : Bytes} (hs : s.all hexB = true) (h1 : 1 ≤ s.length) (h2 : s.length ≤ 8) : Tri Tryz.prog 164 [vS s, vI 16, vI 64] h fun v h' => v = vT [vI (numV 16 s : Int), .nilIface] ∧ Ext h h' := by
 have hlt := numV_lt16 hs h2
 refine T164pAQ ?_
 unfold R164pAQ
 suffices hsf : Tri Tryz.prog 179 [vS s, vI 16, vI 64] h fun v h' => v = vT [vI (numV 16 s : Int), .nilIface] ∧ Ext h h' by
  refine Tri.mono hsf ?_
  rintro _ h1 ⟨rfl, hx⟩
  exact ⟨_, _, rfl, false, nil_164, br_neg rfl ⟨rfl, hx⟩⟩
 refine T179pAQ ?_
 unfold R179pAQ
 obtain ⟨c, r, hc, e43⟩ := first_ne hs h1 (k := 43) (by decide)
 obtain ⟨c', r', hc', e45⟩ := first_ne hs h1 (k := 45) (by decide)
 rw [hc] at hc'; injection hc' with hc' _; subst hc'
 refine br_neg (by rw [hc]; rfl) ⟨by decide, c, by rw [hc]; rfl, br_neg e43 (br_neg e45 ?_)⟩
 refine Tri.mono (uint16_t h hs h1 h2) ?_
 rintro _ h1 ⟨rfl, hx⟩
 refine ⟨_, _, rfl, false, nil_179, br_neg rfl ⟨_, shl_63, br_neg (decide_eq_false (by omega)) ⟨?_, hx⟩⟩⟩
 rw [wrap64 (by omega) (by omega)]
theorem int10_t {s : Bytes} (hs : s.all digitB = true) (h1 : 1 ≤ s.length) (h2 : s.length ≤ 10) : Tri Tryz.prog 164 [vS s, vI 10, vI 64] h fun v h' => v = vT [vI (numV 10 s : Int), .nilIface] ∧ Ext h h' := by
 have hlt := numV_lt10 hs h2
 refine T164pDQ ?_
 unfold R164pDQ
 suffices hsf : Tri Tryz.prog 179 [vS s, vI 10, vI 64] h fun v h' => v = vT [vI (numV 10 s : Int), .nilIface] ∧ Ext h h' by
  refine Tri.mono hsf ?_
  rintro _ h1 ⟨rfl, hx⟩
  exact ⟨_, _, rfl, false, nil_164, br_neg rfl ⟨rfl, hx⟩⟩
 refine T179pDQ ?_
 unfold R179pDQ
 obtain ⟨c, r, hc, e43⟩ := first_ne hs h1 (k := 43) (by decide)
 obtain ⟨c', r', hc', e45⟩ := first_ne hs h1 (k := 45) (by decide)
 rw [hc] at hc'; injection hc' with hc' _; subst hc'
 refine br_neg (by rw [hc]; rfl) ⟨by decide, c, by rw [hc]; rfl, br_neg e43 (br_neg e45 ?_)⟩
 refine Tri.mono (uint10_t h hs h1 h2) ?_
 rintro _ h1 ⟨rfl, hx⟩
 refine ⟨_, _, rfl, false, nil_179, br_neg rfl ⟨_, shl_63, br_neg (decide_eq_false (by omega)) ⟨?_, hx⟩⟩⟩
 rw [wrap64 (by omega) (by omega)]
theorem neg10_t {s : Bytes} (hs : s.all digitB = true) (h1 : 1 ≤ s.length) (h2 : s.length ≤ 10) : Tri Tryz.prog 164 [vS (45 :: s), vI 10, vI 64] h fun v h' => v = vT [vI (-(numV 10 s : Int)), .nilIface] ∧ Ext h h' := by
 have hlt := numV_lt10 hs h2
 refine T164pDQ ?_
 unfold R164pDQ
 suffices hsf : Tri Tryz.prog 179 [vS (45 :: s), vI 10, vI 64] h fun v h' => v = vT [vI (-(numV 10 s : Int)), .nilIface] ∧ Ext h h' by
  refine Tri.mono hsf ?_
  rintro _ h1 ⟨rfl, hx⟩
  exact ⟨_, _, rfl, false, nil_164, br_neg rfl ⟨rfl, hx⟩⟩
 refine T179pDQ ?_
 unfold R179pDQ
 refine br_neg rfl ⟨by decide, 45, rfl, br_neg rfl (br_pos rfl ⟨⟨by omega, by simp; omega, Int.le_refl _⟩, ?_⟩)⟩
 have hsl : ((45 :: s).drop 1).take (((45 :: s).length : Int).toNat - 1) = s := by
  rw [List.drop_succ_cons, List.drop_zero, List.take_of_length_le]; simp
 rw [hsl]
 refine Tri.mono (uint10_t h hs h1 h2) ?_
 rintro _ h1 ⟨rfl, hx⟩
 refine ⟨_, _, rfl, false, nil_179, br_neg rfl ⟨_, shl_63, br_neg (decide_eq_false (by omega)) ⟨?_, hx⟩⟩⟩
 rw [wrap64 (n := (numV 10 s : Int)) (by omega) (by omega), wrap64 (by omega) (by omega), Int.zero_sub]
theorem prefix_t (s p : Bytes) : Tri Tryz.prog 186 [vS s, vS p] h fun v h' => v = vB (p.isPrefixOf s) ∧ h' = h := by
 refine T186 ?_
 unfold R186
 have key : p.isPrefixOf s = (decide (p.length ≤ s.length) && s.take p.length == p) := by
  rw [Bool.eq_iff_iff]
  simp only [List.isPrefixOf_iff_prefix, Bool.and_eq_true, decide_eq_true_eq, beq_iff_eq]
  constructor
  · rintro ⟨t, rfl⟩; simp
  · rintro ⟨_, h⟩; exact ⟨s.drop p.length, by conv => lhs; lhs; rw [← h]
                                              exact List.take_append_drop _ _⟩
 refine br_split (fun e => ⟨⟨by omega, by omega, by have := of_decide_eq_true e; omega⟩, ?_, rfl⟩) fun e => ⟨?_, rfl⟩
 · have e := of_decide_eq_true e
   rw [key, decide_eq_true (by omega)]
   simp
 · have e := of_decide_eq_false e
   rw [key, decide_eq_false (by omega)]
   rfl
def numVal (s : Bytes) : Value := match numberS s with
 | some n => vT [vI n, vB true]
 | none => vT [vI 0, vB false]
theorem number_t (s : Bytes) (hl : s.length ≤ 1000000) : Tri Tryz.prog 141 [vS s] h fun v h' => v = numVal s ∧ Ext h h' := by
 refine T141 ?_
 unfold R141
 have cut : Tri Tryz.prog 162 [vS s, vS [48, 120]] h fun v h' => v = (if ([48, 120] : Bytes).isPrefixOf s then vT [vS (s.drop 2), vB true] else vT [vS s, vB false]) ∧ h' = h := by
  refine T162 ?_
  unfold R162
  have c2 : Tri Tryz.prog 178 [vS s, vS [48, 120]] h fun v h' => v = (if ([48, 120] : Bytes).isPrefixOf s then vT [vS (s.drop 2), vB true] else vT [vS s, vB false]) ∧ h' = h := by
   refine T178 ?_
   unfold R178
   refine Tri.mono (prefix_t h s [48, 120]) ?_
   rintro _ h ⟨rfl, rfl⟩
   refine ⟨_, rfl, br_split (fun e => ⟨?_, rfl⟩) fun e => ?_⟩
   · rw [if_neg (by rw [not_f e]; decide)]
   · have e := not_t e
     have hp : 2 ≤ s.length := by
      have := (List.isPrefixOf_iff_prefix.1 e).length_le
      simpa using this
     refine ⟨⟨by decide, by simp; omega, Int.le_refl _⟩, ?_, rfl⟩
     rw [if_pos e]
     have : (s.drop (([48, 120] : Bytes).length : Int).toNat).take ((s.length : Int).toNat - (([48, 120] : Bytes).length : Int).toNat) = s.drop 2 := by
      show (s.drop 2).take _ = _
      rw [List.take_of_length_le]; simp
     rw [this]
  refine Tri.mono c2 ?_
  rintro _ h ⟨rfl, rfl⟩
  by_cases hp : ([48, 120] : Bytes).isPrefixOf s = true
  · rw [if_pos hp]; exact ⟨_, _, rfl, rfl, rfl⟩
  · rw [if_neg hp]; exact ⟨_, _, rfl, rfl, rfl⟩
 refine Tri.mono cut ?_
 rintro _ h ⟨rfl, rfl⟩
 by_cases hp : ([48, 120] : Bytes).isPrefixOf s = true
 · obtain ⟨t, rfl⟩ := List.isPrefixOf_iff_prefix.1 hp
   rw [if_pos hp]
   have hd : ([48, 120] ++ t : Bytes).drop 2 = t := rfl
   rw [hd]
   simp only [List.length_append, List.length_cons, List.length_nil] at hl
   have hn : numberS ([48, 120] ++ t) = if t.length < 1 ∨ 8 < t.length ∨ t.all hexB = false then none else some ((hexV t : Nat) : Int) := rfl
   have none : (t.length < 1 ∨ 8 < t.length ∨ t.all hexB = false) → ∀ h1, Ext h h1 → vT [vI 0, vB false] = numVal ([48, 120] ++ t) ∧ Ext h h1 := fun hc h1 hx => by
    unfold numVal; rw [hn, if_pos hc]; exact ⟨rfl, hx⟩
   refine ⟨_, _, rfl, br_pos rfl (br_split (fun e => none (.inl (by have := of_decide_eq_true e; omega)) h (Ext.refl h)) fun e1 => br_split (fun e => none (.inr (.inl (by have := of_decide_eq_true e; omega))) h (Ext.refl h)) fun e2 => ?_)⟩
   have e1 := of_decide_eq_false e1
   have e2 := of_decide_eq_false e2
   refine Tri.mono (all_t h t (f := 163) (x := []) (y := []) hexB (fun c => hex_t h c) (by omega)) ?_
   rintro _ h ⟨rfl, rfl⟩
   refine ⟨_, rfl, br_split (fun e => none (.inr (.inr (not_f e))) h (Ext.refl h)) fun e3 => ?_⟩
   have e3 := not_t e3
   refine Tri.mono (int16_t h e3 (by omega) (by omega)) ?_
   rintro _ h1 ⟨rfl, hx⟩
   refine ⟨_, _, rfl, true, nil_141a, ?_, hx⟩
   unfold numVal
   rw [hn, if_neg (fun hh => by rcases hh with hh | hh | hh; omega; omega; rw [e3] at hh; cases hh), numV_hex]
 · rw [if_neg hp]
   have trim : Tri Tryz.prog 165 [vS s, vS [45]] h fun v h' => v = vS (if ([45] : Bytes).isPrefixOf s then s.drop 1 else s) ∧ h' = h := by
    refine T165 ?_
    unfold R165
    have c2 : Tri Tryz.prog 181 [vS s, vS [45]] h fun v h' => v = vS (if ([45] : Bytes).isPrefixOf s then s.drop 1 else s) ∧ h' = h := by
     refine T181 ?_
     unfold R181
     refine Tri.mono (prefix_t h s [45]) ?_
     rintro _ h ⟨rfl, rfl⟩
     refine ⟨_, rfl, br_split (fun e => ?_) fun e => ⟨?_, rfl⟩⟩
     · have hp : 1 ≤ s.length := by
        have := (List.isPrefixOf_iff_prefix.1 e).length_le
        simpa using this
       refine ⟨⟨by decide, by simp; omega, Int.le_refl _⟩, ?_, rfl⟩
       rw [if_pos e]
       have : (s.drop (([45] : Bytes).length : Int).toNat).take ((s.length : Int).toNat - (([45] : Bytes).length : Int).toNat) = s.drop 1 := by
        show (s.drop 1).take _ = _
        rw [List.take_of_length_le]; simp
       rw [this]
     · rw [if_neg (by rw [e]; decide)]
    refine Tri.mono c2 ?_
    rintro _ h ⟨rfl, rfl⟩
    exact ⟨_, rfl, rfl, rfl⟩
   refine ⟨_, _, rfl, br_neg rfl ?_⟩
   refine Tri.mono trim ?_
   rintro _ h ⟨rfl, rfl⟩
   refine ⟨_, rfl, ?_⟩
   obtain ⟨d, hd, hdl, hn, hpar⟩ : ∃ d : Bytes, (if ([45] : Bytes).isPrefixOf s then s.drop 1 else s) = d ∧ d.length ≤ s.length ∧
    (∃ f : Nat → Int, numberS s = (decB d).map f ∧ ∀ (h : PHeap), d.all digitB = true → 1 ≤ d.length → d.length ≤ 10 → Tri Tryz.prog 164 [vS s, vI 10, vI 64] h fun v h' => v = vT [vI (f (decN d)), .nilIface] ∧ Ext h h') ∧ True := by
    by_cases h45 : ([45] : Bytes).isPrefixOf s = true
    · obtain ⟨t, rfl⟩ := List.isPrefixOf_iff_prefix.1 h45
      refine ⟨t, by rw [if_pos h45]; rfl, by simp, ⟨fun n => -(n : Int), by show numberS (45 :: t) = _; cases hq : decB t <;> simp [numberS, hq], fun h a b c => ?_⟩, trivial⟩
      have := neg10_t h a b c
      rw [numV_dec a] at this
      exact this
    · refine ⟨s, by rw [if_neg h45], Nat.le_refl _, ⟨fun n => (n : Int), ?_, fun h a b c => ?_⟩, trivial⟩
      · unfold numberS
        split
        · exact absurd (by simp) hp
        · exact absurd (by simp) h45
        · cases decB s <;> rfl
      · have := int10_t h a b c
        rw [numV_dec a] at this
        exact this
   obtain ⟨f, hn, hT⟩ := hn
   rw [hd]
   have none : (d.length < 1 ∨ 10 < d.length ∨ d.all digitB = false) → ∀ h1, Ext h h1 → vT [vI 0, vB false] = numVal s ∧ Ext h h1 := fun hc h1 hx => by
    unfold numVal; rw [hn]; unfold decB; rw [if_pos hc]; exact ⟨rfl, hx⟩
   refine br_split (fun e => none (.inl (by have := of_decide_eq_true e; omega)) h (Ext.refl h)) fun e1 => br_split (fun e => none (.inr (.inl (by have := of_decide_eq_true e; omega))) h (Ext.refl h)) fun e2 => ?_
   have e1 := of_decide_eq_false e1
   have e2 := of_decide_eq_false e2
   refine Tri.mono (all_t h d (f := 53) (x := []) (y := []) digitB (fun c => digit_t h c) (by omega)) ?_
   rintro _ h ⟨rfl, rfl⟩
   refine ⟨_, rfl, br_split (fun e => none (.inr (.inr (not_f e))) h (Ext.refl h)) fun e3 => ?_⟩
   have e3 := not_t e3
   refine Tri.mono (hT h e3 (by omega) (by omega)) ?_
   rintro _ h1 ⟨rfl, hx⟩
   refine ⟨_, _, rfl, true, nil_141b, ?_, hx⟩
   unfold numVal
   rw [hn]
   unfold decB
   rw [if_neg (fun hh => by rcases hh with hh | hh | hh; omega; omega; rw [e3] at hh; cases hh)]; rfl
end
end Go.Proofs.D
namespace Go.Proofs.D
open Go Go.Den Go.As
set_option maxRecDepth 100000
attribute [local irreducible] IntKind.wrap Tri
def lims (op : Nat) : Int × Int := if 4 ≤ form op then limits op else (0, 0)
def OpTab (h : PHeap) : Prop := ∀ op, op < 27 → ∃ u s : Bool, h.row 0 (op * 6) [vS (wordT op), vI (form op), vI (lims op).1, vI (lims op).2, vB u, vB s]
theorem OpTab.ext {h h' : PHeap} (x : Ext h h') (ht : OpTab h) : OpTab h' := fun op ho => let ⟨u, s, hr⟩ := ht op ho; ⟨u, s, row_ext (fun ob => x 0 ob) hr⟩
section
variable (h : PHeap)
def isOpB (i : Int) : Bool := decide (0 ≤ i) && decide (i < 27)
theorem isOp_t (i : Int) : Tri Tryz.prog 98 [vI i] h fun v h' => v = vB (isOpB i) ∧ h' = h := by
 refine T98 ?_
 unfold R98
 refine br_split (fun e => ⟨?_, rfl⟩) fun e => ⟨?_, rfl⟩
 · have : decide (0 ≤ i) = true := e
   rw [isOpB, this, Bool.true_and]
 · have : decide (0 ≤ i) = false := e
   rw [isOpB, this, Bool.false_and]
theorem isOpB_t {i : Int} (h : isOpB i = true) : ∃ k : Nat, i = k ∧ k < 27 := by
 simp only [isOpB, Bool.and_eq_true, decide_eq_true_eq] at h
 exact ⟨i.toNat, by omega, by omega⟩
theorem isOpB_k {k : Nat} (h : k < 27) : isOpB (k : Int) = true := by
 simp only [isOpB, Bool.and_eq_true, decide_eq_true_eq]; omega
theorem num_t (f : Nat) : Tri Tryz.prog 99 [vI (f : Int)] h fun v h' => v = vB (decide (f = 4) || decide (f = 5) || decide (f = 6)) ∧ h' = h := by
 refine T99 ?_
 unfold R99
 have k : ∀ n : Nat, (((f : Nat) : Int) == (n : Int)) = decide (f = n) := fun n => by rw [Bool.eq_iff_iff]; simp; omega
 have k4 := k 4; have k5 := k 5; have k6 := k 6
 refine br_split (fun e => ⟨?_, rfl⟩) fun e => br_split (fun e' => ⟨?_, rfl⟩) fun e' => ⟨?_, rfl⟩
 · rw [← k4]; exact congrArg _ (by rw [show ((f : Int) == ((4 : Nat) : Int)) = true from e]; rfl)
 · rw [← k4, ← k5]; exact congrArg _ (by rw [show ((f : Int) == ((5 : Nat) : Int)) = true from e']; simp)
 · rw [← k4, ← k5, ← k6]; exact congrArg _ (by rw [show ((f : Int) == ((4 : Nat) : Int)) = false from e, show ((f : Int) == ((5 : Nat) : Int)) = false from e']; rfl)
theorem form_t (ht : OpTab h) {k : Nat} (hk : k < 27) : Tri Tryz.prog 59 [vI (k : Int)] h fun v h' => v = vT [vI (form k), vI 0] ∧ h' = h := by
 refine T59 ?_
 unfold R59
 refine Tri.mono (isOp_t h _) ?_
 rintro _ h ⟨rfl, rfl⟩
 obtain ⟨u, s, hr⟩ := ht k hk
 refine ⟨_, rfl, br_neg (by rw [isOpB_k hk]; rfl) ⟨⟨by omega, by omega⟩, _, ?_, rfl, rfl⟩⟩
 have := row_get (j := 1) hr rfl
 simpa using this
theorem opword_t (ht : OpTab h) {k : Nat} (hk : k < 27) : Tri Tryz.prog 61 [vI (k : Int)] h fun v h' => v = vS (wordT k) ∧ h' = h := by
 refine T61 ?_
 unfold R61
 refine Tri.mono (isOp_t h _) ?_
 rintro _ h ⟨rfl, rfl⟩
 obtain ⟨u, s, hr⟩ := ht k hk
 refine ⟨_, rfl, br_neg (by rw [isOpB_k hk]; rfl) ⟨⟨by omega, by omega⟩, _, ?_, rfl, rfl⟩⟩
 have := row_get (j := 0) hr rfl
 simpa using this
theorem limits_t (ht : OpTab h) {k : Nat} (hk : k < 27) (hf : 4 ≤ form k) : Tri Tryz.prog 114 [vI (k : Int)] h fun v h' => v = vT [vI (limits k).1, vI (limits k).2, vI 0] ∧ h' = h := by
 refine T114 ?_
 unfold R114
 refine Tri.mono (isOp_t h _) ?_
 rintro _ h ⟨rfl, rfl⟩
 obtain ⟨u, s, hr⟩ := ht k hk
 have h1 := row_get (j := 1) hr rfl
 have h2 := row_get (j := 2) hr rfl
 have h3 := row_get (j := 3) hr rfl
 have hl : lims k = limits k := by unfold lims; rw [if_pos hf]
 rw [hl] at h2 h3
 have h6 := form_le k
 refine ⟨_, rfl, br_neg (by rw [isOpB_k hk]; rfl) ⟨⟨by omega, by omega⟩, _, (by simpa using h1), ?_⟩⟩
 refine Tri.mono (num_t h _) ?_
 rintro _ h ⟨rfl, rfl⟩
 refine ⟨_, rfl, br_neg ?_ ⟨⟨by omega, by omega⟩, _, (by simpa using h2), ⟨by omega, by omega⟩, _, (by simpa using h3), rfl, rfl⟩⟩
 simp; omega
theorem nops_t (ht : OpTab h) {k : Nat} (hk : k < 27) : Tri Tryz.prog 84 [vI (k : Int)] h fun v h' => v = vI (operandsN k) ∧ h' = h := by
 refine T84 ?_
 unfold R84
 refine Tri.mono (form_t h ht hk) ?_
 rintro _ h ⟨rfl, rfl⟩
 refine ⟨_, _, rfl, ?_⟩
 have h6 := form_le k
 unfold operandsN
 have hf7 : form k = 0 ∨ form k = 1 ∨ form k = 2 ∨ form k = 3 ∨ form k = 4 ∨ form k = 5 ∨ form k = 6 := by omega
 rcases hf7 with e | e | e | e | e | e | e <;> rw [e]
 · exact ⟨rfl, rfl⟩
 · exact ⟨rfl, rfl⟩
 · exact ⟨rfl, rfl⟩
 · exact ⟨rfl, rfl⟩
 · exact ⟨rfl, rfl⟩
 · exact ⟨rfl, rfl⟩
 · exact ⟨rfl, rfl⟩
theorem hasA_t (f : Nat) (hf : f ≤ 6) : Tri Tryz.prog 100 [vI (f : Int)] h fun v h' => v = vB (hasA f) ∧ h' = h := by
 refine T100 ?_
 unfold R100
 have hf7 : f = 0 ∨ f = 1 ∨ f = 2 ∨ f = 3 ∨ f = 4 ∨ f = 5 ∨ f = 6 := by omega
 rcases hf7 with e | e | e | e | e | e | e <;> subst e <;> exact ⟨rfl, rfl⟩
theorem hasB_t (f : Nat) (hf : f ≤ 6) : Tri Tryz.prog 101 [vI (f : Int)] h fun v h' => v = vB (hasB f) ∧ h' = h := by
 refine T101 ?_
 unfold R101
 have hf7 : f = 0 ∨ f = 1 ∨ f = 2 ∨ f = 3 ∨ f = 4 ∨ f = 5 ∨ f = 6 := by omega
 rcases hf7 with e | e | e | e | e | e | e <;> subst e <;> exact ⟨rfl, rfl⟩
def isR (n : Int) : Bool := decide (0 ≤ n) && decide (n < 8)
theorem isReg_t (i : Int) : Tri Tryz.prog 102 [vI i] h fun v h' => v = vB (isR i) ∧ h' = h := by
 refine T102 ?_
 unfold R102
 refine br_split (fun e => ⟨?_, rfl⟩) fun e => ⟨?_, rfl⟩
 · have : decide (0 ≤ i) = true := e
   rw [isR, this, Bool.true_and]
 · have : decide (0 ≤ i) = false := e
   rw [isR, this, Bool.false_and]
theorem isR_t {i : Int} (h : (!isR i) = false) : 0 ≤ i ∧ i ≤ 7 := by
 have h := not_t h
 simp only [isR, Bool.and_eq_true, decide_eq_true_eq] at h; omega
theorem isR_f {i : Int} (h : (!isR i) = true) : i < 0 ∨ 7 < i := by
 have h := not_f h
 simp only [isR, Bool.and_eq_false_iff, decide_eq_false_iff_not] at h; omega
theorem cond_or {c : Bool} {X Y : Prop} (h1 : c = true → X) (h2 : c = false → Y) : br c X Y := br_split h1 h2
theorem checkI_at {k : Nat} (hk : k < 27) (a b c : Int) : checkI ⟨k, a, b, c⟩ = if (!hasA (form k) && a != 0) || (!hasB (form k) && b != 0) || (!hasC (form k) && c != 0) then 1
 else if a < 0 ∨ 7 < a ∨ b < 0 ∨ 7 < b ∨ (hasC (form k) = true ∧ (c < (if 4 ≤ form k then limits k else (0, 7)).1 ∨ (if 4 ≤ form k then limits k else (0, 7)).2 < c)) then 2 else 0 := by
 unfold checkI
 rw [if_neg (by simp only; omega)]
 simp only [Int.toNat_natCast]
theorem icheck_t (ht : OpTab h) (x : Ins) : Tri Tryz.prog 46 [vA [vI x.op, vI x.a, vI x.b, vI x.c]] h fun v h' => v = vI (checkI x : Int) ∧ h' = h := by
 refine T46 ?_
 unfold R46
 refine Tri.mono (isOp_t h _) ?_
 rintro _ h ⟨rfl, rfl⟩
 refine ⟨_, rfl, br_split (fun e => ⟨?_, rfl⟩) fun e => ?_⟩
 · have e := not_f e
   unfold checkI
   rw [if_pos]
   · rfl
   · simp only [isOpB, Bool.and_eq_false_iff, decide_eq_false_iff_not] at e; omega
 obtain ⟨k, hk1, hk⟩ := isOpB_t (not_t e)
 obtain ⟨xo, a, b, c⟩ := x
 simp only at hk1
 subst hk1
 obtain ⟨u, s, hr⟩ := ht k hk
 have hlims : 4 ≤ form k → lims k = limits k := fun hf => by unfold lims; rw [if_pos hf]
 refine ⟨⟨by show (0 : Int) ≤ (k : Int); omega, by show (k : Int) < 27; omega⟩, _, _, _, _, _, _, (by simpa using hr), ?_⟩
 rw [checkI_at hk]
 have h6 := form_le k
 have hf7 : form k = 0 ∨ form k = 1 ∨ form k = 2 ∨ form k = 3 ∨ form k = 4 ∨ form k = 5 ∨ form k = 6 := by omega
 generalize form k = f at *
 rcases hf7 with e | e | e | e | e | e | e <;> subst e
 all_goals first | rw [hlims (by decide)] | skip
 all_goals simp only [hasA, hasB, hasC]
 all_goals repeat' first
  | (refine Tri.mono (num_t _ 0) ?_; rintro _ h ⟨rfl, rfl⟩; refine ⟨_, rfl, ?_⟩)
  | (refine Tri.mono (num_t _ 1) ?_; rintro _ h ⟨rfl, rfl⟩; refine ⟨_, rfl, ?_⟩)
  | (refine Tri.mono (num_t _ 2) ?_; rintro _ h ⟨rfl, rfl⟩; refine ⟨_, rfl, ?_⟩)
  | (refine Tri.mono (num_t _ 3) ?_; rintro _ h ⟨rfl, rfl⟩; refine ⟨_, rfl, ?_⟩)
  | (refine Tri.mono (num_t _ 4) ?_; rintro _ h ⟨rfl, rfl⟩; refine ⟨_, rfl, ?_⟩)
  | (refine Tri.mono (num_t _ 5) ?_; rintro _ h ⟨rfl, rfl⟩; refine ⟨_, rfl, ?_⟩)
  | (refine Tri.mono (num_t _ 6) ?_; rintro _ h ⟨rfl, rfl⟩; refine ⟨_, rfl, ?_⟩)
  | refine br_pos (by decide) ?_
  | refine br_neg (by decide) ?_
  | (refine Tri.mono (hasA_t _ _ (by decide)) ?_; rintro _ h ⟨rfl, rfl⟩; refine ⟨_, rfl, ?_⟩)
  | (refine Tri.mono (hasB_t _ _ (by decide)) ?_; rintro _ h ⟨rfl, rfl⟩; refine ⟨_, rfl, ?_⟩)
  | (refine Tri.mono (isReg_t _ _) ?_; rintro _ h ⟨rfl, rfl⟩; refine ⟨_, rfl, ?_⟩)
  | (refine br_split (fun e => ?_) fun e => ?_)
 all_goals refine ⟨?_, rfl⟩
 all_goals simp only [bne_iff_ne, ne_eq, bne_eq_false_iff_eq, isR, Bool.not_eq_true', Bool.not_eq_false', Bool.and_eq_true, Bool.and_eq_false_iff, decide_eq_true_eq, decide_eq_false_iff_not] at *
 all_goals first
  | (rw [if_pos (by simp <;> omega)]; done)
  | (rw [if_pos (by simp <;> omega)]; rfl)
  | (rw [if_neg (by simp <;> omega), if_pos (by simp <;> omega)]; rfl)
  | (rw [if_neg (by simp <;> omega), if_neg (by simp <;> omega)]; rfl)
end
end Go.Proofs.D
namespace Go.Den
open Go
section
variable {P : Program} {h : PHeap} {f : Operand → Value}
theorem raw_makeMap {t ty : TypeId} {Q : Value → PHeap → Prop} (hq : ∀ b, h b = none → Q (.map (some b)) (h.put b (.map ⟨[]⟩ 0))) : Raw P (execOp f (mkO (.makeMap t none) ty)) h Q := by
 intro w hs
 refine ⟨.value (.map (some w.heap.size)), .map (some w.heap.size), w.alloc (.map ⟨[]⟩ 0), h.put w.heap.size (.map ⟨[]⟩ 0), ?_, .inl rfl, hq _ hs.fresh, hs.allocReal _, Keep.allocReal w h _⟩
 rfl
theorem beq_bytesS (a b : List UInt8) : ((⟨⟨a⟩⟩ : ByteArray) == ⟨⟨b⟩⟩) = (a == b) := by
 show ((⟨a⟩ : Array UInt8) == ⟨b⟩) = (a == b)
 rw [Bool.eq_iff_iff, beq_iff_eq, beq_iff_eq]
 constructor
 · intro e; cases e; rfl
 · rintro rfl; rfl
def ents (L : List (List UInt8 × Value × Nat)) : List MapEntry := L.map fun x => ⟨vS x.1, x.2.1, x.2.2⟩
def findS (k : List UInt8) : List (List UInt8 × Value × Nat) → Nat → Option (Nat × Value)
 | [], _ => none
 | (k', v, _) :: L, i => if k == k' then some (i, v) else findS k L (i + 1)
def mapGet (L : List (List UInt8 × Value × Nat)) (k : List UInt8) : Option Value := (findS k L 0).map (·.2)
theorem findNow_S (k : List UInt8) : ∀ (L : List (List UInt8 × Value × Nat)) (i : Nat), Instr.findNow .string (vS k) (ents L) i = some (findS k L i)
 | [], _ => rfl
 | (k', v, b) :: L, i => by
   simp only [ents, List.map_cons, Instr.findNow, Instr.sameNow, beq_bytesS, findS]
   cases e : k == k' with
   | true => rfl
   | false =>
     simp only [Bool.false_eq_true, if_false]
     exact findNow_S k L (i + 1)
theorem checkKey_S {t : TypeId} (hu : P.underlying t = some .string) (e : Bool) (v : Value) (w : World) : (Instr.checkKey e 10000 t v).run P w = .ok () w := by
 have : Instr.checkKey e 10000 t v = Instr.checkKey e (9999 + 1) t v := rfl
 rw [this, Instr.checkKey]
 simp [run_underlying hu]
def getD2 (z : Value) : Option Value → Value
 | some v => v
 | none => z
theorem raw_lookupS {t key elem ty : TypeId} {ok : Bool} {m k : Operand} {r clock : Nat} {L : List (List UInt8 × Value × Nat)} {lk : List UInt8} {z : Value}
 (hu : P.underlying t = some (.map key elem)) (hks : P.underlying key = some .string) (hz : zeroT P elem = some z) (hm : f m = vM r) (hk : f k = vS lk) (hr : h r = some (.map ⟨ents L⟩ clock)) :
 Raw P (execOp f (mkO (.lookup t m k ok) ty)) h fun v h' => v = (if ok then vT [getD2 z (mapGet L lk), vB (mapGet L lk).isSome] else getD2 z (mapGet L lk)) ∧ h = h' := by
 intro w hs
 have hw := hs _ _ hr
 have hfn := findNow_S lk L 0
 have hgo : (getObj r).run P w = .ok (.map ⟨ents L⟩ clock) w := by simp [getObj, Sem.run, hw]
 have hzr : (zeroValue elem).run P w = .ok z w := by
  unfold zeroT at hz
  cases hi : P.info? elem with
  | none => rw [hi] at hz; cases hz
  | some i => rw [hi] at hz; simp at hz; simp [zeroValue, typeInfo, program, Sem.run, hi, hz]
 refine ⟨_, _, w, h, ?_, .inl rfl, ⟨rfl, rfl⟩, hs, Keep.refl w h⟩
 unfold mapGet
 cases hres : findS lk L 0 with
 | none => rw [hres] at hfn; cases ok <;> simp [execOp, mkO, Instr.lookup, run_underlying hu, hm, hk, hgo, checkKey_S hks, Instr.findKey, run_underlying hks, hfn, hzr, getD2]
 | some p => obtain ⟨i, v⟩ := p; rw [hres] at hfn; cases ok <;> simp [execOp, mkO, Instr.lookup, run_underlying hu, hm, hk, hgo, checkKey_S hks, Instr.findKey, run_underlying hks, hfn, getD2]
theorem setObj_keepS {w : World} {r : Nat} {o o2 : Obj} (hs : Sub w h) (hr : h r = some o) : Sub { w with heap := w.heap.setIfInBounds r o2 } (h.put r o2) ∧ Keep w h { w with heap := w.heap.setIfInBounds r o2 } (h.put r o2) := by
 have hw := hs _ _ hr
 have hlt := (Array.getElem?_eq_some_iff.1 hw).1
 refine ⟨fun k o' hk => ?_, rfl, rfl, rfl, by simp, fun k hk hn => ?_⟩
 · simp only [PHeap.put] at hk
   split at hk
   · rename_i e; subst e; cases hk; simp [hlt]
   · rename_i e
     show (w.heap.setIfInBounds r o2)[k]? = _
     rw [Array.getElem?_setIfInBounds_ne (Ne.symm e)]; exact hs _ _ hk
 · have : k ≠ r := fun e => by subst e; rw [hr] at hn; cases hn
   refine ⟨by simp only [PHeap.put]; rw [if_neg this]; exact hn, ?_⟩
   show (w.heap.setIfInBounds r o2)[k]? = _
   rw [Array.getElem?_setIfInBounds_ne (Ne.symm this)]
def mapSet (k : List UInt8) (x : Value) (ck : Nat) : List (List UInt8 × Value × Nat) → List (List UInt8 × Value × Nat)
 | [] => [(k, x, ck)]
 | (k', v, b) :: L => if k == k' then (k, x, b) :: L else (k', v, b) :: mapSet k x ck L
theorem findS_shift (k : List UInt8) : ∀ (L : List (List UInt8 × Value × Nat)) (i j : Nat), findS k L (i + j) = (findS k L i).map fun p => (p.1 + j, p.2)
 | [], _, _ => rfl
 | (k', v, b) :: L, i, j => by
   simp only [findS]
   cases e : k == k' with
   | true => rfl
   | false =>
     have := findS_shift k L (i + 1) j
     rw [show i + 1 + j = i + j + 1 by omega] at this
     simpa using this
theorem mapGet_cons (k' : List UInt8) (v : Value) (b : Nat) (L : List (List UInt8 × Value × Nat)) (k : List UInt8) : mapGet ((k', v, b) :: L) k = if k == k' then some v else mapGet L k := by
 simp only [mapGet, findS]
 cases e : k == k' with
 | true => rfl
 | false =>
   have := findS_shift k L 0 1
   rw [Nat.zero_add] at this
   simp only [Nat.zero_add, Bool.false_eq_true, if_false]
   rw [this]; cases findS k L 0 <;> rfl
theorem mapGet_set (k : List UInt8) (x : Value) (ck : Nat) (k2 : List UInt8) : ∀ (L : List (List UInt8 × Value × Nat)), mapGet (mapSet k x ck L) k2 = if k2 == k then some x else mapGet L k2
 | [] => by simp [mapSet, mapGet_cons]
 | (k', v, b) :: L => by
   simp only [mapSet]
   cases e : k == k' with
   | true =>
     have e : k = k' := by simpa using e
     subst e
     simp only [if_true, mapGet_cons]
     cases k2 == k <;> rfl
   | false =>
     simp only [Bool.false_eq_true, if_false, mapGet_cons, mapGet_set k x ck k2 L]
     cases e2 : k2 == k' with
     | true =>
       have e2 : k2 = k' := by simpa using e2
       subst e2
       have : (k2 == k) = false := by rw [Bool.beq_comm]; exact e
       simp [this]
     | false => rfl
theorem set_ents (k : List UInt8) (x : Value) (ck : Nat) : ∀ (L : List (List UInt8 × Value × Nat)), (∀ i v, findS k L 0 = some (i, v) → (ents L).modify i (fun e => { e with key := vS k, val := x }) = ents (mapSet k x ck L) ∧ ∃ e, (ents L)[i]? = some e ∧ e.key = vS k) ∧
 (findS k L 0 = none → ents L ++ [⟨vS k, x, ck⟩] = ents (mapSet k x ck L))
 | [] => ⟨(fun i v h => by cases h), fun _ => rfl⟩
 | (k', v', b) :: L => by
   obtain ⟨h1, h2⟩ := set_ents k x ck L
   simp only [findS, mapSet]
   cases e : k == k' with
   | true =>
     have e : k = k' := by simpa using e
     subst e
     refine ⟨fun i v h => ?_, fun h => by simp at h⟩
     simp at h
     obtain ⟨rfl, rfl⟩ := h
     exact ⟨rfl, _, rfl, rfl⟩
   | false =>
     have hs := findS_shift k L 0 1
     simp only [Nat.zero_add] at hs
     simp only [Nat.zero_add, Bool.false_eq_true, if_false, hs]
     refine ⟨fun i v h => ?_, fun h => ?_⟩
     · cases hf : findS k L 0 with
       | none => rw [hf] at h; cases h
       | some p =>
         obtain ⟨j, u⟩ := p
         rw [hf] at h; simp at h
         obtain ⟨rfl, rfl⟩ := h
         obtain ⟨g1, g2⟩ := h1 j u hf
         exact ⟨by simpa [ents] using g1, by simpa [ents] using g2⟩
     · cases hf : findS k L 0 with
       | none => simpa [ents] using h2 hf
       | some p => rw [hf] at h; cases h
theorem raw_updS {t key elem ty : TypeId} {m k v : Operand} {op : Op} {r clock : Nat} {L : List (List UInt8 × Value × Nat)} {lk : List UInt8} {x : Value}
 (hop : op = .mapUpdate t m k v ∨ op = .insert t m k v) (hu : P.underlying t = some (.map key elem)) (hks : P.underlying key = some .string) (hm : f m = vM r) (hk : f k = vS lk) (hv : f v = x) (hr : h r = some (.map ⟨ents L⟩ clock)) :
 Raw P (execOp f (mkO op ty)) h fun v h' => v = vT [] ∧ ∃ ck, h' = h.put r (.map ⟨ents (mapSet lk x clock L)⟩ ck) ∧ (mapGet L lk = none → ck = clock + 1) := by
 intro w hs
 have hw := hs _ _ hr
 have hfn := findNow_S lk L 0
 have hgo : (getObj r).run P w = .ok (.map ⟨ents L⟩ clock) w := by simp [getObj, Sem.run, hw]
 have hso : ∀ o, (setObj r o).run P w = .ok () { w with heap := w.heap.setIfInBounds r o } := fun o => by simp [setObj, Sem.run, hw]
 have hset := set_ents lk x clock L
 cases hres : findS lk L 0 with
 | none =>
   rw [hres] at hfn
   obtain ⟨k1, k2⟩ := setObj_keepS (o2 := .map ⟨ents (mapSet lk x clock L)⟩ (clock + 1)) hs hr
   refine ⟨.skip, undef, _, _, ?_, .inr ⟨rfl, rfl⟩, ⟨rfl, clock + 1, rfl, fun _ => rfl⟩, k1, k2⟩
   rw [← hset.2 hres]
   rcases hop with rfl | rfl <;> simp [execOp, mkO, hm, hk, hv, Instr.mapUpdate, run_underlying hu, hgo, checkKey_S hks, Instr.findKey, run_underlying hks, hfn, hso]
 | some p =>
   obtain ⟨i, u⟩ := p
   rw [hres] at hfn
   obtain ⟨g1, e, he, hek⟩ := hset.1 i u hres
   obtain ⟨k1, k2⟩ := setObj_keepS (o2 := .map ⟨ents (mapSet lk x clock L)⟩ clock) hs hr
   refine ⟨.skip, undef, _, _, ?_, .inr ⟨rfl, rfl⟩, ⟨rfl, clock, rfl, fun hn => by simp [mapGet, hres] at hn⟩, k1, k2⟩
   rw [← g1]
   have hsb : Instr.sameBits 10000 e.key (vS lk) = true := by rw [hek]; simp [Instr.sameBits, beq_bytesS]
   rcases hop with rfl | rfl <;> simp [execOp, mkO, hm, hk, hv, Instr.mapUpdate, run_underlying hu, hgo, checkKey_S hks, Instr.findKey, run_underlying hks, hfn, hso, he, Instr.keyThatStays, hsb]
end
end Go.Den
namespace Go.Proofs.D
open Go Go.Den Go.As
set_option maxRecDepth 100000
attribute [local irreducible] IntKind.wrap Tri
theorem LM.keep {e k : Nat} {h0 h h' : PHeap} {a : Option Addr} {n c : Nat} {css : List (List Value)} (hk : ∀ b, a = ad b 0 → h' b = h b) (hL : LM e k h0 h a n c css) : LM e k h0 h' a n c css := by
 obtain ⟨h2, h3, h4, h5, h6⟩ := hL
 exact ⟨fun b hb => ⟨(h2 b hb).1, by rw [hk b hb]; exact (h2 b hb).2⟩, h3, h4, Own.keep hk h5, h6⟩
def NotE (e : Nat) (o : Obj) : Prop := ∀ l z, o ≠ .cells l e z
theorem notE_cells {e t : Nat} (h : t ≠ e) (l : Array Value) (z : Nat × Nat) : NotE e (.cells l t z) := fun l' z' he => by
 injection he with _ h2 _; exact h h2
theorem notE_map {e : Nat} (l : Array MapEntry) (c : Nat) : NotE e (.map l c) := fun _ _ he => by cases he
section
variable {e k : Nat} {h0 h h2 : PHeap} {a : OA} {n c : Nat} {css : List (List Value)}
theorem LM.block (hM : LM e k h0 h a n c css) {b : Nat} (hb : a = ad b 0) : ∃ l, h b = some (.cells l e (0, 0)) := by
 rcases hM.row.2 with ⟨h1, _⟩ | ⟨b', cap, rest, h1, h2, _, _⟩
 · injection h1 with h1 _ _; rw [hb] at h1; cases h1
 · injection h1 with h1 _ _
   rw [hb] at h1; injection h1 with h1; injection h1 with h1 _ _
   subst h1; exact ⟨_, h2⟩
theorem LM.ne (hM : LM e k h0 h a n c css) {q : Nat} {o : Obj} (hq : h q = some o) (ho : NotE e o) : ∀ b, a = ad b 0 → b ≠ q := fun b hb hbq => by
 subst hbq
 obtain ⟨l, hl⟩ := hM.block hb
 rw [hq] at hl; injection hl with hl
 exact ho _ _ hl
theorem LM.put (hM : LM e k h0 h a n c css) {q : Nat} {o o' : Obj} (hq : h q = some o) (ho : NotE e o) : LM e k h0 (h.put q o') a n c css :=
 LM.keep (fun b hb => put_ne (hM.ne hq ho b hb)) hM
theorem Grows.ne {a : OA} {b : Nat} (hg : Grows a h h2 b) (hM : LM e k h0 h a n c css) {q : Nat} {o : Obj} (hq : h q = some o) (ho : NotE e o) : h2 q = h q := by
 refine hg.1 q fun hqb => ?_
 subst hqb
 rcases hg.2 with h1 | h1
 · rw [hq] at h1; cases h1
 · exact hM.ne hq ho q h1 rfl
theorem LM.other {e2 k2 n2 c2 : Nat} {a2 : OA} {css2 : List (List Value)} {b : Nat} (hM2 : LM e2 k2 h0 h a2 n2 c2 css2) (hM : LM e k h0 h a n c css) (he : e2 ≠ e) (hg : Grows a h h2 b) : LM e2 k2 h0 h2 a2 n2 c2 css2 :=
 LM.keep (fun q hq => by
  obtain ⟨l, hl⟩ := hM2.block hq
  exact hg.ne hM hl (notE_cells he _ _)) hM2
end
def insC (x : Ins) : List Value := [vI x.op, vI x.a, vI x.b, vI x.c]
def inL (l : List Ins) : List (List Value) := l.map insC
def lbV (l : Lb) : Value := vA [vS l.name, vB l.data, vI l.off]
def labE : Nat → List Lb → List (Bytes × Value × Nat)
 | _, [] => []
 | i, l :: ls => (l.name, lbV l, i) :: labE (i + 1) ls
def PA (mS : Nat) (ca : OA) (cn cc : Nat) (zero entry : Int) (da : OA) (dn dc : Nat) (ind he hz : Bool) (mb : Nat) (line : Int) (ua : OA) (un uc : Nat) : Obj :=
 .cells ⟨[vM mS, vL ca cn cc, vS [], vI zero, vI entry, vL none 0 0, vL da dn dc, vB ind, vB he, vB hz, vM mb, vI line, vL ua un uc]⟩ 74 (0, 0)
def PutAt (hb : PHeap) (p kind idx f : Nat) (y : List Value) : Prop :=
 (kind = 2 ∧ f = 109 ∧ ∃ c, y = [vP c 0] ∧ hb.cell c 0 = some (vP p 0)) ∨
 (kind = 1 ∧ f = 112 ∧ ∃ c d, y = [vP c 0, vP d 0] ∧ hb.cell c 0 = some (vP p 0) ∧ hb.cell d 0 = some (vI (idx : Int))) ∨
 (kind = 0 ∧ f = 115 ∧ ∃ c d, y = [vP c 0, vP d 0] ∧ hb.cell c 0 = some (vP p 0) ∧ hb.cell d 0 = some (vI (idx : Int)))
def lowM (u : Us) : Int := if u.kind = 2 then -4611686018427387904 else u.low
def highM (u : Us) : Int := if u.kind = 2 then 4611686018427387904 else u.high
def UseAt (hb : PHeap) (p : Nat) (u : Us) (cs : List Value) : Prop :=
 ∃ b1 b2 b3 b4 b5 f y, cs = [vI (u.line : Int), vF 142 [] [vP b1 0, vP b2 0, vP b3 0, vP b4 0, vP b5 0]] ∧ hb.cell b1 0 = some (vP p 0) ∧ hb.cell b2 0 = some (vS u.name) ∧
   hb.cell b3 0 = some (vI (lowM u)) ∧ hb.cell b4 0 = some (vI (highM u)) ∧ hb.cell b5 0 = some (vF f [] y) ∧ PutAt hb p u.kind u.idx f y
theorem PutAt.ext {hb hb' : PHeap} {p kind idx f : Nat} {y : List Value} (x : Ext hb hb') (hP : PutAt hb p kind idx f y) : PutAt hb' p kind idx f y := by
 rcases hP with ⟨h0, h1, c, h2, h3⟩ | ⟨h0, h1, c, d, h2, h3, h4⟩ | ⟨h0, h1, c, d, h2, h3, h4⟩
 · exact .inl ⟨h0, h1, c, h2, cell_ext (fun ob => x c ob) h3⟩
 · exact .inr (.inl ⟨h0, h1, c, d, h2, cell_ext (fun ob => x c ob) h3, cell_ext (fun ob => x d ob) h4⟩)
 · exact .inr (.inr ⟨h0, h1, c, d, h2, cell_ext (fun ob => x c ob) h3, cell_ext (fun ob => x d ob) h4⟩)
theorem UseAt.ext {hb hb' : PHeap} {p : Nat} {u : Us} {cs : List Value} (x : Ext hb hb') (hU : UseAt hb p u cs) : UseAt hb' p u cs := by
 obtain ⟨b1, b2, b3, b4, b5, f, y, h0, h1, h2, h3, h4, h5, h6⟩ := hU
 exact ⟨b1, b2, b3, b4, b5, f, y, h0, cell_ext (fun ob => x b1 ob) h1, cell_ext (fun ob => x b2 ob) h2, cell_ext (fun ob => x b3 ob) h3, cell_ext (fun ob => x b4 ob) h4, cell_ext (fun ob => x b5 ob) h5, h6.ext x⟩
def UsesAt (hb : PHeap) (p : Nat) (us : List Us) (ul : List (List Value)) : Prop := us.length = ul.length ∧ ∀ (j : Nat) (u : Us) (cs : List Value), us[j]? = some u → ul[j]? = some cs → UseAt hb p u cs
theorem UsesAt.ext {hb hb' : PHeap} {p : Nat} {us : List Us} {ul : List (List Value)} (x : Ext hb hb') (hU : UsesAt hb p us ul) : UsesAt hb' p us ul :=
 ⟨hU.1, fun j u cs h1 h2 => (hU.2 j u cs h1 h2).ext x⟩
theorem UsesAt.snoc {hb : PHeap} {p : Nat} {us : List Us} {ul : List (List Value)} {u : Us} {cs : List Value} (hU : UsesAt hb p us ul) (hu : UseAt hb p u cs) : UsesAt hb p (us ++ [u]) (ul ++ [cs]) := by
 refine ⟨by simp [hU.1], fun j u' cs' h1 h2 => ?_⟩
 by_cases hj : j < us.length
 · rw [List.getElem?_append_left hj] at h1
   rw [List.getElem?_append_left (by rw [← hU.1]; exact hj)] at h2
   exact hU.2 j u' cs' h1 h2
 · have : j = us.length := by
    have := (List.getElem?_eq_some_iff.1 h1).1
    simp at this; omega
   subst this
   have e1 : u' = u := by simpa using h1.symm
   have e2 : cs' = cs := by rw [hU.1] at h2; simpa using h2.symm
   subst e1; subst e2; exact hu
structure AK where
 ca : OA
 cc : Nat
 da : OA
 dc : Nat
 ua : OA
 uc : Nat
 mb : Nat
 ul : List (List Value)
structure ASK (hb h : PHeap) (p mS : Nat) (a : As.St) (K : AK) : Prop where
 ext : Ext hb h
 new : hb p = none
 obj : h p = some (PA mS K.ca a.p.code.length K.cc a.p.zero a.p.entry K.da a.p.data.length K.dc a.inData a.hasEntry a.hasZero K.mb a.line K.ua a.uses.length K.uc)
 code : LM 58 4 hb h K.ca a.p.code.length K.cc (inL a.p.code)
 data : LM 5 1 hb h K.da a.p.data.length K.dc (bL a.p.data)
 uses : LM 78 2 hb h K.ua a.uses.length K.uc K.ul
 useAt : UsesAt hb p a.uses K.ul
 mnew : hb K.mb = none
 labs : h K.mb = some (.map ⟨ents (labE 0 a.p.labels)⟩ a.p.labels.length)
def AS (hb h : PHeap) (p mS : Nat) (a : As.St) : Prop := ∃ K, ASK hb h p mS a K
section
variable {hb h h' : PHeap} {p mS : Nat} {a : As.St} {K : AK}
theorem PA_cell {ca : OA} {cn cc : Nat} {zero entry : Int} {da : OA} {dn dc : Nat} {ind he hz : Bool} {mb : Nat} {line : Int} {ua : OA} {un uc : Nat} (hp : h p = some (PA mS ca cn cc zero entry da dn dc ind he hz mb line ua un uc)) (o : Nat) :
 h.cell p o = ([vM mS, vL ca cn cc, vS [], vI zero, vI entry, vL none 0 0, vL da dn dc, vB ind, vB he, vB hz, vM mb, vI line, vL ua un uc])[o]? := cell_of hp o
theorem AS.line (hA : AS hb h p mS a) : h.cell p 11 = some (vI a.line) := by
 obtain ⟨K, hA⟩ := hA
 rw [PA_cell hA.obj]; rfl
theorem AS.ext (hA : AS hb h p mS a) : Ext hb h := by
 obtain ⟨K, hA⟩ := hA
 exact hA.ext
theorem ASK.grow (x : Ext h h') (hA : ASK hb h p mS a K) : ASK hb h' p mS a K :=
 ⟨hA.ext.trans x, hA.new, x _ _ hA.obj, hA.code.ext x, hA.data.ext x, hA.uses.ext x, hA.useAt, hA.mnew, x _ _ hA.labs⟩
theorem AS.grow (x : Ext h h') (hA : AS hb h p mS a) : AS hb h' p mS a := by
 obtain ⟨K, hA⟩ := hA
 exact ⟨K, hA.grow x⟩
open Classical in
def AK.mut (K : AK) (p q : Nat) : Prop := q = p ∨ q = K.mb ∨ K.ca = ad q 0 ∨ K.da = ad q 0 ∨ K.ua = ad q 0
open Classical in
noncomputable def less (K : AK) (p : Nat) (h : PHeap) : PHeap := fun q => if K.mut p q then none else h q
theorem less_mut {q : Nat} (hq : K.mut p q) : less K p h q = none := if_pos hq
theorem less_not {q : Nat} (hq : ¬ K.mut p q) : less K p h q = h q := if_neg hq
theorem ASK.rebase (x : Ext h h') (hA : ASK hb h p mS a K) : Ext hb (less K p h') ∧ ASK (less K p h') h' p mS a K ∧ ∀ q o, h q = none → h' q = some o → less K p h' q = some o := by
 have hmut : ∀ q, K.mut p q → hb q = none ∧ h q ≠ none := by
  rintro q (rfl | rfl | hq | hq | hq)
  · exact ⟨hA.new, by rw [hA.obj]; exact fun e => by cases e⟩
  · exact ⟨hA.mnew, by rw [hA.labs]; exact fun e => by cases e⟩
  · exact hA.code.own q hq
  · exact hA.data.own q hq
  · exact hA.uses.own q hq
 have hG := hA.grow x
 have hbx : Ext hb (less K p h') := fun q o hq => by
  rw [less_not fun hm => by rw [(hmut q hm).1] at hq; cases hq]
  exact hG.ext q o hq
 have base : ∀ {e k : Nat} {aa : OA} {n c : Nat} {css : List (List Value)}, (∀ q, aa = ad q 0 → K.mut p q) → LM e k hb h' aa n c css → LM e k (less K p h') h' aa n c css := fun hm hM =>
  ⟨fun b hb => ⟨less_mut (hm b hb), (hM.own b hb).2⟩, hM.len, hM.each, hM.row, hM.emp⟩
 refine ⟨hbx, ⟨fun q o hq => ?_, less_mut (.inl rfl), hG.obj, base (fun q hq => .inr (.inr (.inl hq))) hG.code, base (fun q hq => .inr (.inr (.inr (.inl hq)))) hG.data, base (fun q hq => .inr (.inr (.inr (.inr hq)))) hG.uses, hG.useAt.ext hbx, less_mut (.inr (.inl rfl)), hG.labs⟩, fun q o hq ho => ?_⟩
 · by_cases hm : K.mut p q
   · rw [less_mut hm] at hq; cases hq
   · rw [less_not hm] at hq; exact hq
 · rw [less_not fun hm => (hmut q hm).2 hq]; exact ho
theorem AS.rebase (x : Ext h h') (hA : AS hb h p mS a) : ∃ hb', Ext hb hb' ∧ AS hb' h' p mS a ∧ ∀ q o, h q = none → h' q = some o → hb' q = some o := by
 obtain ⟨K, hA⟩ := hA
 obtain ⟨h1, h2, h3⟩ := hA.rebase x
 exact ⟨_, h1, ⟨K, h2⟩, h3⟩
theorem ASK.set {a' : As.St} (hA : ASK hb h p mS a K) (h1 : a'.p.code = a.p.code) (h2 : a'.p.data = a.p.data) (h3 : a'.uses = a.uses) (h4 : a'.p.labels = a.p.labels) {o : Obj}
 (ho : o = PA mS K.ca a'.p.code.length K.cc a'.p.zero a'.p.entry K.da a'.p.data.length K.dc a'.inData a'.hasEntry a'.hasZero K.mb a'.line K.ua a'.uses.length K.uc) : ASK hb (h.put p o) p mS a' K := by
 subst ho
 have hne : ∀ e, 74 ≠ e → NotE e (PA mS K.ca a.p.code.length K.cc a.p.zero a.p.entry K.da a.p.data.length K.dc a.inData a.hasEntry a.hasZero K.mb a.line K.ua a.uses.length K.uc) := fun e he => notE_cells he _ _
 have hmb : K.mb ≠ p := fun e => by
  have := hA.labs
  rw [e, hA.obj] at this; cases this
 refine ⟨fun q o hq => ?_, hA.new, put_same _ _ _, ?_, ?_, ?_, ?_, hA.mnew, ?_⟩
 · rw [put_ne fun e => by subst e; rw [hA.new] at hq; cases hq]; exact hA.ext q o hq
 · rw [h1]; exact hA.code.put hA.obj (hne 58 (by decide))
 · rw [h2]; exact hA.data.put hA.obj (hne 5 (by decide))
 · rw [h3]; exact hA.uses.put hA.obj (hne 78 (by decide))
 · rw [h3]; exact hA.useAt
 · rw [put_ne hmb, h4]; exact hA.labs
def Res (hb : PHeap) (p mS line : Nat) (r : As.R As.St) (v : Value) (h' : PHeap) : Prop :=
 match r with
 | .error e => v = vI (e : Int) ∧ e ≠ 0 ∧ Ext hb h' ∧ h'.cell p 11 = some (vI (line : Int))
 | .ok a' => v = vI 0 ∧ ∃ hb', Ext hb hb' ∧ AS hb' h' p mS a'
def Fine (a : As.St) : Prop := a.uses.length ≤ a.p.code.length + a.p.data.length + a.hasEntry.toNat
end
end Go.Proofs.D
namespace Go.Proofs.D
open Go Go.Den
set_option maxRecDepth 100000
set_option maxHeartbeats 4000000
abbrev o110_5 : Op := .call { callee := (.builtin .append), args := #[(.tmp 36), (.tmp 43)], argTypes := #[72, 72] }
noncomputable def d110 : DCode := up ⟨[(15, .l [.str]), (16, .c (.tup [(false, [qi]), (false, [.bool])])), (21, .l [qi]), (25, .l [qi]), (29, .l [.str]), (30, .c (.one false [.bool])), (32, .l [.ptr]), (33, .l [.ptr]), (36, .l [.slice]), (37, .l [.ptr]), (40, .l [qi]), (44, .c (.one false [.slice]))], [46], []⟩ (low Tryz.prog (fun d => Nat.beq d 5 || Nat.beq d 6 || Nat.beq d 7 || Nat.beq d 8 || Nat.beq d 9) (Tryz.f110.body.getD .skip))
theorem low110 : low Tryz.prog (fun d => Nat.beq d 5 || Nat.beq d 6 || Nat.beq d 7 || Nat.beq d 8 || Nat.beq d 9) (Tryz.f110.body.getD .skip) = some (eC d110) := by kernel_rfl
def R110 (p1 : Nat) (o1 : Nat) (l1 : Bs) (i1 : Int) (i2 : Int) (f1 : Nat) (x1 : List Value) (y1 : List Value) (h : PHeap) (Q : Value → PHeap → Prop) : Prop :=
 ∀ (b1 : Nat), h b1 = none → ∀ (h_1 : PHeap), h_1 = h.put b1 (.cells ⟨[vP p1 o1]⟩ 68) →
 ∀ (b2 : Nat), h_1 b2 = none → ∀ (h_2 : PHeap), h_2 = h_1.put b2 (.cells ⟨[vS l1]⟩ 9) →
 ∀ (b3 : Nat), h_2 b3 = none → ∀ (h_3 : PHeap), h_3 = h_2.put b3 (.cells ⟨[vI i1]⟩ 3) →
 ∀ (b4 : Nat), h_3 b4 = none → ∀ (h_4 : PHeap), h_4 = h_3.put b4 (.cells ⟨[vI i2]⟩ 3) →
 ∀ (b5 : Nat), h_4 b5 = none → ∀ (h_5 : PHeap), h_5 = h_4.put b5 (.cells ⟨[vF f1 x1 y1]⟩ 150) →
 ∃ (l2 : Bs), h_5.cell b2 0 = some (vS l2) ∧
 Tri Tryz.prog 141 [vS l2] h_5 fun v_1 h_6 =>
 ∃ (i3 : Int) (c1 : Bool), v_1 = vT [vI i3, vB c1] ∧
 br c1
 (∃ (i4 : Int), h_6.cell b3 0 = some (vI i4) ∧
 br (decide (i3 < i4))
 (Q (vT [vI 0, vI 2]) h_6)
 (∃ (i5 : Int), h_6.cell b4 0 = some (vI i5) ∧
 br (decide (i3 > i5))
 (Q (vT [vI 0, vI 2]) h_6)
 (Q (vT [vI i3, vI 0]) h_6)))
 (∃ (l3 : Bs), h_6.cell b2 0 = some (vS l3) ∧
 Tri Tryz.prog 27 [vS l3] h_6 fun v_2 h_7 =>
 ∃ (c2 : Bool), v_2 = vB c2 ∧
 br (!c2)
 (Q (vT [vI 0, vI 3]) h_7)
 (∃ (p2 o2 : Nat), h_7.cell b1 0 = some (vP p2 o2) ∧
 ∃ (p3 o3 : Nat), h_7.cell b1 0 = some (vP p3 o3) ∧
 ∃ (a1 : OA) (n1 k1 : Nat), h_7.cell p3 (o3 + 12) = some (vL a1 n1 k1) ∧
 ∃ (p4 o4 : Nat), h_7.cell b1 0 = some (vP p4 o4) ∧
 ∃ (i6 : Int), h_7.cell p4 (o4 + 11) = some (vI i6) ∧
 ∀ (b6 : Nat), h_7 b6 = none → ∀ (h_8 : PHeap), h_8 = h_7.put b6 (.cells ⟨[vI i6, vF 142 [] [vP b1 0, vP b2 0, vP b3 0, vP b4 0, vP b5 0]]⟩ 78) →
 (h_8.cell p4 (o4 + 11) = some (vI i6)) ∧
 (h_8.cell b1 0 = some (vP p4 o4)) ∧
 (h_8.cell p3 (o3 + 12) = some (vL a1 n1 k1)) ∧
 (h_8.cell b1 0 = some (vP p3 o3)) ∧
 (h_8.cell b1 0 = some (vP p2 o2)) ∧
 Raw Tryz.prog (execOp (rho [(36, vL a1 n1 k1), (43, vL (ad b6 0) 1 1)]) (mkO o110_5 72)) h_8 fun v_3 h_9 =>
 ∃ (a2 : OA) (n2 k2 : Nat), v_3 = vL a2 n2 k2 ∧
 (h_9.cell p4 (o4 + 11) = some (vI i6)) ∧
 (h_9.cell b1 0 = some (vP p4 o4)) ∧
 (h_9.cell b1 0 = some (vP p3 o3)) ∧
 (h_9.cell b1 0 = some (vP p2 o2)) ∧
 ∃ (l4 : List Value) (t1 : TypeId) (z1 : Nat × Nat), h_9 p2 = some (.cells ⟨l4⟩ t1 z1) ∧ ((o2 + 12) + 1 ≤ l4.length ∧ z1.2 ≤ (o2 + 12)) ∧
 ∀ (h_10 : PHeap), h_10 = h_9.put p2 (.cells ⟨splice l4 (o2 + 12) [vL a2 n2 k2]⟩ t1 z1) →
 Q (vT [vI 0, vI 0]) h_10))
theorem T110 {p1 : Nat} {o1 : Nat} {l1 : Bs} {i1 : Int} {i2 : Int} {f1 : Nat} {x1 : List Value} {y1 : List Value} {h : PHeap} {Q : Value → PHeap → Prop} (hR : R110 p1 o1 l1 i1 i2 f1 x1 y1 h Q) : Tri Tryz.prog 110 [vP p1 o1, vS l1, vI i1, vI i2, vF f1 x1 y1] h Q :=
 tri_of_dn mixed Tryz.func110 rfl (by kernel_rfl) low110 (rs := [.tmp 10, .tmp 11]) (by kernel_rfl) rfl (Eq.mpr (by kernel_rfl : dnF Tryz.prog Tryz.f110.ntmps d110 [.tmp 10, .tmp 11] [vP p1 o1, vS l1, vI i1, vI i2, vF f1 x1 y1] h Q = R110 p1 o1 l1 i1 i2 f1 x1 y1 h Q) hR)
noncomputable def d109 : DCode := up ⟨[(3, .l [.ptr])], [7], []⟩ (low Tryz.prog (fun _ => false) (Tryz.f109.body.getD .skip))
theorem low109 : low Tryz.prog (fun _ => false) (Tryz.f109.body.getD .skip) = some (eC d109) := by kernel_rfl
def R109 (i1 : Int) (p1 : Nat) (o1 : Nat) (h : PHeap) (Q : Value → PHeap → Prop) : Prop :=
 ∃ (p2 o2 : Nat), h.cell p1 o1 = some (vP p2 o2) ∧
 ∃ (l1 : List Value) (t1 : TypeId) (z1 : Nat × Nat), h p2 = some (.cells ⟨l1⟩ t1 z1) ∧ ((o2 + 4) + 1 ≤ l1.length ∧ z1.2 ≤ (o2 + 4)) ∧
 ∀ (h_1 : PHeap), h_1 = h.put p2 (.cells ⟨splice l1 (o2 + 4) [vI i1]⟩ t1 z1) →
 Q (vT []) h_1
theorem T109 {i1 : Int} {p1 : Nat} {o1 : Nat} {h : PHeap} {Q : Value → PHeap → Prop} (hR : R109 i1 p1 o1 h Q) : Tri Tryz.prog 109 [vI i1, vP p1 o1] h Q :=
 tri_of_dn mixed Tryz.func109 rfl (by kernel_rfl) low109 (rs := []) (by kernel_rfl) rfl (Eq.mpr (by kernel_rfl : dnF Tryz.prog Tryz.f109.ntmps d109 [] [vI i1, vP p1 o1] h Q = R109 i1 p1 o1 h Q) hR)
abbrev o112_3 : Op := .call { callee := (.builtin .copy), args := #[(.tmp 12), (.tmp 24)], argTypes := #[40, 40] }
noncomputable def d112 : DCode := up ⟨[(6, .c (.one false [.int .u32])), (7, .l [.ptr]), (10, .l [.slice]), (11, .l [qi]), (25, .c (.one false [qi]))], [], []⟩ (low Tryz.prog (fun _ => false) (Tryz.f112.body.getD .skip))
theorem low112 : low Tryz.prog (fun _ => false) (Tryz.f112.body.getD .skip) = some (eC d112) := by kernel_rfl
def R112 (i1 : Int) (p1 : Nat) (o1 : Nat) (p2 : Nat) (o2 : Nat) (h : PHeap) (Q : Value → PHeap → Prop) : Prop :=
 Tri Tryz.prog 113 [vI i1] h fun v_1 h_1 =>
 ∃ (i2 : Int), v_1 = .int .u32 i2 ∧
 ∃ (p3 o3 : Nat), h_1.cell p1 o1 = some (vP p3 o3) ∧
 ∃ (a1 : OA) (n1 k1 : Nat), h_1.cell p3 (o3 + 6) = some (vL a1 n1 k1) ∧
 ∃ (i3 : Int), h_1.cell p2 o2 = some (vI i3) ∧
 (okA a1 n1 k1 ∧ 0 ≤ i3 ∧ i3 ≤ ((n1 : Nat) : Int) ∧ ((n1 : Nat) : Int) ≤ k1) ∧ ∀ (a2 : OA), SlA a1 a2 (i3).toNat k1 1 →
 ∀ (b1 : Nat), h_1 b1 = none → ∀ (h_2 : PHeap), h_2 = h_1.put b1 (.cells ⟨[vU (IntKind.u8.wrap (i2)), vU (IntKind.u8.wrap ((Int.fdiv i2 256))), vU (IntKind.u8.wrap ((Int.fdiv i2 65536))), vU (IntKind.u8.wrap ((Int.fdiv i2 16777216)))]⟩ 5) →
 (h_2.cell p2 o2 = some (vI i3)) ∧
 (h_2.cell p3 (o3 + 6) = some (vL a1 n1 k1)) ∧
 (h_2.cell p1 o1 = some (vP p3 o3)) ∧
 Raw Tryz.prog (execOp (rho [(12, vL a2 (((n1 : Nat) : Int).toNat - (i3).toNat) (k1 - (i3).toNat)), (24, vL (ad b1 0) 4 4)]) (mkO o112_3 3)) h_2 fun v_2 h_3 =>
 ∃ (i4 : Int), v_2 = vI i4 ∧
 (h_3.cell p2 o2 = some (vI i3)) ∧
 (h_3.cell p3 (o3 + 6) = some (vL a1 n1 k1)) ∧
 (h_3.cell p1 o1 = some (vP p3 o3)) ∧
 Q (vT []) h_3
theorem T112 {i1 : Int} {p1 : Nat} {o1 : Nat} {p2 : Nat} {o2 : Nat} {h : PHeap} {Q : Value → PHeap → Prop} (hR : R112 i1 p1 o1 p2 o2 h Q) : Tri Tryz.prog 112 [vI i1, vP p1 o1, vP p2 o2] h Q :=
 tri_of_dn mixed Tryz.func112 rfl (by kernel_rfl) low112 (rs := []) (by kernel_rfl) rfl (Eq.mpr (by kernel_rfl : dnF Tryz.prog Tryz.f112.ntmps d112 [] [vI i1, vP p1 o1, vP p2 o2] h Q = R112 i1 p1 o1 p2 o2 h Q) hR)
noncomputable def d115 : DCode := up ⟨[(4, .l [.ptr]), (8, .l [.slice]), (9, .l [qi])], [12], []⟩ (low Tryz.prog (fun _ => false) (Tryz.f115.body.getD .skip))
theorem low115 : low Tryz.prog (fun _ => false) (Tryz.f115.body.getD .skip) = some (eC d115) := by kernel_rfl
def R115 (i1 : Int) (p1 : Nat) (o1 : Nat) (p2 : Nat) (o2 : Nat) (h : PHeap) (Q : Value → PHeap → Prop) : Prop :=
 ∃ (p3 o3 : Nat), h.cell p1 o1 = some (vP p3 o3) ∧
 ∃ (a1 : OA) (n1 k1 : Nat), h.cell p3 (o3 + 1) = some (vL a1 n1 k1) ∧
 ∃ (i2 : Int), h.cell p2 o2 = some (vI i2) ∧
 ∃ (b1 o4 : Nat), a1 = some ⟨b1, o4, none⟩ ∧ (0 ≤ i2 ∧ i2 < n1) ∧
 ∃ (l1 : List Value) (t1 : TypeId) (z1 : Nat × Nat), h b1 = some (.cells ⟨l1⟩ t1 z1) ∧ (((o4 + (i2).toNat * 4) + 3) + 1 ≤ l1.length ∧ z1.2 ≤ ((o4 + (i2).toNat * 4) + 3)) ∧
 ∀ (h_1 : PHeap), h_1 = h.put b1 (.cells ⟨splice l1 ((o4 + (i2).toNat * 4) + 3) [vI i1]⟩ t1 z1) →
 Q (vT []) h_1
theorem T115 {i1 : Int} {p1 : Nat} {o1 : Nat} {p2 : Nat} {o2 : Nat} {h : PHeap} {Q : Value → PHeap → Prop} (hR : R115 i1 p1 o1 p2 o2 h Q) : Tri Tryz.prog 115 [vI i1, vP p1 o1, vP p2 o2] h Q :=
 tri_of_dn mixed Tryz.func115 rfl (by kernel_rfl) low115 (rs := []) (by kernel_rfl) rfl (Eq.mpr (by kernel_rfl : dnF Tryz.prog Tryz.f115.ntmps d115 [] [vI i1, vP p1 o1, vP p2 o2] h Q = R115 i1 p1 o1 p2 o2 h Q) hR)
noncomputable def d113 : DCode := up ⟨[], [], []⟩ (low Tryz.prog (fun _ => false) (Tryz.f113.body.getD .skip))
theorem low113 : low Tryz.prog (fun _ => false) (Tryz.f113.body.getD .skip) = some (eC d113) := by kernel_rfl
def R113 (i1 : Int) (h : PHeap) (Q : Value → PHeap → Prop) : Prop :=
 Q (.int .u32 (IntKind.u32.wrap (i1))) h
theorem T113 {i1 : Int} {h : PHeap} {Q : Value → PHeap → Prop} (hR : R113 i1 h Q) : Tri Tryz.prog 113 [vI i1] h Q :=
 tri_of_dn mixed Tryz.func113 rfl (by kernel_rfl) low113 (rs := [.tmp 2]) (by kernel_rfl) rfl (Eq.mpr (by kernel_rfl : dnF Tryz.prog Tryz.f113.ntmps d113 [.tmp 2] [vI i1] h Q = R113 i1 h Q) hR)
noncomputable def d76 : DCode := up ⟨[], [7], []⟩ (low Tryz.prog (fun _ => false) (Tryz.f76.body.getD .skip))
theorem low76 : low Tryz.prog (fun _ => false) (Tryz.f76.body.getD .skip) = some (eC d76) := by kernel_rfl
def R76 (p1 : Nat) (o1 : Nat) (a1 : OA) (n1 : Nat) (k1 : Nat) (h : PHeap) (Q : Value → PHeap → Prop) : Prop :=
 ∃ (l1 : List Value) (t1 : TypeId) (z1 : Nat × Nat), h p1 = some (.cells ⟨l1⟩ t1 z1) ∧ ((o1 + 7) + 1 ≤ l1.length ∧ z1.2 ≤ (o1 + 7)) ∧
 ∀ (h_1 : PHeap), h_1 = h.put p1 (.cells ⟨splice l1 (o1 + 7) [vB false]⟩ t1 z1) →
 Q (vI 0) h_1
theorem T76 {p1 : Nat} {o1 : Nat} {a1 : OA} {n1 : Nat} {k1 : Nat} {h : PHeap} {Q : Value → PHeap → Prop} (hR : R76 p1 o1 a1 n1 k1 h Q) : Tri Tryz.prog 76 [vP p1 o1, vL a1 n1 k1] h Q :=
 tri_of_dn mixed Tryz.func76 rfl (by kernel_rfl) low76 (rs := [.tmp 4]) (by kernel_rfl) rfl (Eq.mpr (by kernel_rfl : dnF Tryz.prog Tryz.f76.ntmps d76 [.tmp 4] [vP p1 o1, vL a1 n1 k1] h Q = R76 p1 o1 a1 n1 k1 h Q) hR)
noncomputable def d77 : DCode := up ⟨[], [7], []⟩ (low Tryz.prog (fun _ => false) (Tryz.f77.body.getD .skip))
theorem low77 : low Tryz.prog (fun _ => false) (Tryz.f77.body.getD .skip) = some (eC d77) := by kernel_rfl
def R77 (p1 : Nat) (o1 : Nat) (a1 : OA) (n1 : Nat) (k1 : Nat) (h : PHeap) (Q : Value → PHeap → Prop) : Prop :=
 ∃ (l1 : List Value) (t1 : TypeId) (z1 : Nat × Nat), h p1 = some (.cells ⟨l1⟩ t1 z1) ∧ ((o1 + 7) + 1 ≤ l1.length ∧ z1.2 ≤ (o1 + 7)) ∧
 ∀ (h_1 : PHeap), h_1 = h.put p1 (.cells ⟨splice l1 (o1 + 7) [vB true]⟩ t1 z1) →
 Q (vI 0) h_1
theorem T77 {p1 : Nat} {o1 : Nat} {a1 : OA} {n1 : Nat} {k1 : Nat} {h : PHeap} {Q : Value → PHeap → Prop} (hR : R77 p1 o1 a1 n1 k1 h Q) : Tri Tryz.prog 77 [vP p1 o1, vL a1 n1 k1] h Q :=
 tri_of_dn mixed Tryz.func77 rfl (by kernel_rfl) low77 (rs := [.tmp 4]) (by kernel_rfl) rfl (Eq.mpr (by kernel_rfl : dnF Tryz.prog Tryz.f77.ntmps d77 [.tmp 4] [vP p1 o1, vL a1 n1 k1] h Q = R77 p1 o1 a1 n1 k1 h Q) hR)
noncomputable def d78 : DCode := up ⟨[(10, .l [.ptr]), (14, .l [.str]), (16, .c (.tup [(false, [qi]), (false, [qi])])), (22, .l [.ptr]), (27, .c (.tup []))], [24], []⟩ (low Tryz.prog (fun d => Nat.beq d 2) (Tryz.f78.body.getD .skip))
theorem low78 : low Tryz.prog (fun d => Nat.beq d 2) (Tryz.f78.body.getD .skip) = some (eC d78) := by kernel_rfl
def R78 (p1 : Nat) (o1 : Nat) (a1 : OA) (n1 : Nat) (k1 : Nat) (h : PHeap) (Q : Value → PHeap → Prop) : Prop :=
 ∀ (b1 : Nat), h b1 = none → ∀ (h_1 : PHeap), h_1 = h.put b1 (.cells ⟨[vP p1 o1]⟩ 68) →
 ∃ (p2 o2 : Nat), h_1.cell b1 0 = some (vP p2 o2) ∧
 ∃ (b2 o3 : Nat), a1 = some ⟨b2, o3, none⟩ ∧ (0 ≤ (0 : Int) ∧ (0 : Int) < n1) ∧
 ∃ (l1 : Bs), h_1.cell b2 (o3 + 1) = some (vS l1) ∧
 Tri Tryz.prog 110 [vP p2 o2, vS l1, vI (-4611686018427387904), vI 4611686018427387904, vF 109 [] [vP b1 0]] h_1 fun v_1 h_2 =>
 ∃ (i1 i2 : Int), v_1 = vT [vI i1, vI i2] ∧
 br (i2 != 0)
 (Q (vI i2) h_2)
 (∃ (p3 o4 : Nat), h_2.cell b1 0 = some (vP p3 o4) ∧
 ∃ (l2 : List Value) (t1 : TypeId) (z1 : Nat × Nat), h_2 p3 = some (.cells ⟨l2⟩ t1 z1) ∧ ((o4 + 8) + 1 ≤ l2.length ∧ z1.2 ≤ (o4 + 8)) ∧
 ∀ (h_3 : PHeap), h_3 = h_2.put p3 (.cells ⟨splice l2 (o4 + 8) [vB true]⟩ t1 z1) →
 Tri Tryz.prog 109 [vI i1, vP b1 0] h_3 fun v_2 h_4 =>
 v_2 = vT [] ∧
 Q (vI 0) h_4)
theorem T78 {p1 : Nat} {o1 : Nat} {a1 : OA} {n1 : Nat} {k1 : Nat} {h : PHeap} {Q : Value → PHeap → Prop} (hR : R78 p1 o1 a1 n1 k1 h Q) : Tri Tryz.prog 78 [vP p1 o1, vL a1 n1 k1] h Q :=
 tri_of_dn mixed Tryz.func78 rfl (by kernel_rfl) low78 (rs := [.tmp 4]) (by kernel_rfl) rfl (Eq.mpr (by kernel_rfl : dnF Tryz.prog Tryz.f78.ntmps d78 [.tmp 4] [vP p1 o1, vL a1 n1 k1] h Q = R78 p1 o1 a1 n1 k1 h Q) hR)
noncomputable def d79 : DCode := up ⟨[(11, .l [.str]), (12, .c (.tup [(false, [qi]), (false, [qi])]))], [20, 25], []⟩ (low Tryz.prog (fun _ => false) (Tryz.f79.body.getD .skip))
theorem low79 : low Tryz.prog (fun _ => false) (Tryz.f79.body.getD .skip) = some (eC d79) := by kernel_rfl
def R79 (p1 : Nat) (o1 : Nat) (a1 : OA) (n1 : Nat) (k1 : Nat) (h : PHeap) (Q : Value → PHeap → Prop) : Prop :=
 ∃ (b1 o2 : Nat), a1 = some ⟨b1, o2, none⟩ ∧ (0 ≤ (0 : Int) ∧ (0 : Int) < n1) ∧
 ∃ (l1 : Bs), h.cell b1 (o2 + 1) = some (vS l1) ∧
 Tri Tryz.prog 111 [vS l1, vI 0, vI 4096] h fun v_1 h_1 =>
 ∃ (i1 i2 : Int), v_1 = vT [vI i1, vI i2] ∧
 br (i2 != 0)
 (Q (vI i2) h_1)
 (∃ (l2 : List Value) (t1 : TypeId) (z1 : Nat × Nat), h_1 p1 = some (.cells ⟨l2⟩ t1 z1) ∧ ((o1 + 9) + 1 ≤ l2.length ∧ z1.2 ≤ (o1 + 9)) ∧
 ∀ (h_2 : PHeap), h_2 = h_1.put p1 (.cells ⟨splice l2 (o1 + 9) [vB true]⟩ t1 z1) →
 ∃ (l3 : List Value) (t2 : TypeId) (z2 : Nat × Nat), h_2 p1 = some (.cells ⟨l3⟩ t2 z2) ∧ ((o1 + 3) + 1 ≤ l3.length ∧ z2.2 ≤ (o1 + 3)) ∧
 ∀ (h_3 : PHeap), h_3 = h_2.put p1 (.cells ⟨splice l3 (o1 + 3) [vI i1]⟩ t2 z2) →
 Q (vI 0) h_3)
theorem T79 {p1 : Nat} {o1 : Nat} {a1 : OA} {n1 : Nat} {k1 : Nat} {h : PHeap} {Q : Value → PHeap → Prop} (hR : R79 p1 o1 a1 n1 k1 h Q) : Tri Tryz.prog 79 [vP p1 o1, vL a1 n1 k1] h Q :=
 tri_of_dn mixed Tryz.func79 rfl (by kernel_rfl) low79 (rs := [.tmp 4]) (by kernel_rfl) rfl (Eq.mpr (by kernel_rfl : dnF Tryz.prog Tryz.f79.ntmps d79 [.tmp 4] [vP p1 o1, vL a1 n1 k1] h Q = R79 p1 o1 a1 n1 k1 h Q) hR)
abbrev o80_1 : Op := .call { callee := (.builtin .append), args := #[(.tmp 26), (.tmp 27)], argTypes := #[40, 40] }
noncomputable def d80 : DCode := up ⟨[(16, .l [qi, .str]), (17, .l [.ptr]), (20, .l [.slice]), (22, .l [.ptr]), (23, .l [.ptr]), (26, .l [.slice]), (28, .c (.one false [.slice])), (33, .l [.ptr]), (35, .l [.str]), (37, .c (.tup [(false, [qi]), (false, [qi])])), (45, .c (.tup []))], [7, 30], [(14, 40, [(13, qi)], [])]⟩ (low Tryz.prog (fun d => Nat.beq d 2 || Nat.beq d 7) (Tryz.f80.body.getD .skip))
theorem low80 : low Tryz.prog (fun d => Nat.beq d 2 || Nat.beq d 7) (Tryz.f80.body.getD .skip) = some (eC d80) := by kernel_rfl
def R80 (p1 : Nat) (o1 : Nat) (a1 : OA) (n1 : Nat) (k1 : Nat) (h : PHeap) (Q : Value → PHeap → Prop) : Prop :=
 ∀ (b1 : Nat), h b1 = none → ∀ (h_1 : PHeap), h_1 = h.put b1 (.cells ⟨[vP p1 o1]⟩ 68) →
 ∃ (I_1 : Nat → Int → PHeap → Prop), (∃ (m2 : Nat), I_1 m2 (0 : Int) h_1) ∧
 ∀ (m1 : Nat) (i1 : Int) (h_2 : PHeap), I_1 m1 i1 h_2 →
 br (decide (i1 < ((n1 : Nat) : Int)))
 (∃ (b2 o2 : Nat), a1 = some ⟨b2, o2, none⟩ ∧ (0 ≤ i1 ∧ i1 < n1) ∧
 ∃ (i2 : Int) (l1 : Bs), h_2.row b2 (o2 + (i1).toNat * 2) [vI i2, vS l1] ∧
 ∃ (p2 o3 : Nat), h_2.cell b1 0 = some (vP p2 o3) ∧
 ∃ (a2 : OA) (n2 k2 : Nat), h_2.cell p2 (o3 + 6) = some (vL a2 n2 k2) ∧
 ∀ (b3 : Nat), h_2 b3 = none → ∀ (h_3 : PHeap), h_3 = h_2.put b3 (.cells ⟨[vI 0]⟩ 3) →
 ∃ (l2 : List Value) (t1 : TypeId) (z1 : Nat × Nat), h_3 b3 = some (.cells ⟨l2⟩ t1 z1) ∧ (0 + 1 ≤ l2.length ∧ z1.2 ≤ 0) ∧
 ∀ (h_4 : PHeap), h_4 = h_3.put b3 (.cells ⟨splice l2 0 [vI ((n2 : Nat) : Int)]⟩ t1 z1) →
 ∃ (p3 o4 : Nat), h_4.cell b1 0 = some (vP p3 o4) ∧
 ∃ (p4 o5 : Nat), h_4.cell b1 0 = some (vP p4 o5) ∧
 ∃ (a3 : OA) (n3 k3 : Nat), h_4.cell p4 (o5 + 6) = some (vL a3 n3 k3) ∧
 ∀ (b4 : Nat), h_4 b4 = none → ∀ (h_5 : PHeap), h_5 = h_4.put b4 (.cells ⟨[vU 0, vU 0, vU 0, vU 0]⟩ 5) →
 (h_5.cell p4 (o5 + 6) = some (vL a3 n3 k3)) ∧
 (h_5.cell b1 0 = some (vP p4 o5)) ∧
 (h_5.cell b1 0 = some (vP p3 o4)) ∧
 Raw Tryz.prog (execOp (rho [(26, vL a3 n3 k3), (27, vL (ad b4 0) 4 4)]) (mkO o80_1 40)) h_5 fun v_1 h_6 =>
 ∃ (a4 : OA) (n4 k4 : Nat), v_1 = vL a4 n4 k4 ∧
 (h_6.cell b1 0 = some (vP p4 o5)) ∧
 (h_6.cell b1 0 = some (vP p3 o4)) ∧
 ∃ (l3 : List Value) (t2 : TypeId) (z2 : Nat × Nat), h_6 p3 = some (.cells ⟨l3⟩ t2 z2) ∧ ((o4 + 6) + 1 ≤ l3.length ∧ z2.2 ≤ (o4 + 6)) ∧
 ∀ (h_7 : PHeap), h_7 = h_6.put p3 (.cells ⟨splice l3 (o4 + 6) [vL a4 n4 k4]⟩ t2 z2) →
 ∃ (p5 o6 : Nat), h_7.cell b1 0 = some (vP p5 o6) ∧
 Tri Tryz.prog 110 [vP p5 o6, vS l1, vI (-2147483648), vI 4294967295, vF 112 [] [vP b1 0, vP b3 0]] h_7 fun v_2 h_8 =>
 ∃ (i3 i4 : Int), v_2 = vT [vI i3, vI i4] ∧
 br (i4 != 0)
 (Q (vI i4) h_8)
 (Tri Tryz.prog 112 [vI i3, vP b1 0, vP b3 0] h_8 fun v_3 h_9 =>
 v_3 = vT [] ∧
 ∃ (m3 : Nat), m3 < m1 ∧ I_1 m3 (IntKind.i64.wrap (i1 + 1)) h_9 ∧
 True))
 (Q (vI 0) h_2)
theorem T80 {p1 : Nat} {o1 : Nat} {a1 : OA} {n1 : Nat} {k1 : Nat} {h : PHeap} {Q : Value → PHeap → Prop} (hR : R80 p1 o1 a1 n1 k1 h Q) : Tri Tryz.prog 80 [vP p1 o1, vL a1 n1 k1] h Q :=
 tri_of_dn mixed Tryz.func80 rfl (by kernel_rfl) low80 (rs := [.tmp 4]) (by kernel_rfl) rfl (Eq.mpr (by kernel_rfl : dnF Tryz.prog Tryz.f80.ntmps d80 [.tmp 4] [vP p1 o1, vL a1 n1 k1] h Q = R80 p1 o1 a1 n1 k1 h Q) hR)
abbrev o81_4 : Op := .call { callee := (.builtin .append), args := #[(.tmp 28), (.tmp 31)], argTypes := #[40, 40] }
noncomputable def d81 : DCode := up ⟨[(14, .l [qi, .str]), (17, .l [.str]), (18, .c (.tup [(false, [qi]), (false, [qi])])), (28, .l [.slice]), (32, .c (.one false [.slice]))], [34], [(12, 29, [(11, qi)], [])]⟩ (low Tryz.prog (fun _ => false) (Tryz.f81.body.getD .skip))
theorem low81 : low Tryz.prog (fun _ => false) (Tryz.f81.body.getD .skip) = some (eC d81) := by kernel_rfl
def R81 (p1 : Nat) (o1 : Nat) (a1 : OA) (n1 : Nat) (k1 : Nat) (h : PHeap) (Q : Value → PHeap → Prop) : Prop :=
 ∃ (I_1 : Nat → Int → PHeap → Prop), (∃ (m2 : Nat), I_1 m2 (0 : Int) h) ∧
 ∀ (m1 : Nat) (i1 : Int) (h_1 : PHeap), I_1 m1 i1 h_1 →
 br (decide (i1 < ((n1 : Nat) : Int)))
 (∃ (b1 o2 : Nat), a1 = some ⟨b1, o2, none⟩ ∧ (0 ≤ i1 ∧ i1 < n1) ∧
 ∃ (i2 : Int) (l1 : Bs), h_1.row b1 (o2 + (i1).toNat * 2) [vI i2, vS l1] ∧
 Tri Tryz.prog 111 [vS l1, vI (-128), vI 255] h_1 fun v_1 h_2 =>
 ∃ (i3 i4 : Int), v_1 = vT [vI i3, vI i4] ∧
 br (i4 != 0)
 (Q (vI i4) h_2)
 (∃ (a2 : OA) (n2 k2 : Nat), h_2.cell p1 (o1 + 6) = some (vL a2 n2 k2) ∧
 ∀ (b2 : Nat), h_2 b2 = none → ∀ (h_3 : PHeap), h_3 = h_2.put b2 (.cells ⟨[vU (IntKind.u8.wrap (i3))]⟩ 5) →
 Raw Tryz.prog (execOp (rho [(28, vL a2 n2 k2), (31, vL (ad b2 0) 1 1)]) (mkO o81_4 40)) h_3 fun v_2 h_4 =>
 ∃ (a3 : OA) (n3 k3 : Nat), v_2 = vL a3 n3 k3 ∧
 ∃ (l2 : List Value) (t1 : TypeId) (z1 : Nat × Nat), h_4 p1 = some (.cells ⟨l2⟩ t1 z1) ∧ ((o1 + 6) + 1 ≤ l2.length ∧ z1.2 ≤ (o1 + 6)) ∧
 ∀ (h_5 : PHeap), h_5 = h_4.put p1 (.cells ⟨splice l2 (o1 + 6) [vL a3 n3 k3]⟩ t1 z1) →
 ∃ (m3 : Nat), m3 < m1 ∧ I_1 m3 (IntKind.i64.wrap (i1 + 1)) h_5 ∧
 True))
 (Q (vI 0) h_1)
theorem T81 {p1 : Nat} {o1 : Nat} {a1 : OA} {n1 : Nat} {k1 : Nat} {h : PHeap} {Q : Value → PHeap → Prop} (hR : R81 p1 o1 a1 n1 k1 h Q) : Tri Tryz.prog 81 [vP p1 o1, vL a1 n1 k1] h Q :=
 tri_of_dn mixed Tryz.func81 rfl (by kernel_rfl) low81 (rs := [.tmp 4]) (by kernel_rfl) rfl (Eq.mpr (by kernel_rfl : dnF Tryz.prog Tryz.f81.ntmps d81 [.tmp 4] [vP p1 o1, vL a1 n1 k1] h Q = R81 p1 o1 a1 n1 k1 h Q) hR)
abbrev o82_0 : Op := .call { callee := (.builtin .append), args := #[(.tmp 9), (.tmp 13)], argTypes := #[40, 9] }
noncomputable def d82 : DCode := up ⟨[(9, .l [.slice]), (13, .l [.str]), (14, .c (.one false [.slice]))], [16], []⟩ (low Tryz.prog (fun _ => false) (Tryz.f82.body.getD .skip))
theorem low82 : low Tryz.prog (fun _ => false) (Tryz.f82.body.getD .skip) = some (eC d82) := by kernel_rfl
def R82 (p1 : Nat) (o1 : Nat) (a1 : OA) (n1 : Nat) (k1 : Nat) (h : PHeap) (Q : Value → PHeap → Prop) : Prop :=
 ∃ (a2 : OA) (n2 k2 : Nat), h.cell p1 (o1 + 6) = some (vL a2 n2 k2) ∧
 ∃ (b1 o2 : Nat), a1 = some ⟨b1, o2, none⟩ ∧ (0 ≤ (0 : Int) ∧ (0 : Int) < n1) ∧
 ∃ (l1 : Bs), h.cell b1 (o2 + 1) = some (vS l1) ∧
 Raw Tryz.prog (execOp (rho [(9, vL a2 n2 k2), (13, vS l1)]) (mkO o82_0 40)) h fun v_1 h_1 =>
 ∃ (a3 : OA) (n3 k3 : Nat), v_1 = vL a3 n3 k3 ∧
 ∃ (l2 : List Value) (t1 : TypeId) (z1 : Nat × Nat), h_1 p1 = some (.cells ⟨l2⟩ t1 z1) ∧ ((o1 + 6) + 1 ≤ l2.length ∧ z1.2 ≤ (o1 + 6)) ∧
 ∀ (h_2 : PHeap), h_2 = h_1.put p1 (.cells ⟨splice l2 (o1 + 6) [vL a3 n3 k3]⟩ t1 z1) →
 Q (vI 0) h_2
theorem T82 {p1 : Nat} {o1 : Nat} {a1 : OA} {n1 : Nat} {k1 : Nat} {h : PHeap} {Q : Value → PHeap → Prop} (hR : R82 p1 o1 a1 n1 k1 h Q) : Tri Tryz.prog 82 [vP p1 o1, vL a1 n1 k1] h Q :=
 tri_of_dn mixed Tryz.func82 rfl (by kernel_rfl) low82 (rs := [.tmp 4]) (by kernel_rfl) rfl (Eq.mpr (by kernel_rfl : dnF Tryz.prog Tryz.f82.ntmps d82 [.tmp 4] [vP p1 o1, vL a1 n1 k1] h Q = R82 p1 o1 a1 n1 k1 h Q) hR)
abbrev o83_3 : Op := .call { callee := (.builtin .append), args := #[(.tmp 22), (.tmp 23)], argTypes := #[40, 3] }
noncomputable def d83 : DCode := up ⟨[(11, .l [.str]), (12, .c (.tup [(false, [qi]), (false, [qi])])), (22, .l [.slice]), (24, .c (.one false [.slice]))], [26], []⟩ (low Tryz.prog (fun _ => false) (Tryz.f83.body.getD .skip))
theorem low83 : low Tryz.prog (fun _ => false) (Tryz.f83.body.getD .skip) = some (eC d83) := by kernel_rfl
def R83 (p1 : Nat) (o1 : Nat) (a1 : OA) (n1 : Nat) (k1 : Nat) (h : PHeap) (Q : Value → PHeap → Prop) : Prop :=
 ∃ (b1 o2 : Nat), a1 = some ⟨b1, o2, none⟩ ∧ (0 ≤ (0 : Int) ∧ (0 : Int) < n1) ∧
 ∃ (l1 : Bs), h.cell b1 (o2 + 1) = some (vS l1) ∧
 Tri Tryz.prog 111 [vS l1, vI 0, vI 4096] h fun v_1 h_1 =>
 ∃ (i1 i2 : Int), v_1 = vT [vI i1, vI i2] ∧
 br (i2 != 0)
 (Q (vI i2) h_1)
 (∃ (a2 : OA) (n2 k2 : Nat), h_1.cell p1 (o1 + 6) = some (vL a2 n2 k2) ∧
 Raw Tryz.prog (execOp (rho [(22, vL a2 n2 k2), (23, vI i1)]) (mkO o83_3 40)) h_1 fun v_2 h_2 =>
 ∃ (a3 : OA) (n3 k3 : Nat), v_2 = vL a3 n3 k3 ∧
 ∃ (l2 : List Value) (t1 : TypeId) (z1 : Nat × Nat), h_2 p1 = some (.cells ⟨l2⟩ t1 z1) ∧ ((o1 + 6) + 1 ≤ l2.length ∧ z1.2 ≤ (o1 + 6)) ∧
 ∀ (h_3 : PHeap), h_3 = h_2.put p1 (.cells ⟨splice l2 (o1 + 6) [vL a3 n3 k3]⟩ t1 z1) →
 Q (vI 0) h_3)
theorem T83 {p1 : Nat} {o1 : Nat} {a1 : OA} {n1 : Nat} {k1 : Nat} {h : PHeap} {Q : Value → PHeap → Prop} (hR : R83 p1 o1 a1 n1 k1 h Q) : Tri Tryz.prog 83 [vP p1 o1, vL a1 n1 k1] h Q :=
 tri_of_dn mixed Tryz.func83 rfl (by kernel_rfl) low83 (rs := [.tmp 4]) (by kernel_rfl) rfl (Eq.mpr (by kernel_rfl : dnF Tryz.prog Tryz.f83.ntmps d83 [.tmp 4] [vP p1 o1, vL a1 n1 k1] h Q = R83 p1 o1 a1 n1 k1 h Q) hR)
end Go.Proofs.D
namespace Go.Proofs.D
open Go Go.Den Go.As
set_option maxRecDepth 100000
theorem u32_wrap (n : Int) : IntKind.u32.wrap n = n % 4294967296 := by
 simp [IntKind.wrap, IntKind.bits, IntKind.signed]
theorem u8_wrap (n : Int) : IntKind.u8.wrap n = n % 256 := by
 simp [IntKind.wrap, IntKind.bits, IntKind.signed]
attribute [local irreducible] IntKind.wrap Tri
section
variable {e k : Nat} {h0 h : PHeap} {a : OA} {n c : Nat} {css : List (List Value)}
theorem LM.open (hM : LM e k h0 h a n c css) (hn : 0 < n) : ∃ b rest, a = ad b 0 ∧ h b = some (.cells ⟨css.flatten ++ rest⟩ e (0, 0)) ∧ rest.length = (c - n) * k ∧ n ≤ c ∧ css.flatten.length = n * k := by
 rcases hM.row.2 with ⟨_, h1⟩ | ⟨b, cap, rest, h1, h2, h3, h4⟩
 · omega
 · injection h1 with h1 _ h5
   subst h5
   exact ⟨b, rest, h1, h2, h3, h4, hM.row.1⟩
theorem LM.write {b : Nat} {rest : List Value} {css' : List (List Value)} (hM : LM e k h0 h (ad b 0) n c css) (hb : h b = some (.cells ⟨css.flatten ++ rest⟩ e (0, 0))) (hr : rest.length = (c - n) * k) (hc : n ≤ c) (hn : 0 < n) (hl : css'.length = n) (each : ∀ cs ∈ css', cs.length = k) :
 LM e k h0 (h.put b (.cells ⟨css'.flatten ++ rest⟩ e (0, 0))) (ad b 0) n c css' := by
 have hf : css'.flatten.length = n * k := by
  rw [← hl]
  clear hl
  induction css' with
  | nil => simp
  | cons x l ih => rw [List.flatten_cons, List.length_append, ih fun y hy => each y (List.mem_cons_of_mem _ hy), each x (List.mem_cons_self ..), List.length_cons, Nat.add_mul]; omega
 refine ⟨fun q hq => ?_, hl, fun j cs hj => each cs (List.mem_of_getElem? hj), ⟨hf, .inr ⟨b, c, rest, rfl, put_same _ _ _, hr, hc⟩⟩, fun h => by omega⟩
 injection hq with hq; injection hq with hq; subst hq
 exact ⟨(hM.own b rfl).1, by rw [put_same]; exact fun e => by cases e⟩
theorem raw_copy {t elem ty : TypeId} {b o dl dc s sc : Nat} {cur cs : List Value} {et : TypeId} {ρ : Operand → Value} {cl : Call} {x y : Operand} (hcl : cl.callee = .builtin .copy) (hca : cl.args = #[x, y]) (hts : cl.argTypes = #[t, t])
 (hu : Tryz.prog.underlying t = some (.slice elem)) (hsz : (Tryz.prog.info? elem).map (·.size) = some 1) (hx : ρ x = vL (ad b o) dl dc) (hy : ρ y = vL (ad s 0) cs.length sc) (hb : h b = some (.cells ⟨cur⟩ et (0, 0))) (hs : h.row s 0 cs) (hn : cs.length ≤ dl) (hfit : o + cs.length ≤ cur.length)
 (h1 : allOne cs = true) : Raw Tryz.prog (execOp ρ (mkO (.call cl) ty)) h fun v h' => v = vI (cs.length : Int) ∧ h' = h.put b (.cells ⟨splice cur o cs⟩ et (0, 0)) := by
 intro w hsub
 have hrun := run_copy_row (P := Tryz.prog) w t t ty elem b o dl dc ⟨s, 0, none⟩ cs.length sc ⟨cur⟩ et cs hu hsz (hsub _ _ hb) (Nat.min_eq_left hn).symm (fun j v hj => hsub.row hs j v hj) (by simpa using hfit) (allOne_mem h1)
 have hexec : (execOp ρ (mkO (.call cl) ty)).run Tryz.prog w = ((Builtin.copy_ #[t, t] ty #[vL (ad b o) dl dc, vL (ad s 0) cs.length sc]).run Tryz.prog w).andThen fun v w' => .ok (.value v) w' := by
  simp [execOp, mkO, resolve, hcl, hca, hts, hx, hy, invoke, builtin]
 rw [hexec, hrun]
 refine ⟨_, _, _, h.put b (.cells ⟨splice cur o cs⟩ et (0, 0)), rfl, .inl rfl, ⟨rfl, rfl⟩, ?_, ?_⟩
 · intro k o' hk
   simp only [PHeap.put] at hk
   split at hk
   · rename_i e1; subst e1; cases hk
     exact setRow_heap _ _ _ _ _ _ (hsub _ _ hb)
   · rename_i e1
     rw [setRow_other _ _ _ _ e1]; exact hsub _ _ hk
 · refine ⟨rfl, rfl, rfl, by rw [size_setRow]; exact Nat.le_refl _, fun k hk hn => ?_⟩
   have : k ≠ b := fun e => by subst e; rw [hb] at hn; cases hn
   exact ⟨by simp only [PHeap.put]; rw [if_neg this]; exact hn, setRow_other _ _ _ _ this⟩
end
theorem flatten_modify (k : Nat) : ∀ (css : List (List Value)) (j i : Nat) (v : Value) (rest : List Value), (∀ cs ∈ css, cs.length = k) → j < css.length → i < k → splice (css.flatten ++ rest) (j * k + i) [v] = (css.modify j fun cs => splice cs i [v]).flatten ++ rest
 | [], j, _, _, _, _, hj, _ => by simp at hj
 | c :: css, 0, i, v, rest, hl, _, hi => by
   have hc := hl c (List.mem_cons_self ..)
   rw [Nat.zero_mul, Nat.zero_add, List.modify_zero_cons, List.flatten_cons, List.flatten_cons]
   simp only [splice, List.length_cons, List.length_nil]
   rw [List.append_assoc c css.flatten rest, List.take_append_of_le_length (by omega), List.drop_append_of_le_length (by omega)]
   simp
 | c :: css, j + 1, i, v, rest, hl, hj, hi => by
   have hc := hl c (List.mem_cons_self ..)
   have ih := flatten_modify k css j i v rest (fun x hx => hl x (List.mem_cons_of_mem _ hx)) (by simpa using hj) hi
   rw [List.modify_succ_cons, List.flatten_cons, List.flatten_cons, List.append_assoc c css.flatten rest, List.append_assoc c, ← ih]
   simp only [splice, List.length_cons, List.length_nil]
   have e1 : (j + 1) * k + i = c.length + (j * k + i) := by rw [hc, Nat.add_mul]; omega
   rw [e1, List.take_append, List.take_of_length_le (by omega), Nat.add_sub_cancel_left, show c.length + (j * k + i) + (0 + 1) = c.length + (j * k + i + (0 + 1)) by omega, List.drop_append, List.drop_of_length_le (by omega), Nat.add_sub_cancel_left]
   simp
theorem inL_setC : ∀ (l : List Ins) (j : Nat) (n : Int), (inL l).modify j (fun cs => splice cs 3 [vI n]) = inL (setC l j n)
 | [], j, n => by cases j <;> rfl
 | x :: l, 0, n => rfl
 | x :: l, j + 1, n => by
   have := inL_setC l j n
   unfold inL setC at *
   rw [List.map_cons, List.modify_succ_cons, List.modify_succ_cons, List.map_cons, this]
theorem decB_range {d : Bytes} {m : Nat} (h : decB d = some m) : m < 10000000000 := by
 unfold decB at h
 split at h
 · cases h
 · rename_i hc
   injection h with h
   subst h
   have h2 : d.all digitB = true := by
    cases e : d.all digitB with
    | true => rfl
    | false => exact absurd (.inr (.inr e)) hc
   rw [← numV_dec h2]
   exact numV_lt10 h2 (by omega)
theorem number_range {t : Bytes} {n : Int} (h : numberS t = some n) : -10000000000 < n ∧ n < 10000000000 := by
 unfold numberS at h
 split at h
 · rename_i d
   split at h
   · cases h
   · rename_i hc
     injection h with h
     have h2 : d.all hexB = true := by
      cases e : d.all hexB with
      | true => rfl
      | false => exact absurd (.inr (.inr e)) hc
     have := numV_lt16 h2 (by omega)
     rw [numV_hex] at this
     omega
 · rename_i d
   cases hd : decB d with
   | none => rw [hd] at h; cases h
   | some m =>
     rw [hd] at h
     have := decB_range hd
     have h : -(m : Int) = n := by simpa using h
     omega
 · rename_i d _ _
   cases hd : decB t with
   | none => rw [hd] at h; cases h
   | some m =>
     rw [hd] at h
     have := decB_range hd
     have h : (m : Int) = n := by simpa using h
     omega
section
variable (h : PHeap)
def litV (r : As.R Int) : Value := match r with
 | .error e => vT [vI 0, vI (e : Int)]
 | .ok n => vT [vI n, vI 0]
theorem literal_t (t : Bytes) (low high : Int) (hl : t.length ≤ 1000000) : Tri Tryz.prog 111 [vS t, vI low, vI high] h fun v h' => v = litV (literalS t low high) ∧ Ext h h' := by
 refine T111 ?_
 unfold R111
 refine Tri.mono (number_t h t hl) ?_
 rintro _ h1 ⟨rfl, hx⟩
 unfold numVal literalS
 cases numberS t with
 | none => exact ⟨_, _, rfl, br_pos rfl ⟨rfl, hx⟩⟩
 | some n =>
   refine ⟨_, _, rfl, br_neg rfl (br_split (fun e => ⟨?_, hx⟩) fun e1 => br_split (fun e => ⟨?_, hx⟩) fun e2 => ⟨?_, hx⟩)⟩
   · have := of_decide_eq_true e
     simp only; rw [if_pos (.inl this)]; rfl
   · have := of_decide_eq_true e
     simp only; rw [if_pos (.inr this)]; rfl
   · have := of_decide_eq_false e1
     have := of_decide_eq_false e2
     simp only; rw [if_neg (by omega)]; rfl
theorem und72 : Tryz.prog.underlying 72 = some (.slice 78) := rfl
theorem elem78 : ElemT 78 2 := ⟨_, _, rfl, rfl, rfl, rfl, by decide⟩
theorem und22 : Tryz.prog.underlying 22 = some (.slice 58) := rfl
theorem elem58 : ElemT 58 4 := ⟨_, _, rfl, rfl, rfl, rfl, by decide⟩
def ValP (hb : PHeap) (p mS : Nat) (a : As.St) (r : As.R (Int × List Us)) (v : Value) (h' : PHeap) : Prop :=
 match r with
 | .error e => v = vT [vI 0, vI (e : Int)] ∧ e ≠ 0 ∧ ∃ hb', Ext hb hb' ∧ AS hb' h' p mS a
 | .ok (n, us) => v = vT [vI n, vI 0] ∧ ∃ hb', Ext hb hb' ∧ AS hb' h' p mS { a with uses := a.uses ++ us }
theorem value_t {hb : PHeap} {p mS : Nat} {a : As.St} {h : PHeap} {t : Bytes} {low high : Int} {kind idx f : Nat} {y : List Value} (hA : AS hb h p mS a) (hl : t.length ≤ 1000000) (hU : a.uses.length ≤ 8000000) (hP : PutAt hb p kind idx f y) (lowR highR : Int)
 (hlow : low = (if kind = 2 then -4611686018427387904 else lowR)) (hhigh : high = (if kind = 2 then 4611686018427387904 else highR)) (h2 : kind = 2 → lowR = -9999999999 ∧ highR = 9999999999) :
 Tri Tryz.prog 110 [vP p 0, vS t, vI low, vI high, vF f [] y] h fun v h' => ValP hb p mS a (valueS a.line t kind idx lowR highR) v h' := by
 refine T110 ?_
 unfold R110
 intro b1 hb1 h1 hh1 b2 hb2 h2' hh2 b3 hb3 h3 hh3 b4 hb4 h4 hh4 b5 hb5 h5 hh5
 have x1 := Put.ext hh1 hb1
 have x2 := Put.ext hh2 hb2
 have x3 := Put.ext hh3 hb3
 have x4 := Put.ext hh4 hb4
 have x5 := Put.ext hh5 hb5
 have x25 := ((x2.trans x3).trans x4).trans x5
 have hc1 : h5 b1 = some (.cells ⟨[vP p 0]⟩ 68 (0, 0)) := x25 _ _ (Put.at hh1)
 have hc2 : h5 b2 = some (.cells ⟨[vS t]⟩ 9 (0, 0)) := ((x3.trans x4).trans x5) _ _ (Put.at hh2)
 have hc3 : h5 b3 = some (.cells ⟨[vI low]⟩ 3 (0, 0)) := (x4.trans x5) _ _ (Put.at hh3)
 have hc4 : h5 b4 = some (.cells ⟨[vI high]⟩ 3 (0, 0)) := x5 _ _ (Put.at hh4)
 have hc5 : h5 b5 = some (.cells ⟨[vF f [] y]⟩ 150 (0, 0)) := Put.at hh5
 have hx5 := x1.trans x25
 have n1 : h b1 = none := hb1
 have n2 : h b2 = none := x1.dom _ hb2
 have n3 : h b3 = none := (x1.trans x2).dom _ hb3
 have n4 : h b4 = none := ((x1.trans x2).trans x3).dom _ hb4
 have n5 : h b5 = none := (((x1.trans x2).trans x3).trans x4).dom _ hb5
 clear hh1 hh2 hh3 hh4 hh5 x1 x2 x3 x4 x5 x25 hb1 hb2 hb3 hb4 hb5 h1 h2' h3 h4
 refine ⟨_, cell_of hc2 0, ?_⟩
 refine Tri.mono (number_t h5 t hl) ?_
 rintro _ h6 ⟨rfl, hx6⟩
 have c1 : h6.cell b1 0 = some (vP p 0) := cell_of (hx6 _ _ hc1) 0
 have c2 : h6.cell b2 0 = some (vS t) := cell_of (hx6 _ _ hc2) 0
 have c3 : h6.cell b3 0 = some (vI low) := cell_of (hx6 _ _ hc3) 0
 have c4 : h6.cell b4 0 = some (vI high) := cell_of (hx6 _ _ hc4) 0
 unfold numVal
 cases hnum : numberS t with
 | some n =>
   have hn := number_range hnum
   refine ⟨_, _, rfl, br_pos rfl ⟨_, c3, ?_⟩⟩
   have hA6 := hA.grow (hx5.trans hx6)
   have hval : valueS a.line t kind idx lowR highR = if n < lowR ∨ highR < n then .error 2 else .ok (n, []) := by unfold valueS; rw [hnum]
   have err : (n < lowR ∨ highR < n) → ValP hb p mS a (valueS a.line t kind idx lowR highR) (vT [vI 0, vI 2]) h6 := fun hc => by
    rw [hval, if_pos hc]
    exact ⟨rfl, by decide, hb, Ext.refl _, hA6⟩
   refine br_split (fun e => err (.inl ?_)) fun e1 => ⟨_, c4, br_split (fun e => err (.inr ?_)) fun e2 => ?_⟩
   · have := of_decide_eq_true e
     rw [hlow] at this
     split at this
     · omega
     · exact this
   · have := of_decide_eq_true e
     rw [hhigh] at this
     split at this
     · omega
     · exact this
   · have g1 := of_decide_eq_false e1
     have g2 := of_decide_eq_false e2
     have : ¬ (n < lowR ∨ highR < n) := by
      by_cases hk : kind = 2
      · have := h2 hk; omega
      · rw [hlow, if_neg hk] at g1
        rw [hhigh, if_neg hk] at g2
        omega
     rw [hval, if_neg this]
     refine ⟨rfl, hb, Ext.refl _, ?_⟩
     simp only [List.append_nil]
     exact hA6
 | none =>
   refine ⟨_, _, rfl, br_neg rfl ⟨_, c2, ?_⟩⟩
   refine Tri.mono (label_t h6 t) ?_
   rintro _ h6 ⟨rfl, rfl⟩
   refine ⟨_, rfl, br_split (fun e => ?_) fun e => ?_⟩
   · rw [show valueS a.line t kind idx lowR highR = .error 3 by unfold valueS; rw [hnum]; simp only; rw [if_neg (by rw [not_f e]; decide)]]
     exact ⟨rfl, by decide, hb, Ext.refl _, hA.grow (hx5.trans hx6)⟩
   · have hval : valueS a.line t kind idx lowR highR = .ok (0, [⟨a.line, kind, idx, lowR, highR, t⟩]) := by unfold valueS; rw [hnum]; simp only; rw [if_pos (not_t e)]
     obtain ⟨hb', hbx, hA', hin⟩ := hA.rebase (hx5.trans hx6)
     have d1 := hin b1 _ n1 (hx6 _ _ hc1)
     have d2 := hin b2 _ n2 (hx6 _ _ hc2)
     have d3 := hin b3 _ n3 (hx6 _ _ hc3)
     have d4 := hin b4 _ n4 (hx6 _ _ hc4)
     have d5 := hin b5 _ n5 (hx6 _ _ hc5)
     obtain ⟨K, hK⟩ := hA'
     have p12 : h6.cell p 12 = some (vL K.ua a.uses.length K.uc) := by rw [PA_cell hK.obj]; rfl
     have p11 : h6.cell p 11 = some (vI (a.line : Int)) := by rw [PA_cell hK.obj]; rfl
     refine ⟨_, _, c1, _, _, c1, _, _, _, (by rw [Nat.zero_add]; exact p12), _, _, c1, _, (by rw [Nat.zero_add]; exact p11), ?_⟩
     intro b6 hb6 h8 hh8
     have x8 := Put.ext hh8 hb6
     have hK8 := hK.grow x8
     refine ⟨by rw [Nat.zero_add]; exact cell_ext (fun ob => x8 p ob) p11, cell_ext (fun ob => x8 b1 ob) c1, by rw [Nat.zero_add]; exact cell_ext (fun ob => x8 p ob) p12, cell_ext (fun ob => x8 b1 ob) c1, cell_ext (fun ob => x8 b1 ob) c1, ?_⟩
     refine Raw.mono (LM.push und72 elem78 rfl rfl rfl rfl rfl hK.ext hK.uses hb6 hh8 rfl rfl (by omega)) ?_
     rintro _ h9 ⟨b7, cap, rfl, hx9, hM9, hg⟩
     have hp9 : h9 p = h8 p := hg.ne (hK8.uses) hK8.obj (notE_cells (by decide) _ _)
     have p11' : h9.cell p 11 = some (vI (a.line : Int)) := by rw [cell_eq hp9]; exact cell_ext (fun ob => x8 p ob) p11
     have c1' : h9.cell b1 0 = some (vP p 0) := cell_ext (fun ob hob => hx9 _ _ (by rw [d1]; rw [hx6 _ _ hc1] at hob; exact hob)) c1
     refine ⟨_, _, _, rfl, by rw [Nat.zero_add]; exact p11', c1', c1', c1', _, _, _, by rw [hp9]; exact hK8.obj, ⟨by simp, Nat.zero_le _⟩, ?_⟩
     rintro h10 rfl
     rw [hval]
     refine ⟨rfl, hb', hbx, ?_⟩
     have hU8 : UsesAt hb' p (a.uses ++ [⟨a.line, kind, idx, lowR, highR, t⟩]) (K.ul ++ [[vI (a.line : Int), vF 142 [] [vP b1 0, vP b2 0, vP b3 0, vP b4 0, vP b5 0]]]) := by
      refine hK.useAt.snoc ⟨b1, b2, b3, b4, b5, f, y, rfl, cell_of d1 0, cell_of d2 0, ?_, ?_, cell_of d5 0, hP.ext hbx⟩
      · rw [cell_of d3 0]; unfold lowM; rw [hlow]; rfl
      · rw [cell_of d4 0]; unfold highM; rw [hhigh]; rfl
     have hne78 : NotE 78 (PA mS K.ca a.p.code.length K.cc a.p.zero a.p.entry K.da a.p.data.length K.dc a.inData a.hasEntry a.hasZero K.mb a.line K.ua a.uses.length K.uc) := notE_cells (by decide) _ _
     have hmb : K.mb ≠ p := fun e => by
      have := hK.labs
      rw [e, hK.obj] at this; cases this
     have hobj9 : h9 p = some (PA mS K.ca a.p.code.length K.cc a.p.zero a.p.entry K.da a.p.data.length K.dc a.inData a.hasEntry a.hasZero K.mb a.line K.ua a.uses.length K.uc) := by rw [hp9]; exact hK8.obj
     refine ⟨⟨K.ca, K.cc, K.da, K.dc, ad b7 0, cap, K.mb, K.ul ++ [[vI (a.line : Int), vF 142 [] [vP b1 0, vP b2 0, vP b3 0, vP b4 0, vP b5 0]]]⟩, ?_⟩
     refine ⟨fun q o hq => ?_, hK.new, ?_, ?_, ?_, ?_, hU8, hK.mnew, ?_⟩
     · rw [put_ne fun e => by subst e; rw [hK.new] at hq; cases hq]; exact hx9 _ _ hq
     · rw [put_same]; simp [PA, splice]
     · exact (hK8.code.other hK8.uses (by decide) hg).put hobj9 (notE_cells (by decide) _ _)
     · exact (hK8.data.other hK8.uses (by decide) hg).put hobj9 (notE_cells (by decide) _ _)
     · have := hM9.put (o' := PA mS K.ca a.p.code.length K.cc a.p.zero a.p.entry K.da a.p.data.length K.dc a.inData a.hasEntry a.hasZero K.mb a.line (ad b7 0) (a.uses.length + 1) cap) hobj9 hne78
       simp only [List.length_append, List.length_cons, List.length_nil]
       exact this
     · rw [put_ne hmb, hg.ne hK8.uses hK8.labs (notE_map _ _)]; exact hK8.labs
end
end Go.Proofs.D
namespace Go.Proofs.D
open Go Go.Den Go.As
set_option maxRecDepth 100000
theorem word_bytes (n : Int) : [IntKind.u8.wrap (IntKind.u32.wrap n), IntKind.u8.wrap (Int.fdiv (IntKind.u32.wrap n) 256), IntKind.u8.wrap (Int.fdiv (IntKind.u32.wrap n) 65536), IntKind.u8.wrap (Int.fdiv (IntKind.u32.wrap n) 16777216)] = (wordOf n).map fun c => (c.toNat : Int) := by
 have h0 : 0 ≤ n % 4294967296 := Int.emod_nonneg _ (by decide)
 unfold wordOf
 simp only [u8_wrap, u32_wrap, List.map_cons, List.map_nil, UInt8.toNat_ofNat']
 have hd : ∀ k : Int, 0 ≤ k → Int.fdiv (n % 4294967296) k = (n % 4294967296) / k := fun k hk => Int.fdiv_eq_ediv_of_nonneg _ hk
 rw [hd 256 (by decide), hd 65536 (by decide), hd 16777216 (by decide)]
 refine congr (congrArg List.cons ?_) (congr (congrArg List.cons ?_) (congr (congrArg List.cons ?_) (congrArg (fun x => [x]) ?_))) <;> omega
attribute [local irreducible] IntKind.wrap Tri
section
variable {hb h : PHeap} {p mS : Nat} {a : As.St} {K : AK}
theorem notP (e : Nat) (he : 74 ≠ e) {ca : OA} {cn cc : Nat} {zero entry : Int} {da : OA} {dn dc : Nat} {ind he' hz : Bool} {mb : Nat} {line : Int} {ua : OA} {un uc : Nat} : NotE e (PA mS ca cn cc zero entry da dn dc ind he' hz mb line ua un uc) := notE_cells he _ _
theorem ASK.mbp (hA : ASK hb h p mS a K) : K.mb ≠ p := fun e => by
 have := hA.labs
 rw [e, hA.obj] at this; cases this
theorem ASK.appData {h9 : PHeap} {b m cap : Nat} {l : Bytes} {o : Obj} (hA : ASK hb h p mS a K) (hm : l.length = m) (hx9 : Ext hb h9) (hM9 : LM 5 1 hb h9 (ad b 0) (a.p.data.length + m) cap (bL a.p.data ++ bL l)) (hg : Grows K.da h h9 b)
 (ho : o = PA mS K.ca a.p.code.length K.cc a.p.zero a.p.entry (ad b 0) (a.p.data.length + m) cap a.inData a.hasEntry a.hasZero K.mb a.line K.ua a.uses.length K.uc) :
 h9 p = h p ∧ ASK hb (h9.put p o) p mS { a with p := { a.p with data := a.p.data ++ l } } { K with da := ad b 0, dc := cap } := by
 subst ho; subst hm
 have hp9 : h9 p = h p := hg.ne hA.data hA.obj (notP 5 (by decide))
 have hobj9 : h9 p = some (PA mS K.ca a.p.code.length K.cc a.p.zero a.p.entry K.da a.p.data.length K.dc a.inData a.hasEntry a.hasZero K.mb a.line K.ua a.uses.length K.uc) := by rw [hp9]; exact hA.obj
 refine ⟨hp9, fun q o hq => ?_, hA.new, ?_, ?_, ?_, ?_, hA.useAt, hA.mnew, ?_⟩
 · rw [put_ne fun e => by subst e; rw [hA.new] at hq; cases hq]; exact hx9 _ _ hq
 · rw [put_same]; simp
 · exact (hA.code.other hA.data (by decide) hg).put hobj9 (notP 58 (by decide))
 · simp only [List.length_append]
   rw [bL_app]
   exact hM9.put hobj9 (notP 5 (by decide))
 · exact (hA.uses.other hA.data (by decide) hg).put hobj9 (notP 78 (by decide))
 · rw [put_ne hA.mbp, hg.ne hA.data hA.labs (notE_map _ _)]; exact hA.labs
theorem ASK.appCode {h9 : PHeap} {b cap : Nat} {x : Ins} {o : Obj} (hA : ASK hb h p mS a K) (hx9 : Ext hb h9) (hM9 : LM 58 4 hb h9 (ad b 0) (a.p.code.length + 1) cap (inL a.p.code ++ [insC x])) (hg : Grows K.ca h h9 b)
 (ho : o = PA mS (ad b 0) (a.p.code.length + 1) cap a.p.zero a.p.entry K.da a.p.data.length K.dc a.inData a.hasEntry a.hasZero K.mb a.line K.ua a.uses.length K.uc) :
 h9 p = h p ∧ ASK hb (h9.put p o) p mS { a with p := { a.p with code := a.p.code ++ [x] } } { K with ca := ad b 0, cc := cap } := by
 subst ho
 have hp9 : h9 p = h p := hg.ne hA.code hA.obj (notP 58 (by decide))
 have hobj9 : h9 p = some (PA mS K.ca a.p.code.length K.cc a.p.zero a.p.entry K.da a.p.data.length K.dc a.inData a.hasEntry a.hasZero K.mb a.line K.ua a.uses.length K.uc) := by rw [hp9]; exact hA.obj
 refine ⟨hp9, fun q o hq => ?_, hA.new, ?_, ?_, ?_, ?_, hA.useAt, hA.mnew, ?_⟩
 · rw [put_ne fun e => by subst e; rw [hA.new] at hq; cases hq]; exact hx9 _ _ hq
 · rw [put_same]; simp
 · have e : inL (a.p.code ++ [x]) = inL a.p.code ++ [insC x] := by simp [inL]
   simp only [List.length_append, List.length_cons, List.length_nil]
   rw [e]
   exact hM9.put hobj9 (notP 58 (by decide))
 · exact (hA.data.other hA.code (by decide) hg).put hobj9 (notP 5 (by decide))
 · exact (hA.uses.other hA.code (by decide) hg).put hobj9 (notP 78 (by decide))
 · rw [put_ne hA.mbp, hg.ne hA.code hA.labs (notE_map _ _)]; exact hA.labs
theorem put109_k {c : Nat} {n : Int} (hA : ASK hb h p mS a K) (hc : hb.cell c 0 = some (vP p 0)) : Tri Tryz.prog 109 [vI n, vP c 0] h fun v h' => v = vT [] ∧ ASK hb h' p mS { a with p := { a.p with entry := n } } K := by
 refine T109 ?_
 unfold R109
 refine ⟨_, _, cell_ext (fun ob => hA.ext c ob) hc, _, _, _, hA.obj, ⟨by simp, Nat.zero_le _⟩, ?_⟩
 rintro _ rfl
 exact ⟨rfl, hA.set (a' := { a with p := { a.p with entry := n } }) rfl rfl rfl rfl rfl⟩
theorem put115_k {c d idx : Nat} {n : Int} (hA : ASK hb h p mS a K) (hc : hb.cell c 0 = some (vP p 0)) (hd : hb.cell d 0 = some (vI (idx : Int))) (hi : idx < a.p.code.length) :
 Tri Tryz.prog 115 [vI n, vP c 0, vP d 0] h fun v h' => v = vT [] ∧ ASK hb h' p mS { a with p := { a.p with code := setC a.p.code idx n } } K := by
 obtain ⟨b, rest, hca, hbk, hr, hcc, hfl⟩ := hA.code.open (by omega)
 refine T115 ?_
 unfold R115
 refine ⟨_, _, cell_ext (fun ob => hA.ext c ob) hc, _, _, _, (by rw [PA_cell hA.obj]; rfl), _, cell_ext (fun ob => hA.ext d ob) hd, b, 0, hca, ⟨by omega, by omega⟩, _, _, _, hbk, ⟨?_, Nat.zero_le _⟩, ?_⟩
 · rw [Int.toNat_natCast, List.length_append, hfl]
   have : (idx + 1) * 4 ≤ a.p.code.length * 4 := Nat.mul_le_mul_right _ hi
   omega
 rintro _ rfl
 have hM := hA.code
 have each : ∀ cs ∈ inL a.p.code, cs.length = 4 := fun cs hcs => by obtain ⟨x, _, rfl⟩ := List.mem_map.1 hcs; rfl
 have hsp := flatten_modify 4 (inL a.p.code) idx 3 (vI n) rest each (by simpa [inL] using hi) (by decide)
 rw [Int.toNat_natCast, Nat.zero_add, hsp, inL_setC]
 have hl2 : (setC a.p.code idx n).length = a.p.code.length := by simp [setC]
 have hM2 : LM 58 4 hb (h.put b (.cells ⟨(inL (setC a.p.code idx n)).flatten ++ rest⟩ 58 (0, 0))) K.ca a.p.code.length K.cc (inL (setC a.p.code idx n)) := by
  rw [hca] at hM ⊢
  exact hM.write hbk hr hcc (by omega) (by rw [inL, List.length_map, hl2]) (fun cs hcs => by obtain ⟨x, _, rfl⟩ := List.mem_map.1 hcs; rfl)
 have hbp : b ≠ p := hM.ne hA.obj (notP 58 (by decide)) b hca
 have hbm : b ≠ K.mb := hM.ne hA.labs (notE_map _ _) b hca
 refine ⟨rfl, fun q o hq => ?_, hA.new, ?_, ?_, ?_, ?_, hA.useAt, hA.mnew, ?_⟩
 · rw [put_ne fun e => by subst e; rw [(hM.own q hca).1] at hq; cases hq]; exact hA.ext _ _ hq
 · rw [put_ne (Ne.symm hbp)]; simp only [hl2]; exact hA.obj
 · simp only [hl2]; exact hM2
 · exact hA.data.put hbk (notE_cells (by decide) _ _)
 · exact hA.uses.put hbk (notE_cells (by decide) _ _)
 · rw [put_ne (Ne.symm hbm)]; exact hA.labs
theorem unsigned_t (n : Int) : Tri Tryz.prog 113 [vI n] h fun v h' => v = .int .u32 (IntKind.u32.wrap n) ∧ h' = h := by
 refine T113 ?_
 unfold R113
 exact ⟨rfl, rfl⟩
theorem vU_word (n : Int) : [vU (IntKind.u8.wrap (IntKind.u32.wrap n)), vU (IntKind.u8.wrap (Int.fdiv (IntKind.u32.wrap n) 256)), vU (IntKind.u8.wrap (Int.fdiv (IntKind.u32.wrap n) 65536)), vU (IntKind.u8.wrap (Int.fdiv (IntKind.u32.wrap n) 16777216))] = (wordOf n).map byteV := by
 have := congrArg (List.map vU) (word_bytes n)
 rw [List.map_map] at this
 exact this
theorem wordOf_len (n : Int) : (wordOf n).length = 4 := rfl
theorem put112_k {c d idx : Nat} {n : Int} (hA : ASK hb h p mS a K) (hc : hb.cell c 0 = some (vP p 0)) (hd : hb.cell d 0 = some (vI (idx : Int))) (hi : idx + 4 ≤ a.p.data.length) :
 Tri Tryz.prog 112 [vI n, vP c 0, vP d 0] h fun v h' => v = vT [] ∧ ASK hb h' p mS { a with p := { a.p with data := putW a.p.data idx n } } K := by
 obtain ⟨b, rest, hda, hbk, hr, hcc, hfl⟩ := hA.data.open (by omega)
 have hM := hA.data
 refine T112 ?_
 unfold R112
 refine Tri.mono (unsigned_t n) ?_
 rintro _ h ⟨rfl, rfl⟩
 refine ⟨_, rfl, _, _, cell_ext (fun ob => hA.ext c ob) hc, _, _, _, (by rw [PA_cell hA.obj]; rfl), _, cell_ext (fun ob => hA.ext d ob) hd, ⟨.inl ⟨b, 0, hda⟩, by omega, by omega, by omega⟩, ?_⟩
 intro a2 hs2 b1 hb1 h2 hh2
 have x2 := Put.ext hh2 hb1
 have hA2 := hA.grow x2
 obtain ⟨o', ha2, ho'⟩ := hs2.1 b 0 hda
 have ho' := ho' (.inl (by omega))
 rw [Int.toNat_natCast, Nat.zero_add, Nat.mul_one] at ho'
 have ho' := ho'.symm
 subst ho'
 rw [vU_word] at hh2
 refine ⟨cell_ext (fun ob => x2 d ob) (cell_ext (fun ob => hA.ext d ob) hd), (by rw [PA_cell hA2.obj]; rfl), cell_ext (fun ob => x2 c ob) (cell_ext (fun ob => hA.ext c ob) hc), ?_⟩
 have hbk2 := x2 _ _ hbk
 refine Raw.mono (raw_copy (dl := ((a.p.data.length : Int).toNat - ((idx : Nat) : Int).toNat)) (dc := K.dc - ((idx : Nat) : Int).toNat) (sc := 4) (b := b) (o := ((idx : Nat) : Int).toNat) (s := b1) (cs := (wordOf n).map byteV) rfl rfl rfl und40 rfl (by rw [ha2]; rfl) rfl hbk2 (row_lit (Put.at hh2) fun j v hj => by rw [Nat.zero_add]; exact hj) (by simp [wordOf_len]; omega) (by simp [wordOf_len, hfl]; omega) rfl) ?_
 rintro _ h3 ⟨rfl, rfl⟩
 have hM2 := hA2.data
 have hl2 : (putW a.p.data idx n).length = a.p.data.length := by simp [putW, wordOf_len]; omega
 have hcur : splice ((bL a.p.data).flatten ++ rest) ((idx : Nat) : Int).toNat ((wordOf n).map byteV) = (bL (putW a.p.data idx n)).flatten ++ rest := by
  rw [bL_flat, bL_flat, Int.toNat_natCast]
  unfold splice putW
  simp only [List.length_map, wordOf_len]
  rw [List.take_append_of_le_length (by simp; omega), List.drop_append_of_le_length (by simp; omega)]
  simp
 rw [hcur]
 have hM3 : LM 5 1 hb (h2.put b (.cells ⟨(bL (putW a.p.data idx n)).flatten ++ rest⟩ 5 (0, 0))) K.da a.p.data.length K.dc (bL (putW a.p.data idx n)) := by
  rw [hda] at hM2 ⊢
  exact hM2.write hbk2 hr hcc (by omega) (by rw [bL, List.length_map, hl2]) (fun cs hcs => by obtain ⟨x, _, rfl⟩ := List.mem_map.1 hcs; rfl)
 have hbp : b ≠ p := hM2.ne hA2.obj (notP 5 (by decide)) b hda
 have hbm : b ≠ K.mb := hM2.ne hA2.labs (notE_map _ _) b hda
 have hE : Ext hb (h2.put b (.cells ⟨(bL (putW a.p.data idx n)).flatten ++ rest⟩ 5 (0, 0))) := fun q o hq => by
  rw [put_ne fun e => by subst e; rw [(hM2.own q hda).1] at hq; cases hq]; exact hA2.ext _ _ hq
 have hobj3 : (h2.put b (.cells ⟨(bL (putW a.p.data idx n)).flatten ++ rest⟩ 5 (0, 0))) p = some (PA mS K.ca a.p.code.length K.cc a.p.zero a.p.entry K.da a.p.data.length K.dc a.inData a.hasEntry a.hasZero K.mb a.line K.ua a.uses.length K.uc) := by
  rw [put_ne (Ne.symm hbp)]; exact hA2.obj
 refine ⟨_, rfl, cell_ext (fun ob => hE d ob) hd, (by rw [PA_cell hobj3]; rfl), cell_ext (fun ob => hE c ob) hc, rfl, hE, hA.new, ?_, ?_, ?_, ?_, hA.useAt, hA.mnew, ?_⟩
 · simp only [hl2]; exact hobj3
 · exact hA2.code.put hbk2 (notE_cells (by decide) _ _)
 · simp only [hl2]; exact hM3
 · exact hA2.uses.put hbk2 (notE_cells (by decide) _ _)
 · rw [put_ne (Ne.symm hbm)]; exact hA2.labs
theorem put109_t {c : Nat} {n : Int} (hA : AS hb h p mS a) (hc : hb.cell c 0 = some (vP p 0)) : Tri Tryz.prog 109 [vI n, vP c 0] h fun v h' => v = vT [] ∧ AS hb h' p mS { a with p := { a.p with entry := n } } := by
 obtain ⟨K, hA⟩ := hA
 exact Tri.mono (put109_k hA hc) fun v h' hh => ⟨hh.1, K, hh.2⟩
theorem put115_t {c d idx : Nat} {n : Int} (hA : AS hb h p mS a) (hc : hb.cell c 0 = some (vP p 0)) (hd : hb.cell d 0 = some (vI (idx : Int))) (hi : idx < a.p.code.length) :
 Tri Tryz.prog 115 [vI n, vP c 0, vP d 0] h fun v h' => v = vT [] ∧ AS hb h' p mS { a with p := { a.p with code := setC a.p.code idx n } } := by
 obtain ⟨K, hA⟩ := hA
 exact Tri.mono (put115_k hA hc hd hi) fun v h' hh => ⟨hh.1, K, hh.2⟩
theorem put112_t {c d idx : Nat} {n : Int} (hA : AS hb h p mS a) (hc : hb.cell c 0 = some (vP p 0)) (hd : hb.cell d 0 = some (vI (idx : Int))) (hi : idx + 4 ≤ a.p.data.length) :
 Tri Tryz.prog 112 [vI n, vP c 0, vP d 0] h fun v h' => v = vT [] ∧ AS hb h' p mS { a with p := { a.p with data := putW a.p.data idx n } } := by
 obtain ⟨K, hA⟩ := hA
 exact Tri.mono (put112_k hA hc hd hi) fun v h' hh => ⟨hh.1, K, hh.2⟩
end
end Go.Proofs.D
namespace Go.Proofs.D
open Go Go.Den Go.As
set_option maxRecDepth 100000
attribute [local irreducible] IntKind.wrap Tri
section
variable {hb h : PHeap} {p mS : Nat} {a : As.St} {a3 : OA} {k3 : Nat} {os : List Tk}
theorem tk_cell {n : Nat} (hA : AS hb h p mS a) (hT : TkAt hb a3 os) {t : Tk} {j : Nat} (hj : os[j]? = some t) : ∃ b o, a3 = some ⟨b, o, none⟩ ∧ h.cell b (o + j * 2) = some (vI (t.kind : Int)) ∧ h.cell b (o + j * 2 + 1) = some (vS t.text) := by
 obtain ⟨b, o, h1, h2⟩ := (hT.ext hA.ext).get hj
 exact ⟨b, o, h1, (row_hd h2).1, (row_hd h2).2⟩
theorem res_err {e : Nat} {h' : PHeap} {r : As.R As.St} (hr : r = .error e) (he : e ≠ 0) {hb' : PHeap} (hx : Ext hb hb') (hA : AS hb' h' p mS a) : Res hb p mS a.line r (vI (e : Int)) h' := by
 subst hr
 exact ⟨rfl, he, hx.trans hA.ext, hA.line⟩
theorem begin76_t (hA : AS hb h p mS a) (n3 : Nat) : Tri Tryz.prog 76 [vP p 0, vL a3 n3 k3] h fun v h' => Res hb p mS a.line (.ok { a with inData := false }) v h' := by
 obtain ⟨K, hA⟩ := hA
 refine T76 ?_
 unfold R76
 refine ⟨_, _, _, hA.obj, ⟨by simp, Nat.zero_le _⟩, ?_⟩
 rintro _ rfl
 exact ⟨rfl, hb, Ext.refl _, K, hA.set (a' := { a with inData := false }) rfl rfl rfl rfl rfl⟩
theorem begin77_t (hA : AS hb h p mS a) (n3 : Nat) : Tri Tryz.prog 77 [vP p 0, vL a3 n3 k3] h fun v h' => Res hb p mS a.line (.ok { a with inData := true }) v h' := by
 obtain ⟨K, hA⟩ := hA
 refine T77 ?_
 unfold R77
 refine ⟨_, _, _, hA.obj, ⟨by simp, Nat.zero_le _⟩, ?_⟩
 rintro _ rfl
 exact ⟨rfl, hb, Ext.refl _, K, hA.set (a' := { a with inData := true }) rfl rfl rfl rfl rfl⟩
theorem lit_err {t : Bytes} {low high : Int} {e : Nat} (h : literalS t low high = .error e) : e ≠ 0 := by
 unfold literalS at h
 split at h
 · split at h
   · injection h with h; omega
   · cases h
 · injection h with h; omega
theorem lit_range {t : Bytes} {low high : Int} {n : Int} (h : literalS t low high = .ok n) : low ≤ n ∧ n ≤ high := by
 unfold literalS at h
 split at h
 · split at h
   · cases h
   · injection h with h; omega
 · cases h
def zeroX (a : As.St) (t : Bytes) : As.R As.St := (literalS t 0 4096) >>= fun n => .ok { a with p := { a.p with zero := n }, hasZero := true }
theorem zero79_t (hA : AS hb h p mS a) {t : Tk} (hT : TkAt hb a3 [t]) (hl : t.text.length ≤ 1000000) : Tri Tryz.prog 79 [vP p 0, vL a3 1 k3] h fun v h' => Res hb p mS a.line (zeroX a t.text) v h' := by
 refine T79 ?_
 unfold R79
 obtain ⟨b, o, ha, _, hc⟩ := tk_cell (n := 1) hA hT (t := t) (j := 0) rfl
 rw [Nat.zero_mul, Nat.add_zero] at hc
 refine ⟨b, o, ha, ⟨by omega, by omega⟩, _, hc, ?_⟩
 refine Tri.mono (literal_t h t.text 0 4096 hl) ?_
 rintro _ h1 ⟨rfl, hx⟩
 have hA1 := hA.grow hx
 unfold zeroX
 cases hlit : literalS t.text 0 4096 with
 | error e =>
   have he := lit_err hlit
   exact ⟨_, _, rfl, br_pos (by simp; omega) (res_err rfl he (Ext.refl _) hA1)⟩
 | ok n =>
   obtain ⟨K, hK⟩ := hA1
   refine ⟨_, _, rfl, br_neg rfl ⟨_, _, _, hK.obj, ⟨by simp, Nat.zero_le _⟩, ?_⟩⟩
   rintro _ rfl
   have hK2 : ASK hb _ p mS { a with hasZero := true } K := hK.set (a' := { a with hasZero := true }) rfl rfl rfl rfl rfl
   refine ⟨_, _, _, hK2.obj, ⟨by simp, Nat.zero_le _⟩, ?_⟩
   rintro _ rfl
   exact ⟨rfl, hb, Ext.refl _, K, hK2.set (a' := { a with p := { a.p with zero := n }, hasZero := true }) rfl rfl rfl rfl rfl⟩
def entryX (a : As.St) (t : Bytes) : As.R As.St := (valueS a.line t 2 0 (-9999999999) 9999999999) >>= fun x => .ok { a with p := { a.p with entry := x.1 }, hasEntry := true, uses := a.uses ++ x.2 }
theorem entry78_t (hA : AS hb h p mS a) {t : Tk} (hT : TkAt hb a3 [t]) (hl : t.text.length ≤ 1000000) (hU : a.uses.length ≤ 8000000) : Tri Tryz.prog 78 [vP p 0, vL a3 1 k3] h fun v h' => Res hb p mS a.line (entryX a t.text) v h' := by
 refine T78 ?_
 unfold R78
 intro b1 hb1 h1 hh1
 have x1 := Put.ext hh1 hb1
 obtain ⟨hb2, hbx, hA2, hin⟩ := hA.rebase x1
 have d1 : hb2.cell b1 0 = some (vP p 0) := cell_of (hin b1 _ hb1 (Put.at hh1)) 0
 obtain ⟨b, o, ha, _, hc⟩ := tk_cell (n := 1) hA2 (hT.ext hbx) (t := t) (j := 0) rfl
 rw [Nat.zero_mul, Nat.add_zero] at hc
 refine ⟨_, _, cell_of (Put.at hh1) 0, b, o, ha, ⟨by omega, by omega⟩, _, hc, ?_⟩
 refine Tri.mono (value_t (kind := 2) (idx := 0) hA2 hl hU (.inl ⟨rfl, rfl, b1, rfl, d1⟩) (-9999999999) 9999999999 rfl rfl (fun _ => ⟨rfl, rfl⟩)) ?_
 intro v h3 hV
 unfold entryX
 cases hv : valueS a.line t.text 2 0 (-9999999999) 9999999999 with
 | error e =>
   rw [hv] at hV
   obtain ⟨rfl, he, hb3, hbx3, hA3⟩ := hV
   exact ⟨_, _, rfl, br_pos (by simp; omega) (res_err rfl he (hbx.trans hbx3) hA3)⟩
 | ok x =>
   obtain ⟨n, us⟩ := x
   rw [hv] at hV
   obtain ⟨rfl, hb3, hbx3, K, hK⟩ := hV
   have d3 := cell_ext (fun ob => hbx3 b1 ob) d1
   refine ⟨_, _, rfl, br_neg rfl ⟨_, _, cell_ext (fun ob => hK.ext b1 ob) d3, _, _, _, hK.obj, ⟨by simp, Nat.zero_le _⟩, ?_⟩⟩
   rintro _ rfl
   have hK2 := hK.set (a' := { a with hasEntry := true, uses := a.uses ++ us }) rfl rfl rfl rfl rfl
   refine Tri.mono (put109_t ⟨K, hK2⟩ d3) ?_
   rintro _ h4 ⟨rfl, hA4⟩
   exact ⟨rfl, rfl, hb3, hbx.trans hbx3, hA4⟩
theorem u8_byte (n : Int) : IntKind.u8.wrap n = ((As.byteOf n).toNat : Int) := by
 rw [u8_wrap]
 unfold As.byteOf
 rw [UInt8.toNat_ofNat']
 have : 0 ≤ n % 256 := Int.emod_nonneg _ (by decide)
 omega
theorem bytes81_t (hA : AS hb h p mS a) (hT : TkAt hb a3 os) (hl : ∀ t ∈ os, t.text.length ≤ 1000000) (hn : os.length ≤ 1000000) (hD : a.p.data.length ≤ 1000000) : Tri Tryz.prog 81 [vP p 0, vL a3 os.length k3] h fun v h' => Res hb p mS a.line (bytesS a os) v h' := by
 refine T81 ?_
 unfold R81
 refine ⟨fun m i h' => ∃ (j : Nat) (a' : As.St), i = (j : Int) ∧ j + m = os.length ∧ AS hb h' p mS a' ∧ a'.line = a.line ∧ a'.p.data.length ≤ a.p.data.length + j ∧ bytesS a os = bytesS a' (os.drop j), ⟨os.length, 0, a, rfl, by omega, hA, rfl, by omega, rfl⟩, ?_⟩
 rintro m _ h1 ⟨j, a', rfl, hjm, hA1, hline, hd, hb81⟩
 refine br_split (fun e => ?_) fun e => ?_
 · have hlt : j < os.length := by have := of_decide_eq_true e; omega
   have hdr := List.drop_eq_getElem_cons hlt
   have hg : os[j]? = some os[j] := by simp [hlt]
   have hm := List.getElem_mem hlt
   have hlen := hl _ hm
   rw [hdr] at hb81
   generalize os[j] = t at *
   obtain ⟨b, o, ha, hr⟩ := (hT.ext hA1.ext).get hg
   refine ⟨b, o, ha, ⟨by omega, by omega⟩, _, _, (by rw [Int.toNat_natCast]; exact hr), ?_⟩
   refine Tri.mono (literal_t h1 t.text (-128) 255 hlen) ?_
   rintro _ h2 ⟨rfl, hx⟩
   have hA2 := hA1.grow hx
   rw [bytesS] at hb81
   cases hlit : literalS t.text (-128) 255 with
   | error e =>
     have he := lit_err hlit
     rw [hlit] at hb81
     refine ⟨_, _, rfl, br_pos (by simp; omega) ?_⟩
     rw [← hline]
     exact res_err hb81 he (Ext.refl _) hA2
   | ok n =>
     rw [hlit] at hb81
     obtain ⟨K, hK⟩ := hA2
     refine ⟨_, _, rfl, br_neg rfl ⟨_, _, _, (by rw [PA_cell hK.obj]; rfl), ?_⟩⟩
     intro b2 hb2 h3 hh3
     have x3 := Put.ext hh3 hb2
     have hK3 := hK.grow x3
     rw [u8_byte] at hh3
     refine Raw.mono (LM.push und40 elem5 rfl rfl rfl rfl rfl hK.ext hK.data hb2 hh3 rfl rfl (by omega)) ?_
     rintro _ h4 ⟨b5, cap, rfl, hx4, hM4, hg4⟩
     obtain ⟨hp4, hK4⟩ := hK3.appData (l := [As.byteOf n]) (m := 1) rfl hx4 hM4 hg4 rfl
     refine ⟨_, _, _, rfl, _, _, _, (by rw [hp4]; exact hK3.obj), ⟨by simp, Nat.zero_le _⟩, ?_⟩
     rintro _ rfl
     refine ⟨m - 1, by omega, ⟨j + 1, { a' with p := { a'.p with data := a'.p.data ++ [As.byteOf n] } }, ?_, by omega, ⟨_, hK4⟩, hline, by simp; omega, hb81⟩, trivial⟩
     rw [wrap64 (by omega) (by omega)]; omega
 · have hj : j = os.length := by have := of_decide_eq_false e; omega
   subst hj
   rw [List.drop_length] at hb81
   rw [hb81]
   exact ⟨rfl, hb, Ext.refl _, hA1⟩
theorem text82_t (hA : AS hb h p mS a) {t : Tk} (hT : TkAt hb a3 [t]) (hl : t.text.length ≤ 1000000) (hD : a.p.data.length ≤ 1000000) : Tri Tryz.prog 82 [vP p 0, vL a3 1 k3] h fun v h' => Res hb p mS a.line (.ok { a with p := { a.p with data := a.p.data ++ t.text } }) v h' := by
 refine T82 ?_
 unfold R82
 obtain ⟨b, o, ha, _, hc⟩ := tk_cell (n := 1) hA hT (t := t) (j := 0) rfl
 rw [Nat.zero_mul, Nat.add_zero] at hc
 obtain ⟨K, hK⟩ := hA
 refine ⟨_, _, _, (by rw [PA_cell hK.obj]; rfl), b, o, ha, ⟨by omega, by omega⟩, _, hc, ?_⟩
 by_cases h0 : t.text = []
 · refine Raw.mono (LM.extend0 und40 elem5 rfl rfl rfl rfl rfl hK.data (t2 := 9) (vy := vS t.text) ?_) ?_
   · rw [h0]; exact SrcH.string rfl ⟨⟨[]⟩⟩
   rintro _ _ ⟨rfl, rfl⟩
   refine ⟨_, _, _, rfl, _, _, _, hK.obj, ⟨by simp, Nat.zero_le _⟩, ?_⟩
   rintro _ rfl
   refine ⟨rfl, hb, Ext.refl _, K, ?_⟩
   rw [h0]
   exact hK.set (a' := { a with p := { a.p with data := a.p.data ++ [] } }) rfl (by simp) rfl rfl (by simp [PA, splice])
 · have hpos : 0 < t.text.length := List.length_pos_iff.2 h0
   refine Raw.mono (LM.extend und40 elem5 rfl rfl rfl rfl rfl hK.ext hK.data (t2 := 9) (vy := vS t.text) (css2 := bL t.text) (m := t.text.length) ?_ (by simp [bL]) (fun cs hcs => by obtain ⟨x, _, rfl⟩ := List.mem_map.1 hcs; rfl) hpos (by omega)) ?_
   · rw [bL_flat]; exact SrcH.string rfl ⟨⟨t.text⟩⟩
   rintro _ h4 ⟨b5, cap, rfl, hx4, hM4, hg4⟩
   obtain ⟨hp4, hK4⟩ := hK.appData (l := t.text) rfl hx4 hM4 hg4 rfl
   refine ⟨_, _, _, rfl, _, _, _, (by rw [hp4]; exact hK.obj), ⟨by simp, Nat.zero_le _⟩, ?_⟩
   rintro _ rfl
   exact ⟨rfl, hb, Ext.refl _, _, hK4⟩
def spaceX (a : As.St) (t : Bytes) : As.R As.St := (literalS t 0 4096) >>= fun n => .ok { a with p := { a.p with data := a.p.data ++ List.replicate n.toNat 0 } }
theorem space83_t (hA : AS hb h p mS a) {t : Tk} (hT : TkAt hb a3 [t]) (hl : t.text.length ≤ 1000000) (hD : a.p.data.length ≤ 1000000) : Tri Tryz.prog 83 [vP p 0, vL a3 1 k3] h fun v h' => Res hb p mS a.line (spaceX a t.text) v h' := by
 refine T83 ?_
 unfold R83
 obtain ⟨b, o, ha, _, hc⟩ := tk_cell (n := 1) hA hT (t := t) (j := 0) rfl
 rw [Nat.zero_mul, Nat.add_zero] at hc
 refine ⟨b, o, ha, ⟨by omega, by omega⟩, _, hc, ?_⟩
 refine Tri.mono (literal_t h t.text 0 4096 hl) ?_
 rintro _ h1 ⟨rfl, hx⟩
 have hA1 := hA.grow hx
 unfold spaceX
 cases hlit : literalS t.text 0 4096 with
 | error e =>
   have he := lit_err hlit
   exact ⟨_, _, rfl, br_pos (by simp; omega) (res_err rfl he (Ext.refl _) hA1)⟩
 | ok n =>
   obtain ⟨l1, l2⟩ := lit_range hlit
   obtain ⟨m, rfl⟩ : ∃ m : Nat, n = m := ⟨n.toNat, by omega⟩
   obtain ⟨K, hK⟩ := hA1
   refine ⟨_, _, rfl, br_neg rfl ⟨_, _, _, (by rw [PA_cell hK.obj]; rfl), ?_⟩⟩
   show Raw Tryz.prog _ h1 _
   by_cases h0 : m = 0
   · subst h0
     have raw0 : Raw Tryz.prog (execOp (rho [(22, vL K.da a.p.data.length K.dc), (23, vI ((0 : Nat) : Int))]) (mkO o83_3 40)) h1 fun w h2 => w = vL K.da a.p.data.length K.dc ∧ h2 = h1 := by
      intro w hs
      have hle := hK.data.okN.1
      have hexec : (execOp (rho [(22, vL K.da a.p.data.length K.dc), (23, vI ((0 : Nat) : Int))]) (mkO o83_3 40)).run Tryz.prog w = ((Builtin.append_ #[40, 3] 40 #[vL K.da a.p.data.length K.dc, vI 0]).run Tryz.prog w).andThen fun v w' => .ok (.value v) w' := by
       simp [execOp, mkO, resolve, o83_3, invoke, builtin, rho, lookN]
       rfl
      have hai : ∀ w, (asInt (vI (0 : Int))).run Tryz.prog w = .ok (0 : Int) w := fun _ => rfl
      have hu : Tryz.prog.underlying 40 = some (.slice 5) := rfl
      have hu2 : Tryz.prog.underlying 3 = some (.int .i64) := rfl
      have hwz : IntKind.i64.wrap 0 = 0 := wrap64 (by omega) (by omega)
      have hinf : ∃ i, Tryz.prog.info? 5 = some i ∧ i.bytes = 1 ∧ i.size = 1 := ⟨_, rfl, rfl, rfl⟩
      obtain ⟨i, hi, hby, hsz⟩ := hinf
      have hrun : (Builtin.append_ #[40, 3] 40 #[vL K.da a.p.data.length K.dc, vI 0]).run Tryz.prog w = .ok (vL K.da a.p.data.length K.dc) w := by
       cases K.da <;> simp [Builtin.append_, run_underlying hu, run_underlying hu2, sizeOf, typeInfo, hi, hby, hsz, hai, hwz, hle, storeCells]
      rw [hexec, hrun]
      exact ⟨_, _, w, h1, rfl, .inl rfl, ⟨rfl, rfl⟩, hs, Keep.refl w h1⟩
     refine Raw.mono raw0 ?_
     rintro _ _ ⟨rfl, rfl⟩
     refine ⟨_, _, _, rfl, _, _, _, hK.obj, ⟨by simp, Nat.zero_le _⟩, ?_⟩
     rintro _ rfl
     exact ⟨rfl, hb, Ext.refl _, K, hK.set (a' := { a with p := { a.p with data := a.p.data ++ [] } }) rfl (by simp) rfl rfl (by simp [PA, splice])⟩
   · refine Raw.mono (LM.zeros (m := m) (kd := .i64) (zv := .int .u8 0) und40 rfl rfl rfl rfl rfl rfl rfl rfl rfl rfl rfl rfl hK.ext hK.data (by omega) (by omega)) ?_
     rintro _ h4 ⟨b5, cap, rfl, hx4, hM4, hg4⟩
     have hbl : bL (List.replicate m (0 : UInt8)) = List.replicate m [(.int .u8 0 : Value)] := by unfold bL; rw [List.map_replicate]; rfl
     rw [← hbl] at hM4
     obtain ⟨hp4, hK4⟩ := hK.appData (l := List.replicate m 0) (by simp) hx4 hM4 hg4 rfl
     refine ⟨_, _, _, rfl, _, _, _, (by rw [hp4]; exact hK.obj), ⟨by simp, Nat.zero_le _⟩, ?_⟩
     rintro _ rfl
     exact ⟨rfl, hb, Ext.refl _, _, hK4⟩
theorem val_fst {line kind idx : Nat} {t : Bytes} {low high : Int} {x : Int × List Us} (h : valueS line t kind idx low high = .ok x) : x.2.length ≤ 1 := by
 unfold valueS at h
 split at h
 · split at h
   · cases h
   · injection h with h; subst h; simp
 · split at h
   · injection h with h; subst h; simp
   · cases h
theorem words80_t (hA : AS hb h p mS a) (hT : TkAt hb a3 os) (hl : ∀ t ∈ os, t.text.length ≤ 1000000) (hn : os.length ≤ 1000000) (hD : a.p.data.length ≤ 1000000) (hU : a.uses.length ≤ 1000000) : Tri Tryz.prog 80 [vP p 0, vL a3 os.length k3] h fun v h' => Res hb p mS a.line (wordsS a os) v h' := by
 refine T80 ?_
 unfold R80
 intro b1 hb1 h1 hh1
 have x1 := Put.ext hh1 hb1
 obtain ⟨hb2, hbx, hA2, hin⟩ := hA.rebase x1
 have d1 : hb2.cell b1 0 = some (vP p 0) := cell_of (hin b1 _ hb1 (Put.at hh1)) 0
 refine ⟨fun m i h' => ∃ (j : Nat) (a' : As.St) (hb' : PHeap), i = (j : Int) ∧ j + m = os.length ∧ Ext hb2 hb' ∧ AS hb' h' p mS a' ∧ a'.line = a.line ∧ a'.p.data.length ≤ a.p.data.length + 4 * j ∧ a'.uses.length ≤ a.uses.length + j ∧ wordsS a os = wordsS a' (os.drop j), ⟨os.length, 0, a, hb2, rfl, by omega, Ext.refl _, hA2, rfl, by omega, by omega, rfl⟩, ?_⟩
 rintro m _ h2 ⟨j, a', hb', rfl, hjm, hbx', hA', hline, hd, hu, hws⟩
 refine br_split (fun e => ?_) fun e => ?_
 · have hlt : j < os.length := by have := of_decide_eq_true e; omega
   have hdr := List.drop_eq_getElem_cons hlt
   have hg : os[j]? = some os[j] := by simp [hlt]
   have hm := List.getElem_mem hlt
   have hlen := hl _ hm
   rw [hdr] at hws
   generalize os[j] = t at *
   have d1' := cell_ext (fun ob => hbx' b1 ob) d1
   obtain ⟨b, o, ha, hr⟩ := (hT.ext ((hbx.trans hbx').trans hA'.ext)).get hg
   have hA'0 := hA'
   obtain ⟨K, hK⟩ := hA'
   refine ⟨b, o, ha, ⟨by omega, by omega⟩, _, _, (by rw [Int.toNat_natCast]; exact hr), _, _, cell_ext (fun ob => hK.ext b1 ob) d1', _, _, _, (by rw [PA_cell hK.obj]; rfl), ?_⟩
   intro b3 hb3 h3 hh3
   refine ⟨_, _, _, Put.at hh3, ⟨by simp, Nat.zero_le _⟩, ?_⟩
   intro h4 hh4
   have hh4' : h4 = h2.put b3 (.cells ⟨[vI (a'.p.data.length : Int)]⟩ 3 (0, 0)) := by
    rw [hh4, hh3, put_put]; rfl
   clear hh4 hh3 h3
   have x4 := Put.ext hh4' hb3
   obtain ⟨hb3', hbx3, hA3, hin3⟩ := hA'0.rebase x4
   have d3 : hb3'.cell b3 0 = some (vI (a'.p.data.length : Int)) := cell_of (hin3 b3 _ hb3 (Put.at hh4')) 0
   have d13 := cell_ext (fun ob => hbx3 b1 ob) d1'
   obtain ⟨K, hK⟩ := hA3
   refine ⟨_, _, cell_ext (fun ob => hK.ext b1 ob) d13, _, _, cell_ext (fun ob => hK.ext b1 ob) d13, _, _, _, (by rw [PA_cell hK.obj]; rfl), ?_⟩
   intro b4 hb4 h5 hh5
   have x5 := Put.ext hh5 hb4
   have hK5 := hK.grow x5
   refine ⟨(by rw [PA_cell hK5.obj]; rfl), cell_ext (fun ob => hK5.ext b1 ob) d13, cell_ext (fun ob => hK5.ext b1 ob) d13, ?_⟩
   have hsrc : SrcH Tryz.prog h5 1 40 (vL (ad b4 0) 4 4) 4 (bL [0, 0, 0, 0]).flatten := SrcH.row und40 rfl (row_lit (Put.at hh5) fun j v hj => by rw [Nat.zero_add]; exact hj) rfl
   refine Raw.mono (LM.extend und40 elem5 rfl rfl rfl rfl rfl hK5.ext hK5.data (t2 := 40) (vy := vL (ad b4 0) 4 4) (css2 := bL [0, 0, 0, 0]) (m := 4) hsrc rfl (fun cs hcs => by obtain ⟨x, _, rfl⟩ := List.mem_map.1 hcs; rfl) (by omega) (by omega)) ?_
   rintro _ h6 ⟨b6, cap, rfl, hx6, hM6, hg6⟩
   obtain ⟨hp6, hK6⟩ := hK5.appData (l := [0, 0, 0, 0]) rfl hx6 hM6 hg6 rfl
   refine ⟨_, _, _, rfl, cell_ext (fun ob => hx6 b1 ob) d13, cell_ext (fun ob => hx6 b1 ob) d13, _, _, _, (by rw [hp6]; exact hK5.obj), ⟨by simp, Nat.zero_le _⟩, ?_⟩
   rintro _ rfl
   refine ⟨_, _, cell_ext (fun ob => hK6.ext b1 ob) d13, ?_⟩
   refine Tri.mono (value_t (kind := 1) (idx := a'.p.data.length) ⟨_, hK6⟩ hlen (by simp only; omega) (.inr (.inl ⟨rfl, rfl, b1, b3, rfl, d13, d3⟩)) (-2147483648) 4294967295 rfl rfl (fun h => by omega)) ?_
   intro v h8 hV
   rw [wordsS] at hws
   simp only at hV
   cases hv : valueS a'.line t.text 1 a'.p.data.length (-2147483648) 4294967295 with
   | error e =>
     rw [hv] at hV hws
     obtain ⟨rfl, he, hb4', hbx4, hA4⟩ := hV
     refine ⟨_, _, rfl, br_pos (by simp; omega) ?_⟩
     have := res_err hws he (((hbx.trans hbx').trans hbx3).trans hbx4) hA4
     rw [← hline]; exact this
   | ok x =>
     obtain ⟨n, us⟩ := x
     have hus := val_fst hv
     simp only at hus
     rw [hv] at hV hws
     obtain ⟨rfl, hb4', hbx4, hA4⟩ := hV
     refine ⟨_, _, rfl, br_neg rfl ?_⟩
     refine Tri.mono (put112_t hA4 (cell_ext (fun ob => hbx4 b1 ob) d13) (cell_ext (fun ob => hbx4 b3 ob) d3) (by simp)) ?_
     rintro _ h9 ⟨rfl, hA9⟩
     have hput : putW (a'.p.data ++ [0, 0, 0, 0]) a'.p.data.length n = a'.p.data ++ wordOf n := by
      unfold putW
      rw [List.take_left' rfl, List.drop_of_length_le (by simp), List.append_nil]
     simp only [hput] at hA9
     refine ⟨rfl, m - 1, by omega, ⟨j + 1, _, hb4', ?_, by omega, (hbx'.trans hbx3).trans hbx4, hA9, hline, by simp [wordOf_len]; omega, by simp; omega, hws⟩, trivial⟩
     rw [wrap64 (by omega) (by omega)]; omega
 · have hj : j = os.length := by have := of_decide_eq_false e; omega
   subst hj
   rw [List.drop_length] at hws
   rw [hws]
   exact ⟨rfl, hb', hbx.trans hbx', hA'⟩
end
end Go.Proofs.D
namespace Go.Proofs.D
open Go Go.Den
set_option maxRecDepth 100000
set_option maxHeartbeats 4000000
abbrev o86_11 : Op := .call { callee := (.builtin .append), args := #[(.tmp 75), (.tmp 84)], argTypes := #[22, 22] }
noncomputable def d86 : DCode := up ⟨[(25, .c (.tup [(false, [qi]), (false, [qi])])), (51, .l [qi, .str]), (54, .l [.str]), (55, .c (.tup [(false, [qi]), (false, [.bool])])), (64, .l [.ptr]), (68, .l [.slice]), (70, .l [.ptr]), (71, .l [.ptr]), (75, .l [.slice]), (78, .l [qi]), (80, .l [qi]), (82, .l [qi]), (85, .c (.one false [.slice])), (93, .c (.tup [(false, [qi]), (false, [qi]), (false, [qi])])), (99, .l [.ptr]), (106, .l [.str]), (110, .c (.tup [(false, [qi]), (false, [qi])])), (115, .c (.tup []))], [62, 16, 88], [(48, 22, [(47, qi)], [])]⟩ (low Tryz.prog (fun d => Nat.beq d 3 || Nat.beq d 11 || Nat.beq d 16) (Tryz.f86.body.getD .skip))
theorem low86 : low Tryz.prog (fun d => Nat.beq d 3 || Nat.beq d 11 || Nat.beq d 16) (Tryz.f86.body.getD .skip) = some (eC d86) := by kernel_rfl
def R86 (p1 : Nat) (o1 : Nat) (i1 : Int) (a1 : OA) (n1 : Nat) (k1 : Nat) (h : PHeap) (Q : Value → PHeap → Prop) : Prop :=
 ∀ (b1 : Nat), h b1 = none → ∀ (h_1 : PHeap), h_1 = h.put b1 (.cells ⟨[vP p1 o1]⟩ 68) →
 Tri Tryz.prog 59 [vI i1] h_1 fun v_1 h_2 =>
 ∃ (i2 i3 : Int), v_1 = vT [vI i2, vI i3] ∧
 br (i2 == 6)
 ((okA a1 n1 k1 ∧ 0 ≤ (0 : Int) ∧ (0 : Int) ≤ (IntKind.i64.wrap (((n1 : Nat) : Int) - 1)) ∧ (IntKind.i64.wrap (((n1 : Nat) : Int) - 1)) ≤ k1) ∧ ∀ (a2 : OA), SlA a1 a2 0 k1 2 →
 ∀ (b2 : Nat), h_2 b2 = none → ∀ (h_3 : PHeap), h_3 = h_2.put b2 (.cells ⟨[vI 0, vI 0, vI 0]⟩ 163) →
 ∃ (I_1 : Nat → Int → PHeap → Prop), (∃ (m2 : Nat), I_1 m2 (0 : Int) h_3) ∧
 ∀ (m1 : Nat) (i4 : Int) (h_4 : PHeap), I_1 m1 i4 h_4 →
 br (decide (i4 < ((((IntKind.i64.wrap (((n1 : Nat) : Int) - 1)).toNat - 0) : Nat) : Int)))
 (∃ (b3 o2 : Nat), a2 = some ⟨b3, o2, none⟩ ∧ (0 ≤ i4 ∧ i4 < ((((IntKind.i64.wrap (((n1 : Nat) : Int) - 1)).toNat - 0) : Nat) : Int)) ∧
 ∃ (i5 : Int) (l1 : Bs), h_4.row b3 (o2 + (i4).toNat * 2) [vI i5, vS l1] ∧
 Tri Tryz.prog 50 [vS l1] h_4 fun v_2 h_5 =>
 ∃ (i6 : Int) (c1 : Bool), v_2 = vT [vI i6, vB c1] ∧
 br (!c1)
 (Q (vI 30) h_5)
 ((0 ≤ i4 ∧ i4 < 3) ∧
 ∃ (l2 : List Value) (t1 : TypeId) (z1 : Nat × Nat), h_5 b2 = some (.cells ⟨l2⟩ t1 z1) ∧ ((0 + (i4).toNat * 1) + 1 ≤ l2.length ∧ z1.2 ≤ (0 + (i4).toNat * 1)) ∧
 ∀ (h_6 : PHeap), h_6 = h_5.put b2 (.cells ⟨splice l2 (0 + (i4).toNat * 1) [vI i6]⟩ t1 z1) →
 ∃ (m3 : Nat), m3 < m1 ∧ I_1 m3 (IntKind.i64.wrap (i4 + 1)) h_6 ∧
 True))
 (∃ (p2 o3 : Nat), h_4.cell b1 0 = some (vP p2 o3) ∧
 ∃ (a3 : OA) (n2 k2 : Nat), h_4.cell p2 (o3 + 1) = some (vL a3 n2 k2) ∧
 ∀ (b4 : Nat), h_4 b4 = none → ∀ (h_7 : PHeap), h_7 = h_4.put b4 (.cells ⟨[vI 0]⟩ 3) →
 ∃ (l3 : List Value) (t2 : TypeId) (z2 : Nat × Nat), h_7 b4 = some (.cells ⟨l3⟩ t2 z2) ∧ (0 + 1 ≤ l3.length ∧ z2.2 ≤ 0) ∧
 ∀ (h_8 : PHeap), h_8 = h_7.put b4 (.cells ⟨splice l3 0 [vI ((n2 : Nat) : Int)]⟩ t2 z2) →
 ∃ (p3 o4 : Nat), h_8.cell b1 0 = some (vP p3 o4) ∧
 ∃ (p4 o5 : Nat), h_8.cell b1 0 = some (vP p4 o5) ∧
 ∃ (a4 : OA) (n3 k3 : Nat), h_8.cell p4 (o5 + 1) = some (vL a4 n3 k3) ∧
 (0 ≤ (0 : Int) ∧ (0 : Int) < 3) ∧
 ∃ (i7 : Int), h_8.cell b2 0 = some (vI i7) ∧
 (0 ≤ (1 : Int) ∧ (1 : Int) < 3) ∧
 ∃ (i8 : Int), h_8.cell b2 1 = some (vI i8) ∧
 (0 ≤ (2 : Int) ∧ (2 : Int) < 3) ∧
 ∃ (i9 : Int), h_8.cell b2 2 = some (vI i9) ∧
 ∀ (b5 : Nat), h_8 b5 = none → ∀ (h_9 : PHeap), h_9 = h_8.put b5 (.cells ⟨[vI i1, vI i7, vI i8, vI i9]⟩ 58) →
 (h_9.cell b2 2 = some (vI i9)) ∧
 (h_9.cell b2 1 = some (vI i8)) ∧
 (h_9.cell b2 0 = some (vI i7)) ∧
 (h_9.cell p4 (o5 + 1) = some (vL a4 n3 k3)) ∧
 (h_9.cell b1 0 = some (vP p4 o5)) ∧
 (h_9.cell b1 0 = some (vP p3 o4)) ∧
 Raw Tryz.prog (execOp (rho [(75, vL a4 n3 k3), (84, vL (ad b5 0) 1 1)]) (mkO o86_11 22)) h_9 fun v_3 h_10 =>
 ∃ (a5 : OA) (n4 k4 : Nat), v_3 = vL a5 n4 k4 ∧
 (h_10.cell b2 2 = some (vI i9)) ∧
 (h_10.cell b2 1 = some (vI i8)) ∧
 (h_10.cell b2 0 = some (vI i7)) ∧
 (h_10.cell b1 0 = some (vP p4 o5)) ∧
 (h_10.cell b1 0 = some (vP p3 o4)) ∧
 ∃ (l4 : List Value) (t3 : TypeId) (z3 : Nat × Nat), h_10 p3 = some (.cells ⟨l4⟩ t3 z3) ∧ ((o4 + 1) + 1 ≤ l4.length ∧ z3.2 ≤ (o4 + 1)) ∧
 ∀ (h_11 : PHeap), h_11 = h_10.put p3 (.cells ⟨splice l4 (o4 + 1) [vL a5 n4 k4]⟩ t3 z3) →
 Tri Tryz.prog 114 [vI i1] h_11 fun v_4 h_12 =>
 ∃ (i10 i11 i12 : Int), v_4 = vT [vI i10, vI i11, vI i12] ∧
 ∃ (p5 o6 : Nat), h_12.cell b1 0 = some (vP p5 o6) ∧
 ∃ (b6 o7 : Nat), a1 = some ⟨b6, o7, none⟩ ∧ (0 ≤ (IntKind.i64.wrap (((n1 : Nat) : Int) - 1)) ∧ (IntKind.i64.wrap (((n1 : Nat) : Int) - 1)) < n1) ∧
 ∃ (l5 : Bs), h_12.cell b6 ((o7 + (IntKind.i64.wrap (((n1 : Nat) : Int) - 1)).toNat * 2) + 1) = some (vS l5) ∧
 Tri Tryz.prog 110 [vP p5 o6, vS l5, vI i10, vI i11, vF 115 [] [vP b1 0, vP b4 0]] h_12 fun v_5 h_13 =>
 ∃ (i13 i14 : Int), v_5 = vT [vI i13, vI i14] ∧
 Tri Tryz.prog 115 [vI i13, vP b1 0, vP b4 0] h_13 fun v_6 h_14 =>
 v_6 = vT [] ∧
 Q (vI i14) h_14))
 (br (i2 == 4)
 ((okA a1 n1 k1 ∧ 0 ≤ (0 : Int) ∧ (0 : Int) ≤ (IntKind.i64.wrap (((n1 : Nat) : Int) - 1)) ∧ (IntKind.i64.wrap (((n1 : Nat) : Int) - 1)) ≤ k1) ∧ ∀ (a6 : OA), SlA a1 a6 0 k1 2 →
 ∀ (b7 : Nat), h_2 b7 = none → ∀ (h_15 : PHeap), h_15 = h_2.put b7 (.cells ⟨[vI 0, vI 0, vI 0]⟩ 163) →
 ∃ (I_2 : Nat → Int → PHeap → Prop), (∃ (m5 : Nat), I_2 m5 (0 : Int) h_15) ∧
 ∀ (m4 : Nat) (i15 : Int) (h_16 : PHeap), I_2 m4 i15 h_16 →
 br (decide (i15 < ((((IntKind.i64.wrap (((n1 : Nat) : Int) - 1)).toNat - 0) : Nat) : Int)))
 (∃ (b8 o8 : Nat), a6 = some ⟨b8, o8, none⟩ ∧ (0 ≤ i15 ∧ i15 < ((((IntKind.i64.wrap (((n1 : Nat) : Int) - 1)).toNat - 0) : Nat) : Int)) ∧
 ∃ (i16 : Int) (l6 : Bs), h_16.row b8 (o8 + (i15).toNat * 2) [vI i16, vS l6] ∧
 Tri Tryz.prog 50 [vS l6] h_16 fun v_7 h_17 =>
 ∃ (i17 : Int) (c2 : Bool), v_7 = vT [vI i17, vB c2] ∧
 br (!c2)
 (Q (vI 30) h_17)
 ((0 ≤ i15 ∧ i15 < 3) ∧
 ∃ (l7 : List Value) (t4 : TypeId) (z4 : Nat × Nat), h_17 b7 = some (.cells ⟨l7⟩ t4 z4) ∧ ((0 + (i15).toNat * 1) + 1 ≤ l7.length ∧ z4.2 ≤ (0 + (i15).toNat * 1)) ∧
 ∀ (h_18 : PHeap), h_18 = h_17.put b7 (.cells ⟨splice l7 (0 + (i15).toNat * 1) [vI i17]⟩ t4 z4) →
 ∃ (m6 : Nat), m6 < m4 ∧ I_2 m6 (IntKind.i64.wrap (i15 + 1)) h_18 ∧
 True))
 (∃ (p6 o9 : Nat), h_16.cell b1 0 = some (vP p6 o9) ∧
 ∃ (a7 : OA) (n5 k5 : Nat), h_16.cell p6 (o9 + 1) = some (vL a7 n5 k5) ∧
 ∀ (b9 : Nat), h_16 b9 = none → ∀ (h_19 : PHeap), h_19 = h_16.put b9 (.cells ⟨[vI 0]⟩ 3) →
 ∃ (l8 : List Value) (t5 : TypeId) (z5 : Nat × Nat), h_19 b9 = some (.cells ⟨l8⟩ t5 z5) ∧ (0 + 1 ≤ l8.length ∧ z5.2 ≤ 0) ∧
 ∀ (h_20 : PHeap), h_20 = h_19.put b9 (.cells ⟨splice l8 0 [vI ((n5 : Nat) : Int)]⟩ t5 z5) →
 ∃ (p7 o10 : Nat), h_20.cell b1 0 = some (vP p7 o10) ∧
 ∃ (p8 o11 : Nat), h_20.cell b1 0 = some (vP p8 o11) ∧
 ∃ (a8 : OA) (n6 k6 : Nat), h_20.cell p8 (o11 + 1) = some (vL a8 n6 k6) ∧
 (0 ≤ (0 : Int) ∧ (0 : Int) < 3) ∧
 ∃ (i18 : Int), h_20.cell b7 0 = some (vI i18) ∧
 (0 ≤ (1 : Int) ∧ (1 : Int) < 3) ∧
 ∃ (i19 : Int), h_20.cell b7 1 = some (vI i19) ∧
 (0 ≤ (2 : Int) ∧ (2 : Int) < 3) ∧
 ∃ (i20 : Int), h_20.cell b7 2 = some (vI i20) ∧
 ∀ (b10 : Nat), h_20 b10 = none → ∀ (h_21 : PHeap), h_21 = h_20.put b10 (.cells ⟨[vI i1, vI i18, vI i19, vI i20]⟩ 58) →
 (h_21.cell b7 2 = some (vI i20)) ∧
 (h_21.cell b7 1 = some (vI i19)) ∧
 (h_21.cell b7 0 = some (vI i18)) ∧
 (h_21.cell p8 (o11 + 1) = some (vL a8 n6 k6)) ∧
 (h_21.cell b1 0 = some (vP p8 o11)) ∧
 (h_21.cell b1 0 = some (vP p7 o10)) ∧
 Raw Tryz.prog (execOp (rho [(75, vL a8 n6 k6), (84, vL (ad b10 0) 1 1)]) (mkO o86_11 22)) h_21 fun v_8 h_22 =>
 ∃ (a9 : OA) (n7 k7 : Nat), v_8 = vL a9 n7 k7 ∧
 (h_22.cell b7 2 = some (vI i20)) ∧
 (h_22.cell b7 1 = some (vI i19)) ∧
 (h_22.cell b7 0 = some (vI i18)) ∧
 (h_22.cell b1 0 = some (vP p8 o11)) ∧
 (h_22.cell b1 0 = some (vP p7 o10)) ∧
 ∃ (l9 : List Value) (t6 : TypeId) (z6 : Nat × Nat), h_22 p7 = some (.cells ⟨l9⟩ t6 z6) ∧ ((o10 + 1) + 1 ≤ l9.length ∧ z6.2 ≤ (o10 + 1)) ∧
 ∀ (h_23 : PHeap), h_23 = h_22.put p7 (.cells ⟨splice l9 (o10 + 1) [vL a9 n7 k7]⟩ t6 z6) →
 Tri Tryz.prog 114 [vI i1] h_23 fun v_9 h_24 =>
 ∃ (i21 i22 i23 : Int), v_9 = vT [vI i21, vI i22, vI i23] ∧
 ∃ (p9 o12 : Nat), h_24.cell b1 0 = some (vP p9 o12) ∧
 ∃ (b11 o13 : Nat), a1 = some ⟨b11, o13, none⟩ ∧ (0 ≤ (IntKind.i64.wrap (((n1 : Nat) : Int) - 1)) ∧ (IntKind.i64.wrap (((n1 : Nat) : Int) - 1)) < n1) ∧
 ∃ (l10 : Bs), h_24.cell b11 ((o13 + (IntKind.i64.wrap (((n1 : Nat) : Int) - 1)).toNat * 2) + 1) = some (vS l10) ∧
 Tri Tryz.prog 110 [vP p9 o12, vS l10, vI i21, vI i22, vF 115 [] [vP b1 0, vP b9 0]] h_24 fun v_10 h_25 =>
 ∃ (i24 i25 : Int), v_10 = vT [vI i24, vI i25] ∧
 Tri Tryz.prog 115 [vI i24, vP b1 0, vP b9 0] h_25 fun v_11 h_26 =>
 v_11 = vT [] ∧
 Q (vI i25) h_26))
 (br (i2 == 5)
 ((okA a1 n1 k1 ∧ 0 ≤ (0 : Int) ∧ (0 : Int) ≤ (IntKind.i64.wrap (((n1 : Nat) : Int) - 1)) ∧ (IntKind.i64.wrap (((n1 : Nat) : Int) - 1)) ≤ k1) ∧ ∀ (a10 : OA), SlA a1 a10 0 k1 2 →
 ∀ (b12 : Nat), h_2 b12 = none → ∀ (h_27 : PHeap), h_27 = h_2.put b12 (.cells ⟨[vI 0, vI 0, vI 0]⟩ 163) →
 ∃ (I_3 : Nat → Int → PHeap → Prop), (∃ (m8 : Nat), I_3 m8 (0 : Int) h_27) ∧
 ∀ (m7 : Nat) (i26 : Int) (h_28 : PHeap), I_3 m7 i26 h_28 →
 br (decide (i26 < ((((IntKind.i64.wrap (((n1 : Nat) : Int) - 1)).toNat - 0) : Nat) : Int)))
 (∃ (b13 o14 : Nat), a10 = some ⟨b13, o14, none⟩ ∧ (0 ≤ i26 ∧ i26 < ((((IntKind.i64.wrap (((n1 : Nat) : Int) - 1)).toNat - 0) : Nat) : Int)) ∧
 ∃ (i27 : Int) (l11 : Bs), h_28.row b13 (o14 + (i26).toNat * 2) [vI i27, vS l11] ∧
 Tri Tryz.prog 50 [vS l11] h_28 fun v_12 h_29 =>
 ∃ (i28 : Int) (c3 : Bool), v_12 = vT [vI i28, vB c3] ∧
 br (!c3)
 (Q (vI 30) h_29)
 ((0 ≤ i26 ∧ i26 < 3) ∧
 ∃ (l12 : List Value) (t7 : TypeId) (z7 : Nat × Nat), h_29 b12 = some (.cells ⟨l12⟩ t7 z7) ∧ ((0 + (i26).toNat * 1) + 1 ≤ l12.length ∧ z7.2 ≤ (0 + (i26).toNat * 1)) ∧
 ∀ (h_30 : PHeap), h_30 = h_29.put b12 (.cells ⟨splice l12 (0 + (i26).toNat * 1) [vI i28]⟩ t7 z7) →
 ∃ (m9 : Nat), m9 < m7 ∧ I_3 m9 (IntKind.i64.wrap (i26 + 1)) h_30 ∧
 True))
 (∃ (p10 o15 : Nat), h_28.cell b1 0 = some (vP p10 o15) ∧
 ∃ (a11 : OA) (n8 k8 : Nat), h_28.cell p10 (o15 + 1) = some (vL a11 n8 k8) ∧
 ∀ (b14 : Nat), h_28 b14 = none → ∀ (h_31 : PHeap), h_31 = h_28.put b14 (.cells ⟨[vI 0]⟩ 3) →
 ∃ (l13 : List Value) (t8 : TypeId) (z8 : Nat × Nat), h_31 b14 = some (.cells ⟨l13⟩ t8 z8) ∧ (0 + 1 ≤ l13.length ∧ z8.2 ≤ 0) ∧
 ∀ (h_32 : PHeap), h_32 = h_31.put b14 (.cells ⟨splice l13 0 [vI ((n8 : Nat) : Int)]⟩ t8 z8) →
 ∃ (p11 o16 : Nat), h_32.cell b1 0 = some (vP p11 o16) ∧
 ∃ (p12 o17 : Nat), h_32.cell b1 0 = some (vP p12 o17) ∧
 ∃ (a12 : OA) (n9 k9 : Nat), h_32.cell p12 (o17 + 1) = some (vL a12 n9 k9) ∧
 (0 ≤ (0 : Int) ∧ (0 : Int) < 3) ∧
 ∃ (i29 : Int), h_32.cell b12 0 = some (vI i29) ∧
 (0 ≤ (1 : Int) ∧ (1 : Int) < 3) ∧
 ∃ (i30 : Int), h_32.cell b12 1 = some (vI i30) ∧
 (0 ≤ (2 : Int) ∧ (2 : Int) < 3) ∧
 ∃ (i31 : Int), h_32.cell b12 2 = some (vI i31) ∧
 ∀ (b15 : Nat), h_32 b15 = none → ∀ (h_33 : PHeap), h_33 = h_32.put b15 (.cells ⟨[vI i1, vI i29, vI i30, vI i31]⟩ 58) →
 (h_33.cell b12 2 = some (vI i31)) ∧
 (h_33.cell b12 1 = some (vI i30)) ∧
 (h_33.cell b12 0 = some (vI i29)) ∧
 (h_33.cell p12 (o17 + 1) = some (vL a12 n9 k9)) ∧
 (h_33.cell b1 0 = some (vP p12 o17)) ∧
 (h_33.cell b1 0 = some (vP p11 o16)) ∧
 Raw Tryz.prog (execOp (rho [(75, vL a12 n9 k9), (84, vL (ad b15 0) 1 1)]) (mkO o86_11 22)) h_33 fun v_13 h_34 =>
 ∃ (a13 : OA) (n10 k10 : Nat), v_13 = vL a13 n10 k10 ∧
 (h_34.cell b12 2 = some (vI i31)) ∧
 (h_34.cell b12 1 = some (vI i30)) ∧
 (h_34.cell b12 0 = some (vI i29)) ∧
 (h_34.cell b1 0 = some (vP p12 o17)) ∧
 (h_34.cell b1 0 = some (vP p11 o16)) ∧
 ∃ (l14 : List Value) (t9 : TypeId) (z9 : Nat × Nat), h_34 p11 = some (.cells ⟨l14⟩ t9 z9) ∧ ((o16 + 1) + 1 ≤ l14.length ∧ z9.2 ≤ (o16 + 1)) ∧
 ∀ (h_35 : PHeap), h_35 = h_34.put p11 (.cells ⟨splice l14 (o16 + 1) [vL a13 n10 k10]⟩ t9 z9) →
 br (!(i2 == 5))
 (Q (vI 0) h_35)
 (Tri Tryz.prog 114 [vI i1] h_35 fun v_14 h_36 =>
 ∃ (i32 i33 i34 : Int), v_14 = vT [vI i32, vI i33, vI i34] ∧
 ∃ (p13 o18 : Nat), h_36.cell b1 0 = some (vP p13 o18) ∧
 ∃ (b16 o19 : Nat), a1 = some ⟨b16, o19, none⟩ ∧ (0 ≤ (IntKind.i64.wrap (((n1 : Nat) : Int) - 1)) ∧ (IntKind.i64.wrap (((n1 : Nat) : Int) - 1)) < n1) ∧
 ∃ (l15 : Bs), h_36.cell b16 ((o19 + (IntKind.i64.wrap (((n1 : Nat) : Int) - 1)).toNat * 2) + 1) = some (vS l15) ∧
 Tri Tryz.prog 110 [vP p13 o18, vS l15, vI i32, vI i33, vF 115 [] [vP b1 0, vP b14 0]] h_36 fun v_15 h_37 =>
 ∃ (i35 i36 : Int), v_15 = vT [vI i35, vI i36] ∧
 Tri Tryz.prog 115 [vI i35, vP b1 0, vP b14 0] h_37 fun v_16 h_38 =>
 v_16 = vT [] ∧
 Q (vI i36) h_38)))
 (∀ (b17 : Nat), h_2 b17 = none → ∀ (h_39 : PHeap), h_39 = h_2.put b17 (.cells ⟨[vI 0, vI 0, vI 0]⟩ 163) →
 ∃ (I_4 : Nat → Int → PHeap → Prop), (∃ (m11 : Nat), I_4 m11 (0 : Int) h_39) ∧
 ∀ (m10 : Nat) (i37 : Int) (h_40 : PHeap), I_4 m10 i37 h_40 →
 br (decide (i37 < ((n1 : Nat) : Int)))
 (∃ (b18 o20 : Nat), a1 = some ⟨b18, o20, none⟩ ∧ (0 ≤ i37 ∧ i37 < n1) ∧
 ∃ (i38 : Int) (l16 : Bs), h_40.row b18 (o20 + (i37).toNat * 2) [vI i38, vS l16] ∧
 Tri Tryz.prog 50 [vS l16] h_40 fun v_17 h_41 =>
 ∃ (i39 : Int) (c4 : Bool), v_17 = vT [vI i39, vB c4] ∧
 br (!c4)
 (Q (vI 30) h_41)
 ((0 ≤ i37 ∧ i37 < 3) ∧
 ∃ (l17 : List Value) (t10 : TypeId) (z10 : Nat × Nat), h_41 b17 = some (.cells ⟨l17⟩ t10 z10) ∧ ((0 + (i37).toNat * 1) + 1 ≤ l17.length ∧ z10.2 ≤ (0 + (i37).toNat * 1)) ∧
 ∀ (h_42 : PHeap), h_42 = h_41.put b17 (.cells ⟨splice l17 (0 + (i37).toNat * 1) [vI i39]⟩ t10 z10) →
 ∃ (m12 : Nat), m12 < m10 ∧ I_4 m12 (IntKind.i64.wrap (i37 + 1)) h_42 ∧
 True))
 (∃ (p14 o21 : Nat), h_40.cell b1 0 = some (vP p14 o21) ∧
 ∃ (a14 : OA) (n11 k11 : Nat), h_40.cell p14 (o21 + 1) = some (vL a14 n11 k11) ∧
 ∀ (b19 : Nat), h_40 b19 = none → ∀ (h_43 : PHeap), h_43 = h_40.put b19 (.cells ⟨[vI 0]⟩ 3) →
 ∃ (l18 : List Value) (t11 : TypeId) (z11 : Nat × Nat), h_43 b19 = some (.cells ⟨l18⟩ t11 z11) ∧ (0 + 1 ≤ l18.length ∧ z11.2 ≤ 0) ∧
 ∀ (h_44 : PHeap), h_44 = h_43.put b19 (.cells ⟨splice l18 0 [vI ((n11 : Nat) : Int)]⟩ t11 z11) →
 ∃ (p15 o22 : Nat), h_44.cell b1 0 = some (vP p15 o22) ∧
 ∃ (p16 o23 : Nat), h_44.cell b1 0 = some (vP p16 o23) ∧
 ∃ (a15 : OA) (n12 k12 : Nat), h_44.cell p16 (o23 + 1) = some (vL a15 n12 k12) ∧
 (0 ≤ (0 : Int) ∧ (0 : Int) < 3) ∧
 ∃ (i40 : Int), h_44.cell b17 0 = some (vI i40) ∧
 (0 ≤ (1 : Int) ∧ (1 : Int) < 3) ∧
 ∃ (i41 : Int), h_44.cell b17 1 = some (vI i41) ∧
 (0 ≤ (2 : Int) ∧ (2 : Int) < 3) ∧
 ∃ (i42 : Int), h_44.cell b17 2 = some (vI i42) ∧
 ∀ (b20 : Nat), h_44 b20 = none → ∀ (h_45 : PHeap), h_45 = h_44.put b20 (.cells ⟨[vI i1, vI i40, vI i41, vI i42]⟩ 58) →
 (h_45.cell b17 2 = some (vI i42)) ∧
 (h_45.cell b17 1 = some (vI i41)) ∧
 (h_45.cell b17 0 = some (vI i40)) ∧
 (h_45.cell p16 (o23 + 1) = some (vL a15 n12 k12)) ∧
 (h_45.cell b1 0 = some (vP p16 o23)) ∧
 (h_45.cell b1 0 = some (vP p15 o22)) ∧
 Raw Tryz.prog (execOp (rho [(75, vL a15 n12 k12), (84, vL (ad b20 0) 1 1)]) (mkO o86_11 22)) h_45 fun v_18 h_46 =>
 ∃ (a16 : OA) (n13 k13 : Nat), v_18 = vL a16 n13 k13 ∧
 (h_46.cell b17 2 = some (vI i42)) ∧
 (h_46.cell b17 1 = some (vI i41)) ∧
 (h_46.cell b17 0 = some (vI i40)) ∧
 (h_46.cell b1 0 = some (vP p16 o23)) ∧
 (h_46.cell b1 0 = some (vP p15 o22)) ∧
 ∃ (l19 : List Value) (t12 : TypeId) (z12 : Nat × Nat), h_46 p15 = some (.cells ⟨l19⟩ t12 z12) ∧ ((o22 + 1) + 1 ≤ l19.length ∧ z12.2 ≤ (o22 + 1)) ∧
 ∀ (h_47 : PHeap), h_47 = h_46.put p15 (.cells ⟨splice l19 (o22 + 1) [vL a16 n13 k13]⟩ t12 z12) →
 br (!(i2 == 5))
 (Q (vI 0) h_47)
 (Tri Tryz.prog 114 [vI i1] h_47 fun v_19 h_48 =>
 ∃ (i43 i44 i45 : Int), v_19 = vT [vI i43, vI i44, vI i45] ∧
 ∃ (p17 o24 : Nat), h_48.cell b1 0 = some (vP p17 o24) ∧
 ∃ (b21 o25 : Nat), a1 = some ⟨b21, o25, none⟩ ∧ (0 ≤ (IntKind.i64.wrap (((n1 : Nat) : Int) - 1)) ∧ (IntKind.i64.wrap (((n1 : Nat) : Int) - 1)) < n1) ∧
 ∃ (l20 : Bs), h_48.cell b21 ((o25 + (IntKind.i64.wrap (((n1 : Nat) : Int) - 1)).toNat * 2) + 1) = some (vS l20) ∧
 Tri Tryz.prog 110 [vP p17 o24, vS l20, vI i43, vI i44, vF 115 [] [vP b1 0, vP b19 0]] h_48 fun v_20 h_49 =>
 ∃ (i46 i47 : Int), v_20 = vT [vI i46, vI i47] ∧
 Tri Tryz.prog 115 [vI i46, vP b1 0, vP b19 0] h_49 fun v_21 h_50 =>
 v_21 = vT [] ∧
 Q (vI i47) h_50)))))
theorem T86 {p1 : Nat} {o1 : Nat} {i1 : Int} {a1 : OA} {n1 : Nat} {k1 : Nat} {h : PHeap} {Q : Value → PHeap → Prop} (hR : R86 p1 o1 i1 a1 n1 k1 h Q) : Tri Tryz.prog 86 [vP p1 o1, vI i1, vL a1 n1 k1] h Q :=
 tri_of_dn mixed Tryz.func86 rfl (by kernel_rfl) low86 (rs := [.tmp 6]) (by kernel_rfl) rfl (Eq.mpr (by kernel_rfl : dnF Tryz.prog Tryz.f86.ntmps d86 [.tmp 6] [vP p1 o1, vI i1, vL a1 n1 k1] h Q = R86 p1 o1 i1 a1 n1 k1 h Q) hR)
noncomputable def d85 : DCode := up ⟨[(7, .l [qi]), (9, .c (.one false [qi]))], [], []⟩ (low Tryz.prog (fun _ => false) (Tryz.f85.body.getD .skip))
theorem low85 : low Tryz.prog (fun _ => false) (Tryz.f85.body.getD .skip) = some (eC d85) := by kernel_rfl
def R85 (p1 : Nat) (o1 : Nat) (a1 : OA) (n1 : Nat) (k1 : Nat) (p2 : Nat) (o2 : Nat) (h : PHeap) (Q : Value → PHeap → Prop) : Prop :=
 ∃ (i1 : Int), h.cell p2 o2 = some (vI i1) ∧
 Tri Tryz.prog 86 [vP p1 o1, vI i1, vL a1 n1 k1] h fun v_1 h_1 =>
 ∃ (i2 : Int), v_1 = vI i2 ∧
 Q (vI i2) h_1
theorem T85 {p1 : Nat} {o1 : Nat} {a1 : OA} {n1 : Nat} {k1 : Nat} {p2 : Nat} {o2 : Nat} {h : PHeap} {Q : Value → PHeap → Prop} (hR : R85 p1 o1 a1 n1 k1 p2 o2 h Q) : Tri Tryz.prog 85 [vP p1 o1, vL a1 n1 k1, vP p2 o2] h Q :=
 tri_of_dn mixed Tryz.func85 rfl (by kernel_rfl) low85 (rs := [.tmp 5]) (by kernel_rfl) rfl (Eq.mpr (by kernel_rfl : dnF Tryz.prog Tryz.f85.ntmps d85 [.tmp 5] [vP p1 o1, vL a1 n1 k1, vP p2 o2] h Q = R85 p1 o1 a1 n1 k1 p2 o2 h Q) hR)
end Go.Proofs.D
namespace Go.As
def instrX (a : St) (op : Nat) (l : List Tk) : R St :=
 if form op ≤ 3 then (regsS l) >>= fun r => .ok { a with p := { a.p with code := a.p.code ++ [fieldsI op r 0] } }
 else (regsS l.dropLast) >>= fun r => (valueS a.line (l.getLast?.getD ⟨1, []⟩).text 0 a.p.code.length (limits op).1 (limits op).2) >>= fun x =>
  .ok { a with p := { a.p with code := a.p.code ++ [fieldsI op r x.1] }, uses := a.uses ++ x.2 }
theorem instr_X (a : St) (op : Nat) (l : List Tk) : instrS a op l = (instrX a op l) >>= fun a' => if 1024 ≤ a.p.code.length then .error 9 else .ok a' := by
 unfold instrS instrX
 split
 · cases regsS l <;> rfl
 · cases regsS l.dropLast with
   | error e => rfl
   | ok r =>
     show ((valueS a.line (l.getLast?.getD ⟨1, []⟩).text 0 a.p.code.length (limits op).1 (limits op).2) >>= _) = (((valueS a.line (l.getLast?.getD ⟨1, []⟩).text 0 a.p.code.length (limits op).1 (limits op).2) >>= _) >>= _)
     cases valueS a.line (l.getLast?.getD ⟨1, []⟩).text 0 a.p.code.length (limits op).1 (limits op).2 <;> rfl
theorem regs_len : ∀ {l : List Tk} {r : List Int}, regsS l = .ok r → r.length = l.length
 | [], r, h => by injection h with h; subst h; rfl
 | t :: l, r, h => by
   rw [regsS] at h
   split at h
   · cases h
   · cases hr : regsS l with
     | error e => rw [hr] at h; cases h
     | ok r' =>
       rw [hr] at h; injection h with h; subst h
       simp [regs_len hr]
end Go.As
namespace Go.Proofs.D
open Go Go.Den Go.As
set_option maxRecDepth 100000
attribute [local irreducible] IntKind.wrap Tri
section
variable {hb h : PHeap} {p mS : Nat} {a : As.St} {K : AK} {a3 : OA} {k3 : Nat} {os : List Tk}
theorem ASK.putOther {q t : Nat} {l : Array Value} {z : Nat × Nat} (hA : ASK hb h p mS a K) (hq : h q = some (.cells l t z)) (hbq : hb q = none) (n1 : t ≠ 58) (n2 : t ≠ 5) (n3 : t ≠ 78) (n4 : t ≠ 74) (o' : Obj) : ASK hb (h.put q o') p mS a K := by
 have hqp : p ≠ q := fun e => by
  subst e; rw [hA.obj] at hq; injection hq with hq; injection hq with _ hq _; exact n4 hq.symm
 have hqm : K.mb ≠ q := fun e => by rw [← e, hA.labs] at hq; cases hq
 refine ⟨fun r o hr => ?_, hA.new, by rw [put_ne hqp]; exact hA.obj, hA.code.put hq (notE_cells n1 _ _), hA.data.put hq (notE_cells n2 _ _), hA.uses.put hq (notE_cells n3 _ _), hA.useAt, hA.mnew, by rw [put_ne hqm]; exact hA.labs⟩
 rw [put_ne fun e => by subst e; rw [hbq] at hr; cases hr]; exact hA.ext _ _ hr
def loop86 (a2 : OA) (NI : Int) (b2 : Nat) (h_3 : PHeap) (Q : Value → PHeap → Prop) (C : PHeap → Prop) : Prop :=
 ∃ (I_1 : Nat → Int → PHeap → Prop), (∃ (m2 : Nat), I_1 m2 (0 : Int) h_3) ∧
 ∀ (m1 : Nat) (i4 : Int) (h_4 : PHeap), I_1 m1 i4 h_4 →
 br (decide (i4 < NI))
 (∃ (b3 o2 : Nat), a2 = some ⟨b3, o2, none⟩ ∧ (0 ≤ i4 ∧ i4 < NI) ∧
 ∃ (i5 : Int) (l1 : Bs), h_4.row b3 (o2 + (i4).toNat * 2) [vI i5, vS l1] ∧
 Tri Tryz.prog 50 [vS l1] h_4 fun v_2 h_5 =>
 ∃ (i6 : Int) (c1 : Bool), v_2 = vT [vI i6, vB c1] ∧
 br (!c1)
 (Q (vI 30) h_5)
 ((0 ≤ i4 ∧ i4 < 3) ∧
 ∃ (l2 : List Value) (t1 : TypeId) (z1 : Nat × Nat), h_5 b2 = some (.cells ⟨l2⟩ t1 z1) ∧ ((0 + (i4).toNat * 1) + 1 ≤ l2.length ∧ z1.2 ≤ (0 + (i4).toNat * 1)) ∧
 ∀ (h_6 : PHeap), h_6 = h_5.put b2 (.cells ⟨splice l2 (0 + (i4).toNat * 1) [vI i6]⟩ t1 z1) →
 ∃ (m3 : Nat), m3 < m1 ∧ I_1 m3 (IntKind.i64.wrap (i4 + 1)) h_6 ∧
 True))
 (C h_4)
def regC (r : List Int) : List Value := [vI (r.getD 0 0), vI (r.getD 1 0), vI (r.getD 2 0)]
theorem regC_set {r : List Int} {x : Int} (h : r.length < 3) : splice (regC r) (0 + r.length * 1) [vI x] = regC (r ++ [x]) := by
 match r, h with
 | [], _ => rfl
 | [_], _ => rfl
 | [_, _], _ => rfl
 | _ :: _ :: _ :: _, h => simp at h; omega
theorem loop_86 {a2 : OA} {N b2 : Nat} {NI : Int} {h3 : PHeap} {Q : Value → PHeap → Prop} {C : PHeap → Prop} (hNI : NI = (N : Int)) (hN : N ≤ os.length) (hN3 : N ≤ 3) (hT : TkAt hb a2 os) (hA : AS hb h3 p mS a) (hb2 : h3 b2 = some (.cells ⟨[vI 0, vI 0, vI 0]⟩ 163 (0, 0))) (hn2 : hb b2 = none)
 (herr : ∀ h', regsS (os.take N) = .error 30 → AS hb h' p mS a → Q (vI 30) h') (hok : ∀ h' r, regsS (os.take N) = .ok r → AS hb h' p mS a → h' b2 = some (.cells ⟨regC r⟩ 163 (0, 0)) → C h') : loop86 a2 NI b2 h3 Q C := by
 subst hNI
 unfold loop86
 refine ⟨fun m i h' => ∃ (j : Nat) (r : List Int), i = (j : Int) ∧ j + m = N ∧ AS hb h' p mS a ∧ h' b2 = some (.cells ⟨regC r⟩ 163 (0, 0)) ∧ r.length = j ∧ regsS (os.take N) = (regsS ((os.take N).drop j)).map fun x => r ++ x,
  ⟨N, 0, [], rfl, by omega, hA, hb2, rfl, by cases h : regsS (os.take N) <;> simp [h, Except.map]⟩, ?_⟩
 rintro m _ h4 ⟨j, r, rfl, hjm, hA4, hb4, hrl, hrg⟩
 have hlen : (os.take N).length = N := by rw [List.length_take]; omega
 refine br_split (fun e => ?_) fun e => ?_
 · have hlt : j < N := by have := of_decide_eq_true e; omega
   have hlt2 : j < (os.take N).length := by omega
   have hdr := List.drop_eq_getElem_cons hlt2
   have hg : os[j]? = some (os.take N)[j] := by
    rw [List.getElem_take]; simp
   rw [hdr] at hrg
   generalize (os.take N)[j] = t at *
   obtain ⟨b, o, ha, hr⟩ := (hT.ext hA4.ext).get hg
   refine ⟨b, o, ha, ⟨by omega, by omega⟩, _, _, (by rw [Int.toNat_natCast]; exact hr), ?_⟩
   refine Tri.mono (register_t h4 t.text) ?_
   rintro _ h4 ⟨rfl, rfl⟩
   rw [regsS] at hrg
   unfold regV
   cases hreg : regB t.text with
   | none =>
     rw [hreg] at hrg
     exact ⟨_, _, rfl, br_pos rfl (herr h4 hrg hA4)⟩
   | some x =>
     rw [hreg] at hrg
     refine ⟨_, _, rfl, br_neg rfl ⟨⟨by omega, by omega⟩, _, _, _, hb4, ⟨by simp [regC]; omega, Nat.zero_le _⟩, ?_⟩⟩
     rintro _ rfl
     rw [Int.toNat_natCast, ← hrl, regC_set (by omega)]
     obtain ⟨K, hK⟩ := hA4
     refine ⟨m - 1, by omega, ⟨r.length + 1, r ++ [(x : Int)], ?_, by omega, ⟨K, hK.putOther hb4 hn2 (by decide) (by decide) (by decide) (by decide) _⟩, put_same _ _ _, by simp, ?_⟩, trivial⟩
     · rw [wrap64 (by omega) (by omega)]; omega
     · rw [hrg, hrl]
       cases regsS ((os.take N).drop (j + 1)) <;> simp [Except.map]
 · have hj : j = N := by have := of_decide_eq_false e; omega
   subst hj
   rw [List.drop_of_length_le (by omega)] at hrg
   simp only [regsS, Except.map, List.append_nil] at hrg
   exact hok h4 r hrg hA4 hb4
def app86 (b1 b2 : Nat) (i1 : Int) (h_4 : PHeap) (C : Nat → PHeap → Prop) : Prop :=
 ∃ (p2 o3 : Nat), h_4.cell b1 0 = some (vP p2 o3) ∧
 ∃ (a3 : OA) (n2 k2 : Nat), h_4.cell p2 (o3 + 1) = some (vL a3 n2 k2) ∧
 ∀ (b4 : Nat), h_4 b4 = none → ∀ (h_7 : PHeap), h_7 = h_4.put b4 (.cells ⟨[vI 0]⟩ 3) →
 ∃ (l3 : List Value) (t2 : TypeId) (z2 : Nat × Nat), h_7 b4 = some (.cells ⟨l3⟩ t2 z2) ∧ (0 + 1 ≤ l3.length ∧ z2.2 ≤ 0) ∧
 ∀ (h_8 : PHeap), h_8 = h_7.put b4 (.cells ⟨splice l3 0 [vI ((n2 : Nat) : Int)]⟩ t2 z2) →
 ∃ (p3 o4 : Nat), h_8.cell b1 0 = some (vP p3 o4) ∧
 ∃ (p4 o5 : Nat), h_8.cell b1 0 = some (vP p4 o5) ∧
 ∃ (a4 : OA) (n3 k3 : Nat), h_8.cell p4 (o5 + 1) = some (vL a4 n3 k3) ∧
 (0 ≤ (0 : Int) ∧ (0 : Int) < 3) ∧
 ∃ (i7 : Int), h_8.cell b2 0 = some (vI i7) ∧
 (0 ≤ (1 : Int) ∧ (1 : Int) < 3) ∧
 ∃ (i8 : Int), h_8.cell b2 1 = some (vI i8) ∧
 (0 ≤ (2 : Int) ∧ (2 : Int) < 3) ∧
 ∃ (i9 : Int), h_8.cell b2 2 = some (vI i9) ∧
 ∀ (b5 : Nat), h_8 b5 = none → ∀ (h_9 : PHeap), h_9 = h_8.put b5 (.cells ⟨[vI i1, vI i7, vI i8, vI i9]⟩ 58) →
 (h_9.cell b2 2 = some (vI i9)) ∧
 (h_9.cell b2 1 = some (vI i8)) ∧
 (h_9.cell b2 0 = some (vI i7)) ∧
 (h_9.cell p4 (o5 + 1) = some (vL a4 n3 k3)) ∧
 (h_9.cell b1 0 = some (vP p4 o5)) ∧
 (h_9.cell b1 0 = some (vP p3 o4)) ∧
 Raw Tryz.prog (execOp (rho [(75, vL a4 n3 k3), (84, vL (ad b5 0) 1 1)]) (mkO o86_11 22)) h_9 fun v_3 h_10 =>
 ∃ (a5 : OA) (n4 k4 : Nat), v_3 = vL a5 n4 k4 ∧
 (h_10.cell b2 2 = some (vI i9)) ∧
 (h_10.cell b2 1 = some (vI i8)) ∧
 (h_10.cell b2 0 = some (vI i7)) ∧
 (h_10.cell b1 0 = some (vP p4 o5)) ∧
 (h_10.cell b1 0 = some (vP p3 o4)) ∧
 ∃ (l4 : List Value) (t3 : TypeId) (z3 : Nat × Nat), h_10 p3 = some (.cells ⟨l4⟩ t3 z3) ∧ ((o4 + 1) + 1 ≤ l4.length ∧ z3.2 ≤ (o4 + 1)) ∧
 ∀ (h_11 : PHeap), h_11 = h_10.put p3 (.cells ⟨splice l4 (o4 + 1) [vL a5 n4 k4]⟩ t3 z3) →
 C b4 h_11
theorem app_86 {b1 b2 : Nat} {i1 : Int} {r : List Int} {h4 : PHeap} {C : Nat → PHeap → Prop} (hA : AS hb h4 p mS a) (hC : a.p.code.length ≤ 1000000) (hd1 : hb.cell b1 0 = some (vP p 0)) (hb2 : h4 b2 = some (.cells ⟨regC r⟩ 163 (0, 0)))
 (hk : ∀ b4 hb' h', Ext hb hb' → AS hb' h' p mS { a with p := { a.p with code := a.p.code ++ [⟨i1, r.getD 0 0, r.getD 1 0, r.getD 2 0⟩] } } → hb'.cell b4 0 = some (vI (a.p.code.length : Int)) → C b4 h') : app86 b1 b2 i1 h4 C := by
 have hA0 := hA
 obtain ⟨K, hK⟩ := hA
 unfold app86
 refine ⟨_, _, cell_ext (fun ob => hK.ext b1 ob) hd1, _, _, _, (by rw [PA_cell hK.obj]; rfl), ?_⟩
 intro b4 hb4 h7 hh7
 refine ⟨_, _, _, Put.at hh7, ⟨by simp, Nat.zero_le _⟩, ?_⟩
 intro h8 hh8
 have hh8' : h8 = h4.put b4 (.cells ⟨[vI (a.p.code.length : Int)]⟩ 3 (0, 0)) := by rw [hh8, hh7, put_put]; rfl
 clear hh8 hh7 h7 hK K
 have x8 := Put.ext hh8' hb4
 obtain ⟨hb', hbx, hA8, hin⟩ := hA0.rebase x8
 have d4 : hb'.cell b4 0 = some (vI (a.p.code.length : Int)) := cell_of (hin b4 _ hb4 (Put.at hh8')) 0
 have d1 := cell_ext (fun ob => hbx b1 ob) hd1
 obtain ⟨K, hK⟩ := hA8
 have hb28 := x8 _ _ hb2
 refine ⟨_, _, cell_ext (fun ob => hK.ext b1 ob) d1, _, _, cell_ext (fun ob => hK.ext b1 ob) d1, _, _, _, (by rw [PA_cell hK.obj]; rfl), ⟨by decide, by decide⟩, _, cell_of hb28 0, ⟨by decide, by decide⟩, _, cell_of hb28 1, ⟨by decide, by decide⟩, _, cell_of hb28 2, ?_⟩
 intro b5 hb5 h9 hh9
 have x9 := Put.ext hh9 hb5
 have hK9 := hK.grow x9
 have hb29 := x9 _ _ hb28
 refine ⟨cell_of hb29 2, cell_of hb29 1, cell_of hb29 0, (by rw [PA_cell hK9.obj]; rfl), cell_ext (fun ob => hK9.ext b1 ob) d1, cell_ext (fun ob => hK9.ext b1 ob) d1, ?_⟩
 refine Raw.mono (LM.push und22 elem58 rfl rfl rfl rfl rfl hK.ext hK.code hb5 hh9 rfl rfl (by omega)) ?_
 rintro _ h10 ⟨b6, cap, rfl, hx10, hM10, hg⟩
 have hb210 : h10 b2 = some (.cells ⟨regC r⟩ 163 (0, 0)) := by rw [hg.ne hK9.code hb29 (notE_cells (by decide) _ _)]; exact hb29
 obtain ⟨hp10, hK10⟩ := hK9.appCode (x := ⟨i1, r.getD 0 0, r.getD 1 0, r.getD 2 0⟩) hx10 hM10 hg rfl
 refine ⟨_, _, _, rfl, cell_of hb210 2, cell_of hb210 1, cell_of hb210 0, cell_ext (fun ob => hx10 b1 ob) d1, cell_ext (fun ob => hx10 b1 ob) d1, _, _, _, (by rw [hp10]; exact hK9.obj), ⟨by simp, Nat.zero_le _⟩, ?_⟩
 rintro _ rfl
 exact hk b4 hb' _ hbx ⟨_, hK10⟩ d4
def num86 (b1 b4 : Nat) (i1 : Int) (a1 : OA) (n1 : Nat) (h_11 : PHeap) (Q : Value → PHeap → Prop) : Prop :=
 Tri Tryz.prog 114 [vI i1] h_11 fun v_4 h_12 =>
 ∃ (i10 i11 i12 : Int), v_4 = vT [vI i10, vI i11, vI i12] ∧
 ∃ (p5 o6 : Nat), h_12.cell b1 0 = some (vP p5 o6) ∧
 ∃ (b6 o7 : Nat), a1 = some ⟨b6, o7, none⟩ ∧ (0 ≤ (IntKind.i64.wrap (((n1 : Nat) : Int) - 1)) ∧ (IntKind.i64.wrap (((n1 : Nat) : Int) - 1)) < n1) ∧
 ∃ (l5 : Bs), h_12.cell b6 ((o7 + (IntKind.i64.wrap (((n1 : Nat) : Int) - 1)).toNat * 2) + 1) = some (vS l5) ∧
 Tri Tryz.prog 110 [vP p5 o6, vS l5, vI i10, vI i11, vF 115 [] [vP b1 0, vP b4 0]] h_12 fun v_5 h_13 =>
 ∃ (i13 i14 : Int), v_5 = vT [vI i13, vI i14] ∧
 Tri Tryz.prog 115 [vI i13, vP b1 0, vP b4 0] h_13 fun v_6 h_14 =>
 v_6 = vT [] ∧
 Q (vI i14) h_14
theorem setC_snoc (l : List Ins) (x : Ins) (n : Int) : setC (l ++ [x]) l.length n = l ++ [{ x with c := n }] := by
 unfold setC
 induction l with
 | nil => rfl
 | cons y l ih => rw [List.cons_append, List.length_cons, List.modify_succ_cons, ih]; rfl
theorem num_86 {b1 b4 op : Nat} {x : Ins} {code : List Ins} {t : Tk} {h11 : PHeap} (hA : AS hb h11 p mS { a with p := { a.p with code := code ++ [x] } }) (hO : OpTab hb) (hop : op < 27) (hf : 4 ≤ form op) (hd1 : hb.cell b1 0 = some (vP p 0)) (hd4 : hb.cell b4 0 = some (vI (code.length : Int)))
 (hT : TkAt hb a3 os) (ht : os.getLast? = some t) (hl : t.text.length ≤ 1000000) (hlen : os.length ≤ 1000000) (hU : a.uses.length ≤ 1000000) :
 num86 b1 b4 (op : Int) a3 os.length h11 fun v h' => Res hb p mS a.line ((valueS a.line t.text 0 code.length (limits op).1 (limits op).2) >>= fun y => .ok { a with p := { a.p with code := code ++ [{ x with c := y.1 }] }, uses := a.uses ++ y.2 }) v h' := by
 unfold num86
 have hne : os ≠ [] := fun e => by rw [e] at ht; cases ht
 have hpos : 0 < os.length := List.length_pos_iff.2 hne
 refine Tri.mono (limits_t h11 (hO.ext hA.ext) hop hf) ?_
 rintro _ h12 ⟨rfl, rfl⟩
 have hg : os[os.length - 1]? = some t := by rw [← List.getLast?_eq_getElem?]; exact ht
 obtain ⟨b, o, ha, _, hc⟩ := tk_cell (n := 1) hA hT hg
 have hw : IntKind.i64.wrap ((os.length : Int) - 1) = ((os.length - 1 : Nat) : Int) := by rw [wrap64 (by omega) (by omega)]; omega
 rw [hw]
 refine ⟨_, _, _, rfl, _, _, cell_ext (fun ob => hA.ext b1 ob) hd1, b, o, ha, ⟨by omega, by omega⟩, _, (by rw [Int.toNat_natCast]; exact hc), ?_⟩
 refine Tri.mono (value_t (kind := 0) (idx := code.length) hA hl (by simp only; omega) (.inr (.inr ⟨rfl, rfl, b1, b4, rfl, hd1, hd4⟩)) (limits op).1 (limits op).2 rfl rfl (fun h => by omega)) ?_
 intro v h13 hV
 simp only at hV
 cases hv : valueS a.line t.text 0 code.length (limits op).1 (limits op).2 with
 | error e =>
   rw [hv] at hV
   obtain ⟨rfl, he, hb2, hbx, hA2⟩ := hV
   refine ⟨_, _, rfl, ?_⟩
   refine Tri.mono (put115_t hA2 (cell_ext (fun ob => hbx b1 ob) hd1) (cell_ext (fun ob => hbx b4 ob) hd4) (by simp)) ?_
   rintro _ h14 ⟨rfl, hA14⟩
   refine ⟨rfl, rfl, he, hbx.trans hA14.ext, hA14.line⟩
 | ok y =>
   obtain ⟨n, us⟩ := y
   rw [hv] at hV
   obtain ⟨rfl, hb2, hbx, hA2⟩ := hV
   refine ⟨_, _, rfl, ?_⟩
   refine Tri.mono (put115_t hA2 (cell_ext (fun ob => hbx b1 ob) hd1) (cell_ext (fun ob => hbx b4 ob) hd4) (by simp)) ?_
   rintro _ h14 ⟨rfl, hA14⟩
   simp only [setC_snoc] at hA14
   exact ⟨rfl, rfl, hb2, hbx, hA14⟩
theorem regs_err {l : List Tk} {e : Nat} (h : regsS l = .error e) : e = 30 := by
 induction l with
 | nil => cases h
 | cons t l ih =>
   rw [regsS] at h
   split at h
   · injection h with h; exact h.symm
   · cases hr : regsS l with
     | error e' => rw [hr] at h; injection h with h; subst h; exact ih hr
     | ok r => rw [hr] at h; cases h
theorem form4 (k : Nat) (hk : k < 27) (op : 4 ≤ form k) : ∀ (n : Nat), operandsN k = n → 1 ≤ n ∧ n ≤ 3 := by
 intro n hn
 have := form_le k
 unfold operandsN at hn
 have hf7 : form k = 4 ∨ form k = 5 ∨ form k = 6 := by omega
 rcases hf7 with e | e | e <;> rw [e] at hn <;> simp at hn <;> omega
theorem getD_pad (r : List Int) (c : Int) (h : r.length ≤ 3) : r.getD 0 0 = r.getD 0 0 := rfl
theorem isf {f n : Nat} {b : Bool} (e : (((f : Nat) : Int) == (n : Int)) = b) : decide (f = n) = b := by
 subst e; rw [Bool.eq_iff_iff]; simp; omega
theorem instr86_t (hA : AS hb h p mS a) (hO : OpTab hb) {op : Nat} (hop : op < 27) (hT : TkAt hb a3 os) (hk3 : os.length ≤ k3) (hok3 : okA a3 os.length k3) (hn : os.length = operandsN op) (hl : ∀ t ∈ os, t.text.length ≤ 1000000) (hC : a.p.code.length ≤ 1000000) (hU : a.uses.length ≤ 1000000) :
 Tri Tryz.prog 86 [vP p 0, vI (op : Int), vL a3 os.length k3] h fun v h' => Res hb p mS a.line (instrX a op os) v h' := by
 have h3 : os.length ≤ 3 := by rw [hn]; unfold operandsN; split <;> omega
 refine T86 ?_
 unfold R86
 intro b1 hb1 h1 hh1
 have x1 := Put.ext hh1 hb1
 obtain ⟨hB, hbx, hA2, hin⟩ := hA.rebase x1
 have d1 : hB.cell b1 0 = some (vP p 0) := cell_of (hin b1 _ hb1 (Put.at hh1)) 0
 have hO2 := hO.ext hbx
 have hT2 := hT.ext hbx
 refine Tri.mono (form_t h1 (hO2.ext hA2.ext) hop) ?_
 rintro _ h2 ⟨rfl, rfl⟩
 refine ⟨_, _, rfl, ?_⟩
 have h6 := form_le op
 have err : ∀ {h' l}, regsS l = .error 30 → (4 ≤ form op ∧ l = os.dropLast ∨ form op ≤ 3 ∧ l = os) → AS hB h' p mS a → Res hb p mS a.line (instrX a op os) (vI 30) h' := fun {h' l} hr hc hA' => by
  have : instrX a op os = .error 30 := by
   unfold instrX
   rcases hc with ⟨hf, rfl⟩ | ⟨hf, rfl⟩
   · rw [if_neg (by omega), hr]; rfl
   · rw [if_pos hf, hr]; rfl
  exact res_err this (by decide) hbx hA'
 have num : 4 ≤ form op → ∀ C : Nat → PHeap → Prop, (∀ b4 h11, num86 b1 b4 (op : Int) a3 os.length h11 (fun v h' => Res hb p mS a.line (instrX a op os) v h') → C b4 h11) → ((okA a3 os.length k3 ∧ 0 ≤ (0 : Int) ∧ (0 : Int) ≤ (IntKind.i64.wrap (((os.length : Nat) : Int) - 1)) ∧ (IntKind.i64.wrap (((os.length : Nat) : Int) - 1)) ≤ k3) ∧ ∀ (a2 : OA), SlA a3 a2 0 k3 2 →
  ∀ (b2 : Nat), h2 b2 = none → ∀ (h_3 : PHeap), h_3 = h2.put b2 (.cells ⟨[vI 0, vI 0, vI 0]⟩ 163) →
  loop86 a2 ((((IntKind.i64.wrap (((os.length : Nat) : Int) - 1)).toNat - 0) : Nat) : Int) b2 h_3 (fun v h' => Res hb p mS a.line (instrX a op os) v h') fun h_4 => app86 b1 b2 (op : Int) h_4 C) := by
  intro hf C hC2
  obtain ⟨l1, l2⟩ := form4 op hop hf _ hn.symm
  have hw : IntKind.i64.wrap ((os.length : Int) - 1) = ((os.length - 1 : Nat) : Int) := by rw [wrap64 (by omega) (by omega)]; omega
  rw [hw]
  refine ⟨⟨hok3, by omega, by omega, by omega⟩, ?_⟩
  intro a2 hs2 b2 hb2 h3' hh3
  have x3 := Put.ext hh3 hb2
  have hTa : TkAt hB a2 os := by have := hT2.drop hk3 hs2; rwa [List.drop_zero] at this
  have hn2 : hB b2 = none := hA2.ext.dom _ hb2
  have htk : os.take (os.length - 1) = os.dropLast := List.dropLast_eq_take.symm
  obtain ⟨t, ht⟩ : ∃ t, os.getLast? = some t := by
   cases hg : os.getLast? with
   | some t => exact ⟨t, rfl⟩
   | none => rw [List.getLast?_eq_none_iff] at hg; rw [hg] at l1; simp at l1
  have htl := hl t (List.mem_of_getLast? ht)
  refine loop_86 (N := os.length - 1) (by rw [Int.toNat_natCast, Nat.sub_zero]) (by omega) (by omega) hTa (hA2.grow x3) (Put.at hh3) hn2 (fun h' hr hA' => ?_) fun h' r hr hA' hb' => ?_
  · rw [htk] at hr
    exact err hr (.inl ⟨hf, rfl⟩) hA'
  · rw [htk] at hr
    refine app_86 hA' hC d1 hb' fun b4 hB' h'' hbx' hA'' d4 => ?_
    have := num_86 (code := a.p.code) hA'' ((hO2.ext hbx')) hop hf (cell_ext (fun ob => hbx' b1 ob) d1) d4 (hT2.ext hbx') ht htl (by omega) hU
    refine hC2 _ _ (Tri.mono this ?_)
    rintro v1 h12 ⟨i10, i11, i12, rfl, p5, o6, hc5, b6, o7, ha6, hn6, l5, hl5, hT5⟩
    refine ⟨i10, i11, i12, rfl, p5, o6, hc5, b6, o7, ha6, hn6, l5, hl5, Tri.mono hT5 ?_⟩
    rintro v2 h13 ⟨i13, i14, rfl, hT6⟩
    refine ⟨i13, i14, rfl, Tri.mono hT6 ?_⟩
    rintro v3 h14 ⟨rfl, hR⟩
    refine ⟨rfl, ?_⟩
    have hX : instrX a op os = (valueS a.line t.text 0 a.p.code.length (limits op).1 (limits op).2) >>= fun y => .ok { a with p := { a.p with code := a.p.code ++ [fieldsI op r y.1] }, uses := a.uses ++ y.2 } := by
     unfold instrX
     rw [if_neg (by omega), hr, ht]; rfl
    rw [hX]
    have hfd : ∀ c, fieldsI op r c = ⟨op, r.getD 0 0, r.getD 1 0, c⟩ := fun c => by unfold fieldsI; rw [if_neg (by omega)]
    simp only [hfd]
    cases hv : valueS a.line t.text 0 a.p.code.length (limits op).1 (limits op).2 with
    | error e =>
      rw [hv] at hR
      obtain ⟨g1, g2, g3, g4⟩ := hR
      exact ⟨g1, g2, (hbx.trans hbx').trans g3, g4⟩
    | ok y =>
      rw [hv] at hR
      obtain ⟨g1, hB2, g2, g3⟩ := hR
      exact ⟨g1, hB2, (hbx.trans hbx').trans g2, g3⟩
 refine br_split (fun e => num (by have := of_decide_eq_true (isf (n := 6) e); omega) _ fun b4 h11 hh => hh) fun e6 => br_split (fun e => num (by have := of_decide_eq_true (isf (n := 4) e); omega) _ fun b4 h11 hh => hh) fun e4 =>
  br_split (fun e => num (by have := of_decide_eq_true (isf (n := 5) e); omega) _ fun b4 h11 hh => br_neg (by rw [e]; rfl) hh) fun e5 => ?_
 have hf : form op ≤ 3 := by
  have := of_decide_eq_false (isf (n := 6) e6); have := of_decide_eq_false (isf (n := 4) e4); have := of_decide_eq_false (isf (n := 5) e5)
  omega
 intro b2 hb2 h3' hh3
 have x3 := Put.ext hh3 hb2
 have hn2 : hB b2 = none := hA2.ext.dom _ hb2
 refine loop_86 (N := os.length) rfl (Nat.le_refl _) h3 hT2 (hA2.grow x3) (Put.at hh3) hn2 (fun h' hr hA' => ?_) fun h' r hr hA' hb' => ?_
 · rw [List.take_length] at hr
   exact err hr (.inr ⟨hf, rfl⟩) hA'
 · rw [List.take_length] at hr
   refine app_86 hA' hC d1 hb' fun b4 hB' h'' hbx' hA'' d4 => ?_
   refine br_pos (by rw [e5]; rfl) ?_
   have hX : instrX a op os = .ok { a with p := { a.p with code := a.p.code ++ [fieldsI op r 0] } } := by
    unfold instrX
    rw [if_pos hf, hr]; rfl
   rw [hX]
   have hfd : fieldsI op r 0 = ⟨op, r.getD 0 0, r.getD 1 0, r.getD 2 0⟩ := by unfold fieldsI; rw [if_pos hf]
   rw [hfd]
   exact ⟨rfl, hB', hbx.trans hbx', hA''⟩
theorem stmt85_t (hA : AS hb h p mS a) (hO : OpTab hb) {op c : Nat} (hc : hb.cell c 0 = some (vI (op : Int))) (hop : op < 27) (hT : TkAt hb a3 os) (hk3 : os.length ≤ k3) (hok3 : okA a3 os.length k3) (hn : os.length = operandsN op) (hl : ∀ t ∈ os, t.text.length ≤ 1000000) (hC : a.p.code.length ≤ 1000000) (hU : a.uses.length ≤ 1000000) :
 Tri Tryz.prog 85 [vP p 0, vL a3 os.length k3, vP c 0] h fun v h' => Res hb p mS a.line (instrX a op os) v h' := by
 refine T85 ?_
 unfold R85
 refine ⟨_, cell_ext (fun ob => hA.ext c ob) hc, ?_⟩
 refine Tri.mono (instr86_t hA hO hop hT hk3 hok3 hn hl hC hU) ?_
 intro v h1 hR
 cases hX : instrX a op os with
 | error e => rw [hX] at hR; obtain ⟨rfl, g⟩ := hR; exact ⟨_, rfl, rfl, g⟩
 | ok a' => rw [hX] at hR; obtain ⟨rfl, g⟩ := hR; exact ⟨_, rfl, rfl, g⟩
end
end Go.Proofs.D
namespace Go.As
theorem tok_facts : ∀ (f : Nat) (s : Bytes) (ts : List Tk), tokensS f s = some ts → ∀ t ∈ ts, t.text.length ≤ s.length + 1 ∧ (t.kind = 1 → t.text ≠ [])
 | 0, _, _, h, _, _ => by simp [tokensS] at h
 | f + 1, [], ts, h, t, ht => by simp [tokensS] at h; subst h; cases ht
 | f + 1, c :: r, ts, h, t, ht => by
   rw [tokensS] at h
   have rec1 : ∀ l, tokensS f r = some l → t ∈ l → t.text.length ≤ (c :: r).length + 1 ∧ (t.kind = 1 → t.text ≠ []) := fun l h1 h2 => by
    have := tok_facts f r l h1 t h2
    exact ⟨by simp; omega, this.2⟩
   split at h
   · simp at h; subst h; cases ht
   split at h
   · exact rec1 ts h ht
   split at h
   · simp only [Option.map_eq_some_iff] at h
     obtain ⟨l, h1, rfl⟩ := h
     rcases List.mem_cons.1 ht with rfl | ht
     · exact ⟨by simp, fun h => by cases h⟩
     · exact rec1 l h1 ht
   split at h
   · simp only [Option.map_eq_some_iff] at h
     obtain ⟨l, h1, rfl⟩ := h
     rcases List.mem_cons.1 ht with rfl | ht
     · exact ⟨by simp, fun h => by cases h⟩
     · exact rec1 l h1 ht
   split at h
   · split at h
     · cases h
     · rename_i x r' hu
       have hl := unq_len hu
       have hx : ∀ (f : Nat) (r x r' : Bytes), unq f r = some (x, r') → x.length ≤ r.length := by
        intro f
        induction f with
        | zero => intro r x r' h; simp [unq] at h
        | succ f ih =>
          intro r x r' h
          match r, h with
          | [], h => simp [unq] at h
          | c :: r, h =>
            rw [unq] at h
            split at h
            · simp only [Option.some.injEq, Prod.mk.injEq] at h; obtain ⟨rfl, _⟩ := h; simp
            split at h
            · split at h
              · cases h
              · rename_i b r2 he
                have h1 := escB_len he
                simp only [Option.map_eq_some_iff] at h
                obtain ⟨⟨y, r3⟩, h2, h3⟩ := h
                have := ih _ _ _ h2
                simp only [Prod.mk.injEq] at h3
                obtain ⟨rfl, _⟩ := h3
                simp; omega
            split at h
            · cases h
            · simp only [Option.map_eq_some_iff] at h
              obtain ⟨⟨y, r3⟩, h2, h3⟩ := h
              have := ih _ _ _ h2
              simp only [Prod.mk.injEq] at h3
              obtain ⟨rfl, _⟩ := h3
              simp; omega
       have hxl := hx _ _ _ _ hu
       simp only [Option.map_eq_some_iff] at h
       obtain ⟨l, h1, rfl⟩ := h
       rcases List.mem_cons.1 ht with rfl | ht
       · exact ⟨by simp; omega, fun h => by cases h⟩
       · have := tok_facts f r' l h1 t ht
         exact ⟨by simp; omega, this.2⟩
   split at h
   · rename_i hw
     simp only [Option.map_eq_some_iff] at h
     obtain ⟨l, h1, rfl⟩ := h
     have htd := take_drop_len (c :: r)
     rcases List.mem_cons.1 ht with rfl | ht
     · refine ⟨by simp only [List.length_cons] at *; omega, fun _ => ?_⟩
       simp only
       rw [List.takeWhile_cons, if_pos hw]; simp
     · have := tok_facts f _ l h1 t ht
       exact ⟨by simp only [List.length_cons] at *; omega, this.2⟩
   · cases h
theorem operands_sub : ∀ (l os : List Tk), operandsS l = some os → os.length ≤ l.length ∧ ∀ t ∈ os, t ∈ l
 | [], os, h => by simp [operandsS] at h; subst h; exact ⟨by simp, fun t ht => by cases ht⟩
 | [t], os, h => by
   simp only [operandsS] at h
   split at h
   · injection h with h; subst h; exact ⟨by simp, fun t ht => ht⟩
   · cases h
 | [_, _], os, h => by simp [operandsS] at h
 | t :: u :: v :: l, os, h => by
   simp only [operandsS] at h
   split at h
   · simp only [Option.map_eq_some_iff] at h
     obtain ⟨x, h1, rfl⟩ := h
     obtain ⟨h2, h3⟩ := operands_sub (v :: l) x h1
     refine ⟨by simp at h2 ⊢; omega, fun w hw => ?_⟩
     rcases List.mem_cons.1 hw with rfl | hw
     · exact List.mem_cons_self ..
     · exact List.mem_cons_of_mem _ (List.mem_cons_of_mem _ (h3 w hw))
   · cases h
theorem split_sub : ∀ (ts : List Tk) (ls : List Bytes) (o : Option (Bytes × List Tk)), splitL ts = some (ls, o) → ls.length ≤ ts.length ∧ ∀ n os, o = some (n, os) → os.length ≤ ts.length ∧ (∀ t ∈ os, t ∈ ts) ∧ ∃ t ∈ ts, t.kind = 1 ∧ t.text = n
 | [], ls, o, h => by simp [splitL] at h; obtain ⟨rfl, rfl⟩ := h; exact ⟨by simp, fun _ _ h => by cases h⟩
 | t :: l, ls, o, h => by
   by_cases hk : t.kind = 1
   · by_cases h4 : ∃ u r, l = u :: r ∧ u.kind = 4
     · obtain ⟨u, r, rfl, h4⟩ := h4
       rw [splitL, if_neg (by simp [hk]), if_pos h4] at h
       simp only [Option.map_eq_some_iff] at h
       obtain ⟨⟨ls', o'⟩, h1, h2⟩ := h
       simp only [Prod.mk.injEq] at h2
       obtain ⟨rfl, rfl⟩ := h2
       obtain ⟨g1, g2⟩ := split_sub r ls' o' h1
       refine ⟨by simp; omega, fun n os ho => ?_⟩
       obtain ⟨g3, g4, t', g5, g6⟩ := g2 n os ho
       exact ⟨by simp; omega, fun t ht => List.mem_cons_of_mem _ (List.mem_cons_of_mem _ (g4 t ht)), t', List.mem_cons_of_mem _ (List.mem_cons_of_mem _ g5), g6⟩
     · have hs : splitL (t :: l) = (operandsS l).map fun x => ([], some (t.text, x)) := by
        cases l with
        | nil => rw [splitL, if_neg (by simp [hk])]; rfl
        | cons u r => rw [splitL, if_neg (by simp [hk]), if_neg (fun h => h4 ⟨u, r, rfl, h⟩)]
       rw [hs] at h
       simp only [Option.map_eq_some_iff] at h
       obtain ⟨x, h1, h2⟩ := h
       simp only [Prod.mk.injEq] at h2
       obtain ⟨rfl, rfl⟩ := h2
       obtain ⟨g1, g2⟩ := operands_sub l x h1
       refine ⟨by simp, fun n os ho => ?_⟩
       injection ho with ho; injection ho with ho1 ho2
       subst ho1; subst ho2
       exact ⟨by simp; omega, fun t ht => List.mem_cons_of_mem _ (g2 t ht), t, List.mem_cons_self .., hk, rfl⟩
   · cases l <;> rw [splitL, if_pos hk] at h <;> cases h
def doS (a : St) (n : Bytes) (l : List Tk) (c d : Bool) (lo hi : Nat) (t : Bool) (X : R St) : R St :=
 if ((a.inData && !d) || (!a.inData && !c) || (n == dEntry && a.hasEntry) || (n == dZero && a.hasZero)) = true then .error 10
 else if l.length < lo ∨ hi < l.length then .error 30
 else if (l.all fun k => decide (k.kind = 2) == t) = false then .error 30
 else X >>= fun a' => if 1024 < a'.p.code.length ∨ 4096 < a'.p.data.length then .error 9 else .ok a'
structure Lim (a : St) : Prop where
 code : a.p.code.length ≤ 1024
 data : a.p.data.length ≤ 4096
 labels : a.p.labels.length ≤ 1024
 uses : a.uses.length ≤ a.p.code.length + a.p.data.length + a.hasEntry.toNat
theorem all_no (l : List Tk) : (l.all fun k => decide (k.kind = 2) == false) = noStr l := by
 unfold noStr
 congr 1
 funext t
 by_cases h : t.kind = 2 <;> simp [h]
theorem bind_lim {a : St} {X : R St} (h : ∀ a', X = .ok a' → a'.p.code.length ≤ 1024 ∧ a'.p.data.length ≤ 4096) : (X >>= fun a' => if 1024 < a'.p.code.length ∨ 4096 < a'.p.data.length then (.error 9 : R St) else .ok a') = X := by
 cases X with
 | error e => rfl
 | ok a' =>
   have := h a' rfl
   show (if _ then _ else _) = _
   rw [if_neg (by omega)]
theorem valX {α : Type} {line kind idx : Nat} {t : Bytes} {low high : Int} (f : Int × List Us → α) : ((valueS line t kind idx low high) >>= fun x => (.ok (f x) : R α)) = (valueS line t kind idx low high).map f := by
 cases valueS line t kind idx low high <;> rfl
theorem full_eq {a : St} {X : R St} (hc : ∀ a', X = .ok a' → a'.p.code.length ≤ 1024) : (X >>= fun a' => full a') = X >>= fun a' => if 1024 < a'.p.code.length ∨ 4096 < a'.p.data.length then (.error 9 : R St) else .ok a' := by
 cases X with
 | error e => rfl
 | ok a' =>
   have := hc a' rfl
   show full a' = (if _ then _ else _)
   unfold full
   by_cases h : 4096 < a'.p.data.length
   · rw [if_pos h, if_pos (.inr h)]
   · rw [if_neg h, if_neg (by omega)]
theorem words_code : ∀ (l : List Tk) (a a' : St), wordsS a l = .ok a' → a'.p.code = a.p.code ∧ a'.p.labels = a.p.labels ∧ a'.hasEntry = a.hasEntry ∧ a'.line = a.line ∧ a'.uses.length + a.p.data.length ≤ a.uses.length + a'.p.data.length
 | [], a, a', h => by simp [wordsS] at h; subst h; exact ⟨rfl, rfl, rfl, rfl, Nat.le_refl _⟩
 | t :: l, a, a', h => by
   rw [wordsS] at h
   obtain ⟨⟨n, u⟩, hv, h⟩ := bind_ok h
   obtain ⟨h1, h2, h3, h4, h5⟩ := words_code l _ a' h
   have hu : u.length ≤ 1 := Go.Proofs.D.val_fst hv
   refine ⟨h1, h2, h3, h4, ?_⟩
   simp [Go.Proofs.D.wordOf_len] at h5
   omega
theorem bytes_code : ∀ (l : List Tk) (a a' : St), bytesS a l = .ok a' → a'.p.code = a.p.code ∧ a'.p.labels = a.p.labels ∧ a'.hasEntry = a.hasEntry ∧ a'.line = a.line ∧ a'.uses = a.uses ∧ a.p.data.length ≤ a'.p.data.length
 | [], a, a', h => by simp [bytesS] at h; subst h; exact ⟨rfl, rfl, rfl, rfl, rfl, Nat.le_refl _⟩
 | t :: l, a, a', h => by
   rw [bytesS] at h
   obtain ⟨n, hv, h⟩ := bind_ok h
   obtain ⟨h1, h2, h3, h4, h5, h6⟩ := bytes_code l _ a' h
   refine ⟨h1, h2, h3, h4, h5, ?_⟩
   simp at h6; omega
theorem instrX_ok {a a' : St} {op : Nat} {l : List Tk} (h : instrX a op l = .ok a') : a'.p.code.length = a.p.code.length + 1 ∧ a'.p.data = a.p.data ∧ a'.p.labels = a.p.labels ∧ a'.hasEntry = a.hasEntry ∧ a'.line = a.line ∧ a'.uses.length ≤ a.uses.length + 1 := by
 unfold instrX at h
 split at h
 · obtain ⟨r, _, h⟩ := bind_ok h
   injection h with h; subst h; exact ⟨by simp, rfl, rfl, rfl, rfl, Nat.le_succ _⟩
 · obtain ⟨r, _, h⟩ := bind_ok h
   obtain ⟨⟨n, u⟩, hv, h⟩ := bind_ok h
   have hu : u.length ≤ 1 := Go.Proofs.D.val_fst hv
   injection h with h; subst h
   refine ⟨by simp, rfl, rfl, rfl, rfl, ?_⟩
   simp; omega
theorem stmt_op {a : St} {n : Bytes} {l : List Tk} {op : Nat} (ha : Lim a) (hf : wordsB.findIdx? (· == n) = some op) : stmtS a n l = doS a n l true false (operandsN op) (operandsN op) false (instrX a op l) := by
 have hn : (n == dEntry) = false ∧ (n == dZero) = false := by
  constructor
  · cases e : n == dEntry with
    | false => rfl
    | true => have e : n = dEntry := by simpa using e
              subst e; rw [show wordsB.findIdx? (· == dEntry) = none by decide] at hf; cases hf
  · cases e : n == dZero with
    | false => rfl
    | true => have e : n = dZero := by simpa using e
              subst e; rw [show wordsB.findIdx? (· == dZero) = none by decide] at hf; cases hf
 unfold stmtS doS
 rw [hf, hn.1, hn.2, all_no]
 simp only [Bool.not_false, Bool.and_true, Bool.not_true, Bool.and_false, Bool.false_and, Bool.or_false]
 by_cases h1 : a.inData = true
 · rw [if_pos h1, if_pos h1]
 rw [if_neg h1, if_neg h1]
 by_cases h2 : l.length ≠ operandsN op ∨ noStr l = false
 · rw [if_pos h2]
   by_cases h3 : l.length < operandsN op ∨ operandsN op < l.length
   · rw [if_pos h3]
   · rw [if_neg h3, if_pos]
     rcases h2 with h2 | h2
     · omega
     · exact h2
 · rw [if_neg h2, if_neg (by omega), if_neg (fun h => h2 (.inr h)), instr_X]
   cases hX : instrX a op l with
   | error e => rfl
   | ok a' =>
     obtain ⟨g1, g2, _⟩ := instrX_ok hX
     show (if _ then _ else _) = (if _ then _ else _)
     have := ha.data
     rw [g2]
     by_cases h4 : 1024 ≤ a.p.code.length
     · rw [if_pos h4, if_pos (by omega)]
     · rw [if_neg h4, if_neg (by omega)]
theorem do_len0 {a : St} {n : Bytes} {l : List Tk} {X : R St} (h : l ≠ []) (h1 : (n == dEntry) = false) (h2 : (n == dZero) = false) : doS a n l true true 0 0 false X = .error 30 := by
 have hl := List.length_pos_iff.2 h
 unfold doS
 rw [h1, h2, if_neg (by simp), if_pos (.inr hl)]
theorem stmt_code {a : St} {l : List Tk} (ha : Lim a) : stmtS a dCode l = doS a dCode l true true 0 0 false (.ok { a with inData := false }) := by
 have hf : wordsB.findIdx? (· == dCode) = none := by decide
 unfold stmtS
 rw [hf]
 simp only
 rw [if_pos (.inl trivial)]
 by_cases hl : l = []
 · subst hl
   unfold doS
   rw [if_neg (fun h => h rfl), if_neg (by simp [dCode, dEntry, dZero]), if_neg (by simp), if_neg (by simp), bind_lim (a := a) (fun a' h => by injection h with h; subst h; exact ⟨ha.code, ha.data⟩)]
   rfl
 · rw [if_pos hl, do_len0 hl rfl rfl]
theorem stmt_data {a : St} {l : List Tk} (ha : Lim a) : stmtS a dData l = doS a dData l true true 0 0 false (.ok { a with inData := true }) := by
 have hf : wordsB.findIdx? (· == dData) = none := by decide
 unfold stmtS
 rw [hf]
 simp only
 rw [if_pos (.inr trivial)]
 by_cases hl : l = []
 · subst hl
   unfold doS
   rw [if_neg (fun h => h rfl), if_neg (by simp [dData, dEntry, dZero]), if_neg (by simp), if_neg (by simp), bind_lim (a := a) (fun a' h => by injection h with h; subst h; exact ⟨ha.code, ha.data⟩)]
   rfl
 · rw [if_pos hl, do_len0 hl rfl rfl]
theorem do_one {a : St} {n : Bytes} {l : List Tk} {X Y : R St} {b : Bool} (h1 : ((n == dEntry && a.hasEntry) || (n == dZero && a.hasZero)) = b) (hX : ∀ a', X = .ok a' → a'.p.code.length ≤ 1024 ∧ a'.p.data.length ≤ 4096) (hY : l.length = 1 → Y = X) :
 (if b = true then (.error 10 : R St) else if l.length ≠ 1 ∨ noStr l = false then .error 30 else Y) = doS a n l true true 1 1 false X := by
 unfold doS
 have h2 : (((a.inData && !true) || (!a.inData && !true) || (n == dEntry && a.hasEntry)) || (n == dZero && a.hasZero)) = b := by rw [← h1]; simp
 rw [h2, all_no, bind_lim (a := a) hX]
 by_cases hb : b = true
 · rw [if_pos hb, if_pos hb]
 · rw [if_neg hb, if_neg hb]
   by_cases h3 : l.length = 1
   · rw [if_neg (by omega : ¬ (l.length < 1 ∨ 1 < l.length)), hY h3]
     by_cases h4 : noStr l = false
     · rw [if_pos (.inr h4), if_pos h4]
     · rw [if_neg (by rintro (h | h); exact h h3; exact h4 h), if_neg h4]
   · rw [if_pos (.inl h3), if_pos (by omega)]
theorem stmt_entry {a : St} {l : List Tk} (ha : Lim a) : stmtS a dEntry l = doS a dEntry l true true 1 1 false (Go.Proofs.D.entryX a (l.getD 0 ⟨1, []⟩).text) := by
 have hf : wordsB.findIdx? (· == dEntry) = none := by decide
 unfold stmtS
 rw [hf]
 simp only
 rw [if_neg (by decide), if_pos trivial]
 have := do_one (a := a) (n := dEntry) (l := l) (X := Go.Proofs.D.entryX a (l.getD 0 ⟨1, []⟩).text) (Y := Go.Proofs.D.entryX a (l.getD 0 ⟨1, []⟩).text) (b := a.hasEntry) (by simp [dEntry, dZero]) (fun a' h => by
  unfold Go.Proofs.D.entryX at h
  obtain ⟨x, _, h⟩ := bind_ok h
  injection h with h; subst h; exact ⟨ha.code, ha.data⟩) (fun _ => rfl)
 rw [← this]
 rfl
theorem stmt_zero {a : St} {l : List Tk} (ha : Lim a) : stmtS a dZero l = doS a dZero l true true 1 1 false (Go.Proofs.D.zeroX a (l.getD 0 ⟨1, []⟩).text) := by
 have hf : wordsB.findIdx? (· == dZero) = none := by decide
 unfold stmtS
 rw [hf]
 simp only
 rw [if_neg (by decide), if_neg (by decide), if_pos trivial]
 have := do_one (a := a) (n := dZero) (l := l) (X := Go.Proofs.D.zeroX a (l.getD 0 ⟨1, []⟩).text) (Y := Go.Proofs.D.zeroX a (l.getD 0 ⟨1, []⟩).text) (b := a.hasZero) (by simp [dEntry, dZero]) (fun a' h => by
  unfold Go.Proofs.D.zeroX at h
  obtain ⟨x, _, h⟩ := bind_ok h
  injection h with h; subst h; exact ⟨ha.code, ha.data⟩) (fun _ => rfl)
 rw [← this]
 rfl
theorem do_data {a : St} {n : Bytes} {l : List Tk} {X Y : R St} {hi : Nat} {t : Bool} (h1 : (n == dEntry) = false) (h2 : (n == dZero) = false) (hX : (X >>= fun a' => if 1024 < a'.p.code.length ∨ 4096 < a'.p.data.length then (.error 9 : R St) else .ok a') = Y) (c : Prop) [Decidable c] (hc : c ↔ (l.length < 1 ∨ hi < l.length)) :
 (if a.inData = false then (.error 10 : R St) else if c then .error 30 else if (l.all fun k => decide (k.kind = 2) == t) = false then .error 30 else Y) = doS a n l false true 1 hi t X := by
 unfold doS
 rw [h1, h2, hX]
 simp only [Bool.not_true, Bool.and_false, Bool.not_false, Bool.and_true, Bool.false_and, Bool.or_false, Bool.false_or]
 by_cases hd : a.inData = false
 · have hb : (!a.inData) = true := by simp [hd]
   rw [if_pos hd, if_pos hb]
 · have hb : ¬ ((!a.inData) = true) := by simpa using hd
   rw [if_neg hd, if_neg hb]
   by_cases h3 : c
   · rw [if_pos h3, if_pos (hc.1 h3)]
   · rw [if_neg h3, if_neg (fun h => h3 (hc.2 h))]
theorem stmt_bytes {a : St} {l : List Tk} (ha : Lim a) (hl : l.length ≤ 65536) : stmtS a dByte l = doS a dByte l false true 1 65536 false (bytesS a l) := by
 have hf : wordsB.findIdx? (· == dByte) = none := by decide
 have hfull := full_eq (a := a) (X := bytesS a l) (fun a' h => by rw [(bytes_code l a a' h).1]; exact ha.code)
 have := do_data (a := a) (n := dByte) (l := l) (hi := 65536) (t := false) (X := bytesS a l) rfl rfl hfull.symm (l = [] ∨ ((dByte = dText ∨ dByte = dSpace) ∧ l.length ≠ 1)) (by
  cases l with
  | nil => simp
  | cons x l => simp [dByte, dText, dSpace] at hl ⊢; omega)
 rw [← this]
 unfold stmtS
 rw [hf]
 simp only
 rw [if_neg (by decide), if_neg (by decide), if_neg (by decide), if_pos (.inr (.inl trivial))]
 have e : decide (dByte = dText) = false := by decide
 simp only [e]
 rfl
theorem stmt_words {a : St} {l : List Tk} (ha : Lim a) (hl : l.length ≤ 65536) : stmtS a dWord l = doS a dWord l false true 1 65536 false (wordsS a l) := by
 have hf : wordsB.findIdx? (· == dWord) = none := by decide
 have hfull := full_eq (a := a) (X := wordsS a l) (fun a' h => by rw [(words_code l a a' h).1]; exact ha.code)
 have := do_data (a := a) (n := dWord) (l := l) (hi := 65536) (t := false) (X := wordsS a l) rfl rfl hfull.symm (l = [] ∨ ((dWord = dText ∨ dWord = dSpace) ∧ l.length ≠ 1)) (by
  cases l with
  | nil => simp
  | cons x l => simp [dWord, dText, dSpace] at hl ⊢; omega)
 rw [← this]
 unfold stmtS
 rw [hf]
 simp only
 rw [if_neg (by decide), if_neg (by decide), if_neg (by decide), if_pos (.inl trivial)]
 have e : decide (dWord = dText) = false := by decide
 simp only [e]
 rfl
theorem stmt_text {a : St} {l : List Tk} (ha : Lim a) : stmtS a dText l = doS a dText l false true 1 1 true (.ok { a with p := { a.p with data := a.p.data ++ (l.getD 0 ⟨1, []⟩).text } }) := by
 have hf : wordsB.findIdx? (· == dText) = none := by decide
 have hfull := full_eq (a := a) (X := .ok { a with p := { a.p with data := a.p.data ++ (l.getD 0 ⟨1, []⟩).text } }) (fun a' h => by injection h with h; subst h; exact ha.code)
 have := do_data (a := a) (n := dText) (l := l) (hi := 1) (t := true) (X := .ok { a with p := { a.p with data := a.p.data ++ (l.getD 0 ⟨1, []⟩).text } }) rfl rfl hfull.symm (l = [] ∨ ((dText = dText ∨ dText = dSpace) ∧ l.length ≠ 1)) (by
  cases l with
  | nil => simp
  | cons x l => simp [List.length_pos_iff])
 rw [← this]
 unfold stmtS
 rw [hf]
 simp only
 rw [if_neg (by decide), if_neg (by decide), if_neg (by decide), if_pos (.inr (.inr (.inl trivial)))]
 rfl
theorem stmt_space {a : St} {l : List Tk} (ha : Lim a) : stmtS a dSpace l = doS a dSpace l false true 1 1 false (Go.Proofs.D.spaceX a (l.getD 0 ⟨1, []⟩).text) := by
 have hf : wordsB.findIdx? (· == dSpace) = none := by decide
 have hfull := full_eq (a := a) (X := Go.Proofs.D.spaceX a (l.getD 0 ⟨1, []⟩).text) (fun a' h => by
  unfold Go.Proofs.D.spaceX at h
  obtain ⟨x, _, h⟩ := bind_ok h
  injection h with h; subst h; exact ha.code)
 have := do_data (a := a) (n := dSpace) (l := l) (hi := 1) (t := false) (X := Go.Proofs.D.spaceX a (l.getD 0 ⟨1, []⟩).text) rfl rfl hfull.symm (l = [] ∨ ((dSpace = dText ∨ dSpace = dSpace) ∧ l.length ≠ 1)) (by
  cases l with
  | nil => simp
  | cons x l => simp [List.length_pos_iff])
 rw [← this]
 unfold stmtS
 rw [hf]
 simp only
 rw [if_neg (by decide), if_neg (by decide), if_neg (by decide), if_pos (.inr (.inr (.inr trivial)))]
 have e : decide (dSpace = dText) = false := by decide
 simp only [e]
 have hs : (Go.Proofs.D.spaceX a (l.getD 0 ⟨1, []⟩).text >>= fun a' => full a') = (literalS (l.getD 0 ⟨1, []⟩).text 0 4096 >>= fun n => full { a with p := { a.p with data := a.p.data ++ List.replicate n.toNat 0 } }) := by
  unfold Go.Proofs.D.spaceX
  cases literalS (l.getD 0 ⟨1, []⟩).text 0 4096 <;> rfl
 rw [hs]
 rfl
end Go.As
namespace Go.Proofs.D
open Go Go.Den
set_option maxRecDepth 100000
set_option maxHeartbeats 4000000
abbrev ehk1 : List CK := [.bool, .bool, qi, qi, .bool, .func]
abbrev o90_2 : Op := .lookup 71 (.tmp 23) (.tmp 24) true
abbrev o90_5 : Op := .call { callee := (.builtin .len), args := #[(.tmp 32)], argTypes := #[71] }
abbrev o90_8 : Op := .mapUpdate 71 (.tmp 61) (.tmp 62) (.tmp 63)
noncomputable def d90 : DCode := up ⟨[(15, .l [.str]), (17, .c (.one false [.bool])), (23, .l [.map]), (25, .c (.tup [(true, [.str, .bool, qi]), (false, [.bool])])), (32, .l [.map]), (33, .c (.one false [qi])), (39, .l [.bool]), (44, .l [.slice]), (51, .l [.bool]), (55, .l [.slice]), (61, .l [.map]), (63, .l [.str, .bool, qi])], [], [(13, 58, [(12, qi)], [])]⟩ (low Tryz.prog (fun _ => false) (Tryz.f90.body.getD .skip))
theorem low90 : low Tryz.prog (fun _ => false) (Tryz.f90.body.getD .skip) = some (eC d90) := by kernel_rfl
def R90 (p1 : Nat) (o1 : Nat) (a1 : OA) (n1 : Nat) (ehk1 : Nat) (h : PHeap) (Q : Value → PHeap → Prop) : Prop :=
 ∃ (I_1 : Nat → Int → PHeap → Prop), (∃ (m2 : Nat), I_1 m2 (0 : Int) h) ∧
 ∀ (m1 : Nat) (i1 : Int) (h_1 : PHeap), I_1 m1 i1 h_1 →
 br (decide (i1 < ((n1 : Nat) : Int)))
 (∃ (b1 o2 : Nat), a1 = some ⟨b1, o2, none⟩ ∧ (0 ≤ i1 ∧ i1 < n1) ∧
 ∃ (l1 : Bs), h_1.cell b1 (o2 + (i1).toNat * 1) = some (vS l1) ∧
 Tri Tryz.prog 27 [vS l1] h_1 fun v_1 h_2 =>
 ∃ (c1 : Bool), v_1 = vB c1 ∧
 br (!c1)
 (Q (vI 12) h_2)
 (∃ (m3 : Nat), h_2.cell p1 (o1 + 10) = some (vM m3) ∧
 Raw Tryz.prog (execOp (rho [(23, vM m3), (24, vS l1)]) (mkO o90_2 168)) h_2 fun v_2 h_3 =>
 ∃ (l2 : Bs) (c2 : Bool) (i2 : Int) (c3 : Bool), v_2 = vT [vA [vS l2, vB c2, vI i2], vB c3] ∧
 br c3
 (Q (vI 7) h_3)
 (∃ (m4 : Nat), h_3.cell p1 (o1 + 10) = some (vM m4) ∧
 Raw Tryz.prog (execOp (rho [(32, vM m4)]) (mkO o90_5 3)) h_3 fun v_3 h_4 =>
 ∃ (i3 : Int), v_3 = vI i3 ∧
 br (decide (i3 ≥ 1024))
 (Q (vI 9) h_4)
 (∃ (c4 : Bool), h_4.cell p1 (o1 + 7) = some (vB c4) ∧
 ∃ (a2 : OA) (n2 k2 : Nat), h_4.cell p1 (o1 + 1) = some (vL a2 n2 k2) ∧
 (h_4.cell p1 (o1 + 1) = some (vL a2 n2 k2)) ∧
 (h_4.cell p1 (o1 + 7) = some (vB c4)) ∧
 ∃ (c5 : Bool), h_4.cell p1 (o1 + 7) = some (vB c5) ∧
 br c5
 (∃ (a3 : OA) (n3 k3 : Nat), h_4.cell p1 (o1 + 6) = some (vL a3 n3 k3) ∧
 ∃ (m5 : Nat), h_4.cell p1 (o1 + 10) = some (vM m5) ∧
 Raw Tryz.prog (execOp (rho [(61, vM m5), (62, vS l1), (63, vA [vS l1, vB c4, vI ((n3 : Nat) : Int)])]) (mkO o90_8 0)) h_4 fun v_4 h_5 =>
 v_4 = vT [] ∧
 ∃ (m6 : Nat), m6 < m1 ∧ I_1 m6 (IntKind.i64.wrap (i1 + 1)) h_5 ∧
 True)
 (∃ (m7 : Nat), h_4.cell p1 (o1 + 10) = some (vM m7) ∧
 Raw Tryz.prog (execOp (rho [(61, vM m7), (62, vS l1), (63, vA [vS l1, vB c4, vI (IntKind.i64.wrap (((n2 : Nat) : Int) * 4))])]) (mkO o90_8 0)) h_4 fun v_5 h_6 =>
 v_5 = vT [] ∧
 ∃ (m8 : Nat), m8 < m1 ∧ I_1 m8 (IntKind.i64.wrap (i1 + 1)) h_6 ∧
 True)))))
 (Q (vI 0) h_1)
theorem T90 {p1 : Nat} {o1 : Nat} {a1 : OA} {n1 : Nat} {ehk1 : Nat} {h : PHeap} {Q : Value → PHeap → Prop} (hR : R90 p1 o1 a1 n1 ehk1 h Q) : Tri Tryz.prog 90 [vP p1 o1, vL a1 n1 ehk1] h Q :=
 tri_of_dn mixed Tryz.func90 rfl (by kernel_rfl) low90 (rs := [.tmp 4]) (by kernel_rfl) rfl (Eq.mpr (by kernel_rfl : dnF Tryz.prog Tryz.f90.ntmps d90 [.tmp 4] [vP p1 o1, vL a1 n1 ehk1] h Q = R90 p1 o1 a1 n1 ehk1 h Q) hR)
abbrev o37_0 : Op := .makeMap 69 none
abbrev o37_1 : Op := .insert 69 (.tmp 4) (.const (vS [46, 99, 111, 100, 101])) (.tmp 5)
abbrev o37_2 : Op := .insert 69 (.tmp 4) (.const (vS [46, 100, 97, 116, 97])) (.tmp 6)
abbrev o37_3 : Op := .insert 69 (.tmp 4) (.const (vS [46, 101, 110, 116, 114, 121])) (.tmp 7)
abbrev o37_4 : Op := .insert 69 (.tmp 4) (.const (vS [46, 122, 101, 114, 111])) (.tmp 8)
abbrev o37_5 : Op := .insert 69 (.tmp 4) (.const (vS [46, 119, 111, 114, 100])) (.tmp 9)
abbrev o37_6 : Op := .insert 69 (.tmp 4) (.const (vS [46, 98, 121, 116, 101])) (.tmp 10)
abbrev o37_7 : Op := .insert 69 (.tmp 4) (.const (vS [46, 116, 101, 120, 116])) (.tmp 11)
abbrev o37_8 : Op := .insert 69 (.tmp 4) (.const (vS [46, 115, 112, 97, 99, 101])) (.tmp 12)
abbrev o37_10 : Op := .mapUpdate 69 (.tmp 19) (.tmp 21) (.tmp 25)
noncomputable def d37 : DCode := up ⟨[(4, .c (.one false [.map])), (17, .l [qi]), (18, .c (.one false [qi])), (20, .l [qi]), (21, .c (.one false [.str]))], [2], [(15, 15, [(14, qi)], [])]⟩ (low Tryz.prog (fun d => Nat.beq d 2) (Tryz.f37.body.getD .skip))
theorem low37 : low Tryz.prog (fun d => Nat.beq d 2) (Tryz.f37.body.getD .skip) = some (eC d37) := by kernel_rfl
def R37 (h : PHeap) (Q : Value → PHeap → Prop) : Prop :=
 Raw Tryz.prog (execOp (rho []) (mkO o37_0 69)) h fun v_1 h_1 =>
 ∃ (m1 : Nat), v_1 = vM m1 ∧
 Raw Tryz.prog (execOp (rho [(4, vM m1), (5, vA [vB true, vB true, vI 0, vI 0, vB false, vF 76 [] []])]) (mkO o37_1 0)) h_1 fun v_2 h_2 =>
 v_2 = vT [] ∧
 Raw Tryz.prog (execOp (rho [(4, vM m1), (6, vA [vB true, vB true, vI 0, vI 0, vB false, vF 77 [] []])]) (mkO o37_2 0)) h_2 fun v_3 h_3 =>
 v_3 = vT [] ∧
 Raw Tryz.prog (execOp (rho [(4, vM m1), (7, vA [vB true, vB true, vI 1, vI 1, vB false, vF 78 [] []])]) (mkO o37_3 0)) h_3 fun v_4 h_4 =>
 v_4 = vT [] ∧
 Raw Tryz.prog (execOp (rho [(4, vM m1), (8, vA [vB true, vB true, vI 1, vI 1, vB false, vF 79 [] []])]) (mkO o37_4 0)) h_4 fun v_5 h_5 =>
 v_5 = vT [] ∧
 Raw Tryz.prog (execOp (rho [(4, vM m1), (9, vA [vB false, vB true, vI 1, vI 65536, vB false, vF 80 [] []])]) (mkO o37_5 0)) h_5 fun v_6 h_6 =>
 v_6 = vT [] ∧
 Raw Tryz.prog (execOp (rho [(4, vM m1), (10, vA [vB false, vB true, vI 1, vI 65536, vB false, vF 81 [] []])]) (mkO o37_6 0)) h_6 fun v_7 h_7 =>
 v_7 = vT [] ∧
 Raw Tryz.prog (execOp (rho [(4, vM m1), (11, vA [vB false, vB true, vI 1, vI 1, vB true, vF 82 [] []])]) (mkO o37_7 0)) h_7 fun v_8 h_8 =>
 v_8 = vT [] ∧
 Raw Tryz.prog (execOp (rho [(4, vM m1), (12, vA [vB false, vB true, vI 1, vI 1, vB false, vF 83 [] []])]) (mkO o37_8 0)) h_8 fun v_9 h_9 =>
 v_9 = vT [] ∧
 ∃ (I_1 : Nat → Int → PHeap → Prop), (∃ (m3 : Nat), I_1 m3 (0 : Int) h_9) ∧
 ∀ (m2 : Nat) (i1 : Int) (h_10 : PHeap), I_1 m2 i1 h_10 →
 br (decide (i1 < 27))
 (∀ (b1 : Nat), h_10 b1 = none → ∀ (h_11 : PHeap), h_11 = h_10.put b1 (.cells ⟨[vI 0]⟩ 3) →
 ∃ (l1 : List Value) (t1 : TypeId) (z1 : Nat × Nat), h_11 b1 = some (.cells ⟨l1⟩ t1 z1) ∧ (0 + 1 ≤ l1.length ∧ z1.2 ≤ 0) ∧
 ∀ (h_12 : PHeap), h_12 = h_11.put b1 (.cells ⟨splice l1 0 [vI i1]⟩ t1 z1) →
 ∃ (i2 : Int), h_12.cell b1 0 = some (vI i2) ∧
 Tri Tryz.prog 84 [vI i2] h_12 fun v_10 h_13 =>
 ∃ (i3 : Int), v_10 = vI i3 ∧
 ∃ (i4 : Int), h_13.cell b1 0 = some (vI i4) ∧
 Tri Tryz.prog 61 [vI i4] h_13 fun v_11 h_14 =>
 ∃ (l2 : Bs), v_11 = vS l2 ∧
 Raw Tryz.prog (execOp (rho [(19, vM m1), (21, vS l2), (25, vA [vB true, vB false, vI i3, vI i3, vB false, vF 85 [] [vP b1 0]])]) (mkO o37_10 0)) h_14 fun v_12 h_15 =>
 v_12 = vT [] ∧
 ∃ (m4 : Nat), m4 < m2 ∧ I_1 m4 (IntKind.i64.wrap (i1 + 1)) h_15 ∧
 True)
 (Q (vM m1) h_10)
theorem T37 {h : PHeap} {Q : Value → PHeap → Prop} (hR : R37  h Q) : Tri Tryz.prog 37 [] h Q :=
 tri_of_dn mixed Tryz.func37 rfl (by kernel_rfl) low37 (rs := [.tmp 0]) (by kernel_rfl) rfl (Eq.mpr (by kernel_rfl : dnF Tryz.prog Tryz.f37.ntmps d37 [.tmp 0] [] h Q = R37  h Q) hR)
abbrev o39_9 : Op := .lookup 69 (.tmp 48) (.tmp 49) true
noncomputable def d39 : DCode := up ⟨[(18, .c (.tup [(false, [.slice]), (false, [qi])])), (26, .c (.tup [(false, [.slice]), (false, [.str]), (false, [.slice]), (false, [qi])])), (36, .c (.one false [qi])), (48, .l [.map]), (50, .c (.lkp true [vB false, vB false, vI 0, vI 0, vB false, .nilFunc] ehk1)), (58, .l [.bool]), (61, .l [.bool]), (68, .l [.bool]), (72, .l [.bool]), (83, .l [.bool]), (93, .l [.bool]), (99, .l [qi]), (105, .l [qi]), (113, .l [qi, .str]), (115, .l [qi]), (118, .l [.bool]), (122, .l [.func]), (125, .c (.one false [qi])), (133, .l [.slice]), (140, .l [.slice])], [], [(111, 13, [(110, qi)], [])]⟩ (low Tryz.prog (fun _ => false) (Tryz.f39.body.getD .skip))
theorem low39 : low Tryz.prog (fun _ => false) (Tryz.f39.body.getD .skip) = some (eC d39) := by kernel_rfl
def R39 (p1 : Nat) (o1 : Nat) (l1 : Bs) (h : PHeap) (Q : Value → PHeap → Prop) : Prop :=
 Tri Tryz.prog 88 [vS l1] h fun v_1 h_1 =>
 ∃ (a1 : OA) (n1 ehk1 : Nat) (i1 : Int), v_1 = vT [vL a1 n1 ehk1, vI i1] ∧
 br (i1 != 0)
 (Q (vI i1) h_1)
 (Tri Tryz.prog 89 [vL a1 n1 ehk1] h_1 fun v_2 h_2 =>
 ∃ (a2 : OA) (n2 k2 : Nat) (l2 : Bs) (a3 : OA) (n3 k3 : Nat) (i2 : Int), v_2 = vT [vL a2 n2 k2, vS l2, vL a3 n3 k3, vI i2] ∧
 br (i2 != 0)
 (Q (vI i2) h_2)
 (Tri Tryz.prog 90 [vP p1 o1, vL a2 n2 k2] h_2 fun v_3 h_3 =>
 ∃ (i3 : Int), v_3 = vI i3 ∧
 br (i3 != 0)
 (Q (vI i3) h_3)
 (br (l2 == [])
 (Q (vI i3) h_3)
 (∃ (m1 : Nat), h_3.cell p1 o1 = some (vM m1) ∧
 Raw Tryz.prog (execOp (rho [(48, vM m1), (49, vS l2)]) (mkO o39_9 132)) h_3 fun v_4 h_4 =>
 ((v_4 = vT [vA [vB false, vB false, vI 0, vI 0, vB false, .nilFunc], vB false] ∧
 Q (vI 11) h_4) ∨
 (∃ (c1 c2 : Bool) (i4 i5 : Int) (c3 : Bool) (f1 : Nat) (x1 y1 : List Value), v_4 = vT [vA [vB c1, vB c2, vI i4, vI i5, vB c3, vF f1 x1 y1], vB true] ∧
 ∃ (c4 : Bool), h_4.cell p1 (o1 + 7) = some (vB c4) ∧
 br c4
 (br (!c2)
 (Q (vI 10) h_4)
 (∃ (c5 : Bool), h_4.cell p1 (o1 + 7) = some (vB c5) ∧
 br (!c5)
 (br (!c1)
 (Q (vI 10) h_4)
 (br (l2 == [46, 101, 110, 116, 114, 121])
 (∃ (c6 : Bool), h_4.cell p1 (o1 + 8) = some (vB c6) ∧
 br c6
 (Q (vI 10) h_4)
 (br (l2 == [46, 122, 101, 114, 111])
 (∃ (c7 : Bool), h_4.cell p1 (o1 + 9) = some (vB c7) ∧
 br c7
 (Q (vI 10) h_4)
 (br (decide (((n3 : Nat) : Int) < i4))
 (Q (vI 30) h_4)
 (br (decide (((n3 : Nat) : Int) > i5))
 (Q (vI 30) h_4)
 (∃ (I_1 : Nat → Int → PHeap → Prop), (∃ (m3 : Nat), I_1 m3 (0 : Int) h_4) ∧
 ∀ (m2 : Nat) (i6 : Int) (h_5 : PHeap), I_1 m2 i6 h_5 →
 br (decide (i6 < ((n3 : Nat) : Int)))
 (∃ (b1 o2 : Nat), a3 = some ⟨b1, o2, none⟩ ∧ (0 ≤ i6 ∧ i6 < n3) ∧
 ∃ (i7 : Int) (l3 : Bs), h_5.row b1 (o2 + (i6).toNat * 2) [vI i7, vS l3] ∧
 br (!((i7 == 2) == c3))
 (Q (vI 30) h_5)
 (∃ (m4 : Nat), m4 < m2 ∧ I_1 m4 (IntKind.i64.wrap (i6 + 1)) h_5 ∧
 tv [vB c1, vB c2, vI i4, vI i5, vB c3, vF f1 x1 y1] ∧ True))
 (Tri Tryz.prog f1 (x1 ++ [vP p1 o1, vL a3 n3 k3] ++ y1) h_5 fun v_5 h_6 =>
 ∃ (i8 : Int), v_5 = vI i8 ∧
 br (i8 != 0)
 (Q (vI i8) h_6)
 (∃ (a4 : OA) (n4 k4 : Nat), h_6.cell p1 (o1 + 1) = some (vL a4 n4 k4) ∧
 br (decide (((n4 : Nat) : Int) > 1024))
 (Q (vI 9) h_6)
 (∃ (a5 : OA) (n5 k5 : Nat), h_6.cell p1 (o1 + 6) = some (vL a5 n5 k5) ∧
 br (decide (((n5 : Nat) : Int) > 4096))
 (Q (vI 9) h_6)
 (Q (vI 0) h_6))))))))
 (br (decide (((n3 : Nat) : Int) < i4))
 (Q (vI 30) h_4)
 (br (decide (((n3 : Nat) : Int) > i5))
 (Q (vI 30) h_4)
 (∃ (I_2 : Nat → Int → PHeap → Prop), (∃ (m6 : Nat), I_2 m6 (0 : Int) h_4) ∧
 ∀ (m5 : Nat) (i9 : Int) (h_7 : PHeap), I_2 m5 i9 h_7 →
 br (decide (i9 < ((n3 : Nat) : Int)))
 (∃ (b2 o3 : Nat), a3 = some ⟨b2, o3, none⟩ ∧ (0 ≤ i9 ∧ i9 < n3) ∧
 ∃ (i10 : Int) (l4 : Bs), h_7.row b2 (o3 + (i9).toNat * 2) [vI i10, vS l4] ∧
 br (!((i10 == 2) == c3))
 (Q (vI 30) h_7)
 (∃ (m7 : Nat), m7 < m5 ∧ I_2 m7 (IntKind.i64.wrap (i9 + 1)) h_7 ∧
 tv [vB c1, vB c2, vI i4, vI i5, vB c3, vF f1 x1 y1] ∧ True))
 (Tri Tryz.prog f1 (x1 ++ [vP p1 o1, vL a3 n3 k3] ++ y1) h_7 fun v_6 h_8 =>
 ∃ (i11 : Int), v_6 = vI i11 ∧
 br (i11 != 0)
 (Q (vI i11) h_8)
 (∃ (a6 : OA) (n6 k6 : Nat), h_8.cell p1 (o1 + 1) = some (vL a6 n6 k6) ∧
 br (decide (((n6 : Nat) : Int) > 1024))
 (Q (vI 9) h_8)
 (∃ (a7 : OA) (n7 k7 : Nat), h_8.cell p1 (o1 + 6) = some (vL a7 n7 k7) ∧
 br (decide (((n7 : Nat) : Int) > 4096))
 (Q (vI 9) h_8)
 (Q (vI 0) h_8)))))))))
 (br (l2 == [46, 122, 101, 114, 111])
 (∃ (c8 : Bool), h_4.cell p1 (o1 + 9) = some (vB c8) ∧
 br c8
 (Q (vI 10) h_4)
 (br (decide (((n3 : Nat) : Int) < i4))
 (Q (vI 30) h_4)
 (br (decide (((n3 : Nat) : Int) > i5))
 (Q (vI 30) h_4)
 (∃ (I_3 : Nat → Int → PHeap → Prop), (∃ (m9 : Nat), I_3 m9 (0 : Int) h_4) ∧
 ∀ (m8 : Nat) (i12 : Int) (h_9 : PHeap), I_3 m8 i12 h_9 →
 br (decide (i12 < ((n3 : Nat) : Int)))
 (∃ (b3 o4 : Nat), a3 = some ⟨b3, o4, none⟩ ∧ (0 ≤ i12 ∧ i12 < n3) ∧
 ∃ (i13 : Int) (l5 : Bs), h_9.row b3 (o4 + (i12).toNat * 2) [vI i13, vS l5] ∧
 br (!((i13 == 2) == c3))
 (Q (vI 30) h_9)
 (∃ (m10 : Nat), m10 < m8 ∧ I_3 m10 (IntKind.i64.wrap (i12 + 1)) h_9 ∧
 tv [vB c1, vB c2, vI i4, vI i5, vB c3, vF f1 x1 y1] ∧ True))
 (Tri Tryz.prog f1 (x1 ++ [vP p1 o1, vL a3 n3 k3] ++ y1) h_9 fun v_7 h_10 =>
 ∃ (i14 : Int), v_7 = vI i14 ∧
 br (i14 != 0)
 (Q (vI i14) h_10)
 (∃ (a8 : OA) (n8 k8 : Nat), h_10.cell p1 (o1 + 1) = some (vL a8 n8 k8) ∧
 br (decide (((n8 : Nat) : Int) > 1024))
 (Q (vI 9) h_10)
 (∃ (a9 : OA) (n9 k9 : Nat), h_10.cell p1 (o1 + 6) = some (vL a9 n9 k9) ∧
 br (decide (((n9 : Nat) : Int) > 4096))
 (Q (vI 9) h_10)
 (Q (vI 0) h_10))))))))
 (br (decide (((n3 : Nat) : Int) < i4))
 (Q (vI 30) h_4)
 (br (decide (((n3 : Nat) : Int) > i5))
 (Q (vI 30) h_4)
 (∃ (I_4 : Nat → Int → PHeap → Prop), (∃ (m12 : Nat), I_4 m12 (0 : Int) h_4) ∧
 ∀ (m11 : Nat) (i15 : Int) (h_11 : PHeap), I_4 m11 i15 h_11 →
 br (decide (i15 < ((n3 : Nat) : Int)))
 (∃ (b4 o5 : Nat), a3 = some ⟨b4, o5, none⟩ ∧ (0 ≤ i15 ∧ i15 < n3) ∧
 ∃ (i16 : Int) (l6 : Bs), h_11.row b4 (o5 + (i15).toNat * 2) [vI i16, vS l6] ∧
 br (!((i16 == 2) == c3))
 (Q (vI 30) h_11)
 (∃ (m13 : Nat), m13 < m11 ∧ I_4 m13 (IntKind.i64.wrap (i15 + 1)) h_11 ∧
 tv [vB c1, vB c2, vI i4, vI i5, vB c3, vF f1 x1 y1] ∧ True))
 (Tri Tryz.prog f1 (x1 ++ [vP p1 o1, vL a3 n3 k3] ++ y1) h_11 fun v_8 h_12 =>
 ∃ (i17 : Int), v_8 = vI i17 ∧
 br (i17 != 0)
 (Q (vI i17) h_12)
 (∃ (a10 : OA) (n10 k10 : Nat), h_12.cell p1 (o1 + 1) = some (vL a10 n10 k10) ∧
 br (decide (((n10 : Nat) : Int) > 1024))
 (Q (vI 9) h_12)
 (∃ (a11 : OA) (n11 k11 : Nat), h_12.cell p1 (o1 + 6) = some (vL a11 n11 k11) ∧
 br (decide (((n11 : Nat) : Int) > 4096))
 (Q (vI 9) h_12)
 (Q (vI 0) h_12))))))))))
 (br (l2 == [46, 101, 110, 116, 114, 121])
 (∃ (c9 : Bool), h_4.cell p1 (o1 + 8) = some (vB c9) ∧
 br c9
 (Q (vI 10) h_4)
 (br (l2 == [46, 122, 101, 114, 111])
 (∃ (c10 : Bool), h_4.cell p1 (o1 + 9) = some (vB c10) ∧
 br c10
 (Q (vI 10) h_4)
 (br (decide (((n3 : Nat) : Int) < i4))
 (Q (vI 30) h_4)
 (br (decide (((n3 : Nat) : Int) > i5))
 (Q (vI 30) h_4)
 (∃ (I_5 : Nat → Int → PHeap → Prop), (∃ (m15 : Nat), I_5 m15 (0 : Int) h_4) ∧
 ∀ (m14 : Nat) (i18 : Int) (h_13 : PHeap), I_5 m14 i18 h_13 →
 br (decide (i18 < ((n3 : Nat) : Int)))
 (∃ (b5 o6 : Nat), a3 = some ⟨b5, o6, none⟩ ∧ (0 ≤ i18 ∧ i18 < n3) ∧
 ∃ (i19 : Int) (l7 : Bs), h_13.row b5 (o6 + (i18).toNat * 2) [vI i19, vS l7] ∧
 br (!((i19 == 2) == c3))
 (Q (vI 30) h_13)
 (∃ (m16 : Nat), m16 < m14 ∧ I_5 m16 (IntKind.i64.wrap (i18 + 1)) h_13 ∧
 tv [vB c1, vB c2, vI i4, vI i5, vB c3, vF f1 x1 y1] ∧ True))
 (Tri Tryz.prog f1 (x1 ++ [vP p1 o1, vL a3 n3 k3] ++ y1) h_13 fun v_9 h_14 =>
 ∃ (i20 : Int), v_9 = vI i20 ∧
 br (i20 != 0)
 (Q (vI i20) h_14)
 (∃ (a12 : OA) (n12 k12 : Nat), h_14.cell p1 (o1 + 1) = some (vL a12 n12 k12) ∧
 br (decide (((n12 : Nat) : Int) > 1024))
 (Q (vI 9) h_14)
 (∃ (a13 : OA) (n13 k13 : Nat), h_14.cell p1 (o1 + 6) = some (vL a13 n13 k13) ∧
 br (decide (((n13 : Nat) : Int) > 4096))
 (Q (vI 9) h_14)
 (Q (vI 0) h_14))))))))
 (br (decide (((n3 : Nat) : Int) < i4))
 (Q (vI 30) h_4)
 (br (decide (((n3 : Nat) : Int) > i5))
 (Q (vI 30) h_4)
 (∃ (I_6 : Nat → Int → PHeap → Prop), (∃ (m18 : Nat), I_6 m18 (0 : Int) h_4) ∧
 ∀ (m17 : Nat) (i21 : Int) (h_15 : PHeap), I_6 m17 i21 h_15 →
 br (decide (i21 < ((n3 : Nat) : Int)))
 (∃ (b6 o7 : Nat), a3 = some ⟨b6, o7, none⟩ ∧ (0 ≤ i21 ∧ i21 < n3) ∧
 ∃ (i22 : Int) (l8 : Bs), h_15.row b6 (o7 + (i21).toNat * 2) [vI i22, vS l8] ∧
 br (!((i22 == 2) == c3))
 (Q (vI 30) h_15)
 (∃ (m19 : Nat), m19 < m17 ∧ I_6 m19 (IntKind.i64.wrap (i21 + 1)) h_15 ∧
 tv [vB c1, vB c2, vI i4, vI i5, vB c3, vF f1 x1 y1] ∧ True))
 (Tri Tryz.prog f1 (x1 ++ [vP p1 o1, vL a3 n3 k3] ++ y1) h_15 fun v_10 h_16 =>
 ∃ (i23 : Int), v_10 = vI i23 ∧
 br (i23 != 0)
 (Q (vI i23) h_16)
 (∃ (a14 : OA) (n14 k14 : Nat), h_16.cell p1 (o1 + 1) = some (vL a14 n14 k14) ∧
 br (decide (((n14 : Nat) : Int) > 1024))
 (Q (vI 9) h_16)
 (∃ (a15 : OA) (n15 k15 : Nat), h_16.cell p1 (o1 + 6) = some (vL a15 n15 k15) ∧
 br (decide (((n15 : Nat) : Int) > 4096))
 (Q (vI 9) h_16)
 (Q (vI 0) h_16)))))))))
 (br (l2 == [46, 122, 101, 114, 111])
 (∃ (c11 : Bool), h_4.cell p1 (o1 + 9) = some (vB c11) ∧
 br c11
 (Q (vI 10) h_4)
 (br (decide (((n3 : Nat) : Int) < i4))
 (Q (vI 30) h_4)
 (br (decide (((n3 : Nat) : Int) > i5))
 (Q (vI 30) h_4)
 (∃ (I_7 : Nat → Int → PHeap → Prop), (∃ (m21 : Nat), I_7 m21 (0 : Int) h_4) ∧
 ∀ (m20 : Nat) (i24 : Int) (h_17 : PHeap), I_7 m20 i24 h_17 →
 br (decide (i24 < ((n3 : Nat) : Int)))
 (∃ (b7 o8 : Nat), a3 = some ⟨b7, o8, none⟩ ∧ (0 ≤ i24 ∧ i24 < n3) ∧
 ∃ (i25 : Int) (l9 : Bs), h_17.row b7 (o8 + (i24).toNat * 2) [vI i25, vS l9] ∧
 br (!((i25 == 2) == c3))
 (Q (vI 30) h_17)
 (∃ (m22 : Nat), m22 < m20 ∧ I_7 m22 (IntKind.i64.wrap (i24 + 1)) h_17 ∧
 tv [vB c1, vB c2, vI i4, vI i5, vB c3, vF f1 x1 y1] ∧ True))
 (Tri Tryz.prog f1 (x1 ++ [vP p1 o1, vL a3 n3 k3] ++ y1) h_17 fun v_11 h_18 =>
 ∃ (i26 : Int), v_11 = vI i26 ∧
 br (i26 != 0)
 (Q (vI i26) h_18)
 (∃ (a16 : OA) (n16 k16 : Nat), h_18.cell p1 (o1 + 1) = some (vL a16 n16 k16) ∧
 br (decide (((n16 : Nat) : Int) > 1024))
 (Q (vI 9) h_18)
 (∃ (a17 : OA) (n17 k17 : Nat), h_18.cell p1 (o1 + 6) = some (vL a17 n17 k17) ∧
 br (decide (((n17 : Nat) : Int) > 4096))
 (Q (vI 9) h_18)
 (Q (vI 0) h_18))))))))
 (br (decide (((n3 : Nat) : Int) < i4))
 (Q (vI 30) h_4)
 (br (decide (((n3 : Nat) : Int) > i5))
 (Q (vI 30) h_4)
 (∃ (I_8 : Nat → Int → PHeap → Prop), (∃ (m24 : Nat), I_8 m24 (0 : Int) h_4) ∧
 ∀ (m23 : Nat) (i27 : Int) (h_19 : PHeap), I_8 m23 i27 h_19 →
 br (decide (i27 < ((n3 : Nat) : Int)))
 (∃ (b8 o9 : Nat), a3 = some ⟨b8, o9, none⟩ ∧ (0 ≤ i27 ∧ i27 < n3) ∧
 ∃ (i28 : Int) (l10 : Bs), h_19.row b8 (o9 + (i27).toNat * 2) [vI i28, vS l10] ∧
 br (!((i28 == 2) == c3))
 (Q (vI 30) h_19)
 (∃ (m25 : Nat), m25 < m23 ∧ I_8 m25 (IntKind.i64.wrap (i27 + 1)) h_19 ∧
 tv [vB c1, vB c2, vI i4, vI i5, vB c3, vF f1 x1 y1] ∧ True))
 (Tri Tryz.prog f1 (x1 ++ [vP p1 o1, vL a3 n3 k3] ++ y1) h_19 fun v_12 h_20 =>
 ∃ (i29 : Int), v_12 = vI i29 ∧
 br (i29 != 0)
 (Q (vI i29) h_20)
 (∃ (a18 : OA) (n18 k18 : Nat), h_20.cell p1 (o1 + 1) = some (vL a18 n18 k18) ∧
 br (decide (((n18 : Nat) : Int) > 1024))
 (Q (vI 9) h_20)
 (∃ (a19 : OA) (n19 k19 : Nat), h_20.cell p1 (o1 + 6) = some (vL a19 n19 k19) ∧
 br (decide (((n19 : Nat) : Int) > 4096))
 (Q (vI 9) h_20)
 (Q (vI 0) h_20)))))))))))
 (∃ (c12 : Bool), h_4.cell p1 (o1 + 7) = some (vB c12) ∧
 br (!c12)
 (br (!c1)
 (Q (vI 10) h_4)
 (br (l2 == [46, 101, 110, 116, 114, 121])
 (∃ (c13 : Bool), h_4.cell p1 (o1 + 8) = some (vB c13) ∧
 br c13
 (Q (vI 10) h_4)
 (br (l2 == [46, 122, 101, 114, 111])
 (∃ (c14 : Bool), h_4.cell p1 (o1 + 9) = some (vB c14) ∧
 br c14
 (Q (vI 10) h_4)
 (br (decide (((n3 : Nat) : Int) < i4))
 (Q (vI 30) h_4)
 (br (decide (((n3 : Nat) : Int) > i5))
 (Q (vI 30) h_4)
 (∃ (I_9 : Nat → Int → PHeap → Prop), (∃ (m27 : Nat), I_9 m27 (0 : Int) h_4) ∧
 ∀ (m26 : Nat) (i30 : Int) (h_21 : PHeap), I_9 m26 i30 h_21 →
 br (decide (i30 < ((n3 : Nat) : Int)))
 (∃ (b9 o10 : Nat), a3 = some ⟨b9, o10, none⟩ ∧ (0 ≤ i30 ∧ i30 < n3) ∧
 ∃ (i31 : Int) (l11 : Bs), h_21.row b9 (o10 + (i30).toNat * 2) [vI i31, vS l11] ∧
 br (!((i31 == 2) == c3))
 (Q (vI 30) h_21)
 (∃ (m28 : Nat), m28 < m26 ∧ I_9 m28 (IntKind.i64.wrap (i30 + 1)) h_21 ∧
 tv [vB c1, vB c2, vI i4, vI i5, vB c3, vF f1 x1 y1] ∧ True))
 (Tri Tryz.prog f1 (x1 ++ [vP p1 o1, vL a3 n3 k3] ++ y1) h_21 fun v_13 h_22 =>
 ∃ (i32 : Int), v_13 = vI i32 ∧
 br (i32 != 0)
 (Q (vI i32) h_22)
 (∃ (a20 : OA) (n20 k20 : Nat), h_22.cell p1 (o1 + 1) = some (vL a20 n20 k20) ∧
 br (decide (((n20 : Nat) : Int) > 1024))
 (Q (vI 9) h_22)
 (∃ (a21 : OA) (n21 k21 : Nat), h_22.cell p1 (o1 + 6) = some (vL a21 n21 k21) ∧
 br (decide (((n21 : Nat) : Int) > 4096))
 (Q (vI 9) h_22)
 (Q (vI 0) h_22))))))))
 (br (decide (((n3 : Nat) : Int) < i4))
 (Q (vI 30) h_4)
 (br (decide (((n3 : Nat) : Int) > i5))
 (Q (vI 30) h_4)
 (∃ (I_10 : Nat → Int → PHeap → Prop), (∃ (m30 : Nat), I_10 m30 (0 : Int) h_4) ∧
 ∀ (m29 : Nat) (i33 : Int) (h_23 : PHeap), I_10 m29 i33 h_23 →
 br (decide (i33 < ((n3 : Nat) : Int)))
 (∃ (b10 o11 : Nat), a3 = some ⟨b10, o11, none⟩ ∧ (0 ≤ i33 ∧ i33 < n3) ∧
 ∃ (i34 : Int) (l12 : Bs), h_23.row b10 (o11 + (i33).toNat * 2) [vI i34, vS l12] ∧
 br (!((i34 == 2) == c3))
 (Q (vI 30) h_23)
 (∃ (m31 : Nat), m31 < m29 ∧ I_10 m31 (IntKind.i64.wrap (i33 + 1)) h_23 ∧
 tv [vB c1, vB c2, vI i4, vI i5, vB c3, vF f1 x1 y1] ∧ True))
 (Tri Tryz.prog f1 (x1 ++ [vP p1 o1, vL a3 n3 k3] ++ y1) h_23 fun v_14 h_24 =>
 ∃ (i35 : Int), v_14 = vI i35 ∧
 br (i35 != 0)
 (Q (vI i35) h_24)
 (∃ (a22 : OA) (n22 k22 : Nat), h_24.cell p1 (o1 + 1) = some (vL a22 n22 k22) ∧
 br (decide (((n22 : Nat) : Int) > 1024))
 (Q (vI 9) h_24)
 (∃ (a23 : OA) (n23 k23 : Nat), h_24.cell p1 (o1 + 6) = some (vL a23 n23 k23) ∧
 br (decide (((n23 : Nat) : Int) > 4096))
 (Q (vI 9) h_24)
 (Q (vI 0) h_24)))))))))
 (br (l2 == [46, 122, 101, 114, 111])
 (∃ (c15 : Bool), h_4.cell p1 (o1 + 9) = some (vB c15) ∧
 br c15
 (Q (vI 10) h_4)
 (br (decide (((n3 : Nat) : Int) < i4))
 (Q (vI 30) h_4)
 (br (decide (((n3 : Nat) : Int) > i5))
 (Q (vI 30) h_4)
 (∃ (I_11 : Nat → Int → PHeap → Prop), (∃ (m33 : Nat), I_11 m33 (0 : Int) h_4) ∧
 ∀ (m32 : Nat) (i36 : Int) (h_25 : PHeap), I_11 m32 i36 h_25 →
 br (decide (i36 < ((n3 : Nat) : Int)))
 (∃ (b11 o12 : Nat), a3 = some ⟨b11, o12, none⟩ ∧ (0 ≤ i36 ∧ i36 < n3) ∧
 ∃ (i37 : Int) (l13 : Bs), h_25.row b11 (o12 + (i36).toNat * 2) [vI i37, vS l13] ∧
 br (!((i37 == 2) == c3))
 (Q (vI 30) h_25)
 (∃ (m34 : Nat), m34 < m32 ∧ I_11 m34 (IntKind.i64.wrap (i36 + 1)) h_25 ∧
 tv [vB c1, vB c2, vI i4, vI i5, vB c3, vF f1 x1 y1] ∧ True))
 (Tri Tryz.prog f1 (x1 ++ [vP p1 o1, vL a3 n3 k3] ++ y1) h_25 fun v_15 h_26 =>
 ∃ (i38 : Int), v_15 = vI i38 ∧
 br (i38 != 0)
 (Q (vI i38) h_26)
 (∃ (a24 : OA) (n24 k24 : Nat), h_26.cell p1 (o1 + 1) = some (vL a24 n24 k24) ∧
 br (decide (((n24 : Nat) : Int) > 1024))
 (Q (vI 9) h_26)
 (∃ (a25 : OA) (n25 k25 : Nat), h_26.cell p1 (o1 + 6) = some (vL a25 n25 k25) ∧
 br (decide (((n25 : Nat) : Int) > 4096))
 (Q (vI 9) h_26)
 (Q (vI 0) h_26))))))))
 (br (decide (((n3 : Nat) : Int) < i4))
 (Q (vI 30) h_4)
 (br (decide (((n3 : Nat) : Int) > i5))
 (Q (vI 30) h_4)
 (∃ (I_12 : Nat → Int → PHeap → Prop), (∃ (m36 : Nat), I_12 m36 (0 : Int) h_4) ∧
 ∀ (m35 : Nat) (i39 : Int) (h_27 : PHeap), I_12 m35 i39 h_27 →
 br (decide (i39 < ((n3 : Nat) : Int)))
 (∃ (b12 o13 : Nat), a3 = some ⟨b12, o13, none⟩ ∧ (0 ≤ i39 ∧ i39 < n3) ∧
 ∃ (i40 : Int) (l14 : Bs), h_27.row b12 (o13 + (i39).toNat * 2) [vI i40, vS l14] ∧
 br (!((i40 == 2) == c3))
 (Q (vI 30) h_27)
 (∃ (m37 : Nat), m37 < m35 ∧ I_12 m37 (IntKind.i64.wrap (i39 + 1)) h_27 ∧
 tv [vB c1, vB c2, vI i4, vI i5, vB c3, vF f1 x1 y1] ∧ True))
 (Tri Tryz.prog f1 (x1 ++ [vP p1 o1, vL a3 n3 k3] ++ y1) h_27 fun v_16 h_28 =>
 ∃ (i41 : Int), v_16 = vI i41 ∧
 br (i41 != 0)
 (Q (vI i41) h_28)
 (∃ (a26 : OA) (n26 k26 : Nat), h_28.cell p1 (o1 + 1) = some (vL a26 n26 k26) ∧
 br (decide (((n26 : Nat) : Int) > 1024))
 (Q (vI 9) h_28)
 (∃ (a27 : OA) (n27 k27 : Nat), h_28.cell p1 (o1 + 6) = some (vL a27 n27 k27) ∧
 br (decide (((n27 : Nat) : Int) > 4096))
 (Q (vI 9) h_28)
 (Q (vI 0) h_28))))))))))
 (br (l2 == [46, 101, 110, 116, 114, 121])
 (∃ (c16 : Bool), h_4.cell p1 (o1 + 8) = some (vB c16) ∧
 br c16
 (Q (vI 10) h_4)
 (br (l2 == [46, 122, 101, 114, 111])
 (∃ (c17 : Bool), h_4.cell p1 (o1 + 9) = some (vB c17) ∧
 br c17
 (Q (vI 10) h_4)
 (br (decide (((n3 : Nat) : Int) < i4))
 (Q (vI 30) h_4)
 (br (decide (((n3 : Nat) : Int) > i5))
 (Q (vI 30) h_4)
 (∃ (I_13 : Nat → Int → PHeap → Prop), (∃ (m39 : Nat), I_13 m39 (0 : Int) h_4) ∧
 ∀ (m38 : Nat) (i42 : Int) (h_29 : PHeap), I_13 m38 i42 h_29 →
 br (decide (i42 < ((n3 : Nat) : Int)))
 (∃ (b13 o14 : Nat), a3 = some ⟨b13, o14, none⟩ ∧ (0 ≤ i42 ∧ i42 < n3) ∧
 ∃ (i43 : Int) (l15 : Bs), h_29.row b13 (o14 + (i42).toNat * 2) [vI i43, vS l15] ∧
 br (!((i43 == 2) == c3))
 (Q (vI 30) h_29)
 (∃ (m40 : Nat), m40 < m38 ∧ I_13 m40 (IntKind.i64.wrap (i42 + 1)) h_29 ∧
 tv [vB c1, vB c2, vI i4, vI i5, vB c3, vF f1 x1 y1] ∧ True))
 (Tri Tryz.prog f1 (x1 ++ [vP p1 o1, vL a3 n3 k3] ++ y1) h_29 fun v_17 h_30 =>
 ∃ (i44 : Int), v_17 = vI i44 ∧
 br (i44 != 0)
 (Q (vI i44) h_30)
 (∃ (a28 : OA) (n28 k28 : Nat), h_30.cell p1 (o1 + 1) = some (vL a28 n28 k28) ∧
 br (decide (((n28 : Nat) : Int) > 1024))
 (Q (vI 9) h_30)
 (∃ (a29 : OA) (n29 k29 : Nat), h_30.cell p1 (o1 + 6) = some (vL a29 n29 k29) ∧
 br (decide (((n29 : Nat) : Int) > 4096))
 (Q (vI 9) h_30)
 (Q (vI 0) h_30))))))))
 (br (decide (((n3 : Nat) : Int) < i4))
 (Q (vI 30) h_4)
 (br (decide (((n3 : Nat) : Int) > i5))
 (Q (vI 30) h_4)
 (∃ (I_14 : Nat → Int → PHeap → Prop), (∃ (m42 : Nat), I_14 m42 (0 : Int) h_4) ∧
 ∀ (m41 : Nat) (i45 : Int) (h_31 : PHeap), I_14 m41 i45 h_31 →
 br (decide (i45 < ((n3 : Nat) : Int)))
 (∃ (b14 o15 : Nat), a3 = some ⟨b14, o15, none⟩ ∧ (0 ≤ i45 ∧ i45 < n3) ∧
 ∃ (i46 : Int) (l16 : Bs), h_31.row b14 (o15 + (i45).toNat * 2) [vI i46, vS l16] ∧
 br (!((i46 == 2) == c3))
 (Q (vI 30) h_31)
 (∃ (m43 : Nat), m43 < m41 ∧ I_14 m43 (IntKind.i64.wrap (i45 + 1)) h_31 ∧
 tv [vB c1, vB c2, vI i4, vI i5, vB c3, vF f1 x1 y1] ∧ True))
 (Tri Tryz.prog f1 (x1 ++ [vP p1 o1, vL a3 n3 k3] ++ y1) h_31 fun v_18 h_32 =>
 ∃ (i47 : Int), v_18 = vI i47 ∧
 br (i47 != 0)
 (Q (vI i47) h_32)
 (∃ (a30 : OA) (n30 k30 : Nat), h_32.cell p1 (o1 + 1) = some (vL a30 n30 k30) ∧
 br (decide (((n30 : Nat) : Int) > 1024))
 (Q (vI 9) h_32)
 (∃ (a31 : OA) (n31 k31 : Nat), h_32.cell p1 (o1 + 6) = some (vL a31 n31 k31) ∧
 br (decide (((n31 : Nat) : Int) > 4096))
 (Q (vI 9) h_32)
 (Q (vI 0) h_32)))))))))
 (br (l2 == [46, 122, 101, 114, 111])
 (∃ (c18 : Bool), h_4.cell p1 (o1 + 9) = some (vB c18) ∧
 br c18
 (Q (vI 10) h_4)
 (br (decide (((n3 : Nat) : Int) < i4))
 (Q (vI 30) h_4)
 (br (decide (((n3 : Nat) : Int) > i5))
 (Q (vI 30) h_4)
 (∃ (I_15 : Nat → Int → PHeap → Prop), (∃ (m45 : Nat), I_15 m45 (0 : Int) h_4) ∧
 ∀ (m44 : Nat) (i48 : Int) (h_33 : PHeap), I_15 m44 i48 h_33 →
 br (decide (i48 < ((n3 : Nat) : Int)))
 (∃ (b15 o16 : Nat), a3 = some ⟨b15, o16, none⟩ ∧ (0 ≤ i48 ∧ i48 < n3) ∧
 ∃ (i49 : Int) (l17 : Bs), h_33.row b15 (o16 + (i48).toNat * 2) [vI i49, vS l17] ∧
 br (!((i49 == 2) == c3))
 (Q (vI 30) h_33)
 (∃ (m46 : Nat), m46 < m44 ∧ I_15 m46 (IntKind.i64.wrap (i48 + 1)) h_33 ∧
 tv [vB c1, vB c2, vI i4, vI i5, vB c3, vF f1 x1 y1] ∧ True))
 (Tri Tryz.prog f1 (x1 ++ [vP p1 o1, vL a3 n3 k3] ++ y1) h_33 fun v_19 h_34 =>
 ∃ (i50 : Int), v_19 = vI i50 ∧
 br (i50 != 0)
 (Q (vI i50) h_34)
 (∃ (a32 : OA) (n32 k32 : Nat), h_34.cell p1 (o1 + 1) = some (vL a32 n32 k32) ∧
 br (decide (((n32 : Nat) : Int) > 1024))
 (Q (vI 9) h_34)
 (∃ (a33 : OA) (n33 k33 : Nat), h_34.cell p1 (o1 + 6) = some (vL a33 n33 k33) ∧
 br (decide (((n33 : Nat) : Int) > 4096))
 (Q (vI 9) h_34)
 (Q (vI 0) h_34))))))))
 (br (decide (((n3 : Nat) : Int) < i4))
 (Q (vI 30) h_4)
 (br (decide (((n3 : Nat) : Int) > i5))
 (Q (vI 30) h_4)
 (∃ (I_16 : Nat → Int → PHeap → Prop), (∃ (m48 : Nat), I_16 m48 (0 : Int) h_4) ∧
 ∀ (m47 : Nat) (i51 : Int) (h_35 : PHeap), I_16 m47 i51 h_35 →
 br (decide (i51 < ((n3 : Nat) : Int)))
 (∃ (b16 o17 : Nat), a3 = some ⟨b16, o17, none⟩ ∧ (0 ≤ i51 ∧ i51 < n3) ∧
 ∃ (i52 : Int) (l18 : Bs), h_35.row b16 (o17 + (i51).toNat * 2) [vI i52, vS l18] ∧
 br (!((i52 == 2) == c3))
 (Q (vI 30) h_35)
 (∃ (m49 : Nat), m49 < m47 ∧ I_16 m49 (IntKind.i64.wrap (i51 + 1)) h_35 ∧
 tv [vB c1, vB c2, vI i4, vI i5, vB c3, vF f1 x1 y1] ∧ True))
 (Tri Tryz.prog f1 (x1 ++ [vP p1 o1, vL a3 n3 k3] ++ y1) h_35 fun v_20 h_36 =>
 ∃ (i53 : Int), v_20 = vI i53 ∧
 br (i53 != 0)
 (Q (vI i53) h_36)
 (∃ (a34 : OA) (n34 k34 : Nat), h_36.cell p1 (o1 + 1) = some (vL a34 n34 k34) ∧
 br (decide (((n34 : Nat) : Int) > 1024))
 (Q (vI 9) h_36)
 (∃ (a35 : OA) (n35 k35 : Nat), h_36.cell p1 (o1 + 6) = some (vL a35 n35 k35) ∧
 br (decide (((n35 : Nat) : Int) > 4096))
 (Q (vI 9) h_36)
 (Q (vI 0) h_36))))))))))))))))
theorem T39 {p1 : Nat} {o1 : Nat} {l1 : Bs} {h : PHeap} {Q : Value → PHeap → Prop} (hR : R39 p1 o1 l1 h Q) : Tri Tryz.prog 39 [vP p1 o1, vS l1] h Q :=
 tri_of_dn mixed Tryz.func39 rfl (by kernel_rfl) low39 (rs := [.tmp 4]) (by kernel_rfl) rfl (Eq.mpr (by kernel_rfl : dnF Tryz.prog Tryz.f39.ntmps d39 [.tmp 4] [vP p1 o1, vS l1] h Q = R39 p1 o1 l1 h Q) hR)
end Go.Proofs.D
namespace Go.As
open Go Go.Den Go.Proofs.D
theorem get_labE : ∀ (ls : List Lb) (i : Nat) (k : Bytes), mapGet (labE i ls) k = (ls.find? fun l => l.name == k).map lbV
 | [], _, _ => rfl
 | l :: ls, i, k => by
   rw [labE, mapGet_cons, get_labE ls (i + 1) k, List.find?_cons]
   by_cases h : l.name = k
   · subst h; simp
   · have h1 : (k == l.name) = false := by simp; exact fun e => h e.symm
     have h2 : (l.name == k) = false := by simpa using h
     rw [h1, h2]; rfl
theorem set_labE : ∀ (ls : List Lb) (i : Nat) (l : Lb), (ls.any fun x => x.name == l.name) = false → mapSet l.name (lbV l) (i + ls.length) (labE i ls) = labE i (ls ++ [l])
 | [], i, l, _ => rfl
 | x :: ls, i, l, h => by
   simp only [List.any_cons, Bool.or_eq_false_iff] at h
   have h1 : (l.name == x.name) = false := by
    have := h.1
    simp at this ⊢; exact fun e => this e.symm
   have ih := set_labE ls (i + 1) l h.2
   rw [labE, mapSet, h1]
   simp only [Bool.false_eq_true, if_false, List.length_cons, List.cons_append, labE]
   rw [← ih, show i + (ls.length + 1) = i + 1 + ls.length by omega]
theorem labE_len : ∀ (ls : List Lb) (i : Nat), (labE i ls).length = ls.length
 | [], _ => rfl
 | l :: ls, i => by rw [labE, List.length_cons, List.length_cons, labE_len ls]
end Go.As
namespace Go.Proofs.D
open Go Go.Den Go.As
set_option maxRecDepth 100000
attribute [local irreducible] IntKind.wrap Tri
def StrAt (h : PHeap) (a : OA) (L : List Bytes) : Prop := L = [] ∨ ∃ b o, a = ad b o ∧ ∀ j l, L[j]? = some l → h.cell b (o + j) = some (vS l)
theorem StrAt.ext {h h' : PHeap} {a : OA} {L : List Bytes} (x : Ext h h') (hs : StrAt h a L) : StrAt h' a L := by
 rcases hs with hs | ⟨b, o, ha, hs⟩
 · exact .inl hs
 · exact .inr ⟨b, o, ha, fun j l hj => cell_ext (fun ob => x b ob) (hs j l hj)⟩
theorem LM.strs {h0 h : PHeap} {a : OA} {n k : Nat} {L : List Bytes} (hM : LM 9 1 h0 h a n k (sL L)) : StrAt h a L := by
 have hl := hM.len
 simp only [sL, List.length_map] at hl
 rcases hM.row.2 with ⟨h1, h2⟩ | ⟨b, cap, rest, h1, h2, _, _⟩
 · exact .inl (List.eq_nil_of_length_eq_zero (by omega))
 · injection h1 with h1 _ _
   refine .inr ⟨b, 0, h1, fun j t hj => ?_⟩
   have hcs : (sL L)[j]? = some [vS t] := by simp [sL, hj]
   have := flatten_row (k := 1) (css := sL L) (j := j) (cs := [vS t]) (fun i c hc => hM.each i c hc) hcs 0 (vS t) rfl
   rw [cell_of h2, Nat.zero_add, List.getElem?_append_left (by have := (List.getElem?_eq_some_iff.1 this).1; omega)]
   simpa using this
section
variable {hb h : PHeap} {p mS : Nat} {a : As.St} {K : AK}
theorem raw_lenMap {t ty : TypeId} {key elem : TypeId} {m : Nat} {es : Array MapEntry} {c : Nat} {ρ : Operand → Value} {cl : Call} {x : Operand} (hcl : cl.callee = .builtin .len) (hca : cl.args = #[x]) (hts : cl.argTypes = #[t]) (hu : Tryz.prog.underlying t = some (.map key elem))
 (hx : ρ x = vM m) (hm : h m = some (.map es c)) : Raw Tryz.prog (execOp ρ (mkO (.call cl) ty)) h fun v h' => v = vI (es.size : Int) ∧ h' = h := by
 intro w hs
 have hw := hs _ _ hm
 have hgo : (getObj m).run Tryz.prog w = .ok (.map es c) w := by simp [getObj, Sem.run, hw]
 refine ⟨_, _, w, h, ?_, .inl rfl, ⟨rfl, rfl⟩, hs, Keep.refl w h⟩
 simp [execOp, mkO, resolve, hcl, hca, hts, hx, invoke, builtin, Builtin.len_, run_underlying hu, hgo, goInt]
theorem ASK.putMap (hA : ASK hb h p mS a K) {ls : List Lb} {o : Obj} (ho : o = .map ⟨ents (labE 0 ls)⟩ ls.length) : ASK hb (h.put K.mb o) p mS { a with p := { a.p with labels := ls } } K := by
 subst ho
 refine ⟨fun q o hq => ?_, hA.new, by rw [put_ne (Ne.symm hA.mbp)]; exact hA.obj, hA.code.put hA.labs (notE_map _ _), hA.data.put hA.labs (notE_map _ _), hA.uses.put hA.labs (notE_map _ _), hA.useAt, hA.mnew, put_same _ _ _⟩
 rw [put_ne fun e => by subst e; rw [hA.mnew] at hq; cases hq]; exact hA.ext _ _ hq
theorem und71 : Tryz.prog.underlying 71 = some (.map 9 80) := rfl
theorem find_any {ls : List Lb} {k : Bytes} : ((ls.find? fun l => l.name == k).map lbV).isSome = ls.any fun l => l.name == k := by
 rw [Option.isSome_map, Bool.eq_iff_iff, List.find?_isSome, List.any_eq_true]
theorem lbV_is (o : Option Lb) : ∃ s b i, getD2 (vA [vS [], vB false, vI 0]) (o.map lbV) = vA [vS s, vB b, vI i] := by
 cases o with
 | none => exact ⟨_, _, _, rfl⟩
 | some l => exact ⟨_, _, _, rfl⟩
theorem define_t {a2 : OA} {k2 : Nat} {ls : List Bytes} (hA : AS hb h p mS a) (hS : StrAt hb a2 ls) (hl : ls.length ≤ 1000000) (hC : a.p.code.length ≤ 1000000) : Tri Tryz.prog 90 [vP p 0, vL a2 ls.length k2] h fun v h' => Res hb p mS a.line (defineS a ls) v h' := by
 refine T90 ?_
 unfold R90
 refine ⟨fun m i h' => ∃ (j : Nat) (a' : As.St), i = (j : Int) ∧ j + m = ls.length ∧ AS hb h' p mS a' ∧ a'.line = a.line ∧ a'.p.code = a.p.code ∧ defineS a ls = defineS a' (ls.drop j), ⟨ls.length, 0, a, rfl, by omega, hA, rfl, rfl, rfl⟩, ?_⟩
 rintro m _ h1 ⟨j, a', rfl, hjm, hA1, hline, hcode, hdf⟩
 refine br_split (fun e => ?_) fun e => ?_
 · have hlt : j < ls.length := by have := of_decide_eq_true e; omega
   have hdr := List.drop_eq_getElem_cons hlt
   have hg : ls[j]? = some ls[j] := by simp [hlt]
   rw [hdr] at hdf
   generalize ls[j] = s at *
   obtain ⟨b, o, ha, hr⟩ : ∃ b o, a2 = some ⟨b, o, none⟩ ∧ h1.cell b (o + j) = some (vS s) := by
    rcases hS.ext hA1.ext with rfl | ⟨b, o, ha, hs⟩
    · simp at hlt
    · exact ⟨b, o, ha, hs j s hg⟩
   refine ⟨b, o, ha, ⟨by omega, by omega⟩, _, (by rw [Int.toNat_natCast, Nat.mul_one]; exact hr), ?_⟩
   refine Tri.mono (label_t h1 s) ?_
   rintro _ h1 ⟨rfl, rfl⟩
   rw [defineS] at hdf
   refine ⟨_, rfl, br_split (fun e1 => ?_) fun e1 => ?_⟩
   · rw [if_pos (not_f e1)] at hdf
     have := res_err hdf (by decide) (Ext.refl _) hA1
     rw [hline] at this; exact this
   rw [if_neg (by rw [not_t e1]; decide)] at hdf
   have hA10 := hA1
   obtain ⟨K, hK⟩ := hA1
   refine ⟨_, (by rw [PA_cell hK.obj]; rfl), ?_⟩
   refine Raw.mono (raw_lookupS und71 rfl (z := vA [vS [], vB false, vI 0]) rfl rfl rfl hK.labs) ?_
   rintro _ h1 ⟨rfl, rfl⟩
   rw [get_labE]
   obtain ⟨s1, b1, i1, hv⟩ := lbV_is (a'.p.labels.find? fun l => l.name == s)
   simp only [if_true, find_any, hv]
   refine ⟨_, _, _, _, rfl, br_split (fun e2 => ?_) fun e2 => ?_⟩
   · rw [if_pos e2] at hdf
     have := res_err hdf (by decide) (Ext.refl _) hA10
     rw [hline] at this; exact this
   rw [if_neg (by rw [e2]; decide)] at hdf
   refine ⟨_, (by rw [PA_cell hK.obj]; rfl), ?_⟩
   refine Raw.mono (raw_lenMap rfl rfl rfl und71 rfl hK.labs) ?_
   rintro _ h1 ⟨rfl, rfl⟩
   have hsz : ((⟨ents (labE 0 a'.p.labels)⟩ : Array MapEntry).size : Int) = (a'.p.labels.length : Int) := by simp [ents, labE_len]
   rw [hsz]
   refine ⟨_, rfl, br_split (fun e3 => ?_) fun e3 => ?_⟩
   · have e3 := of_decide_eq_true e3
     rw [if_pos (by omega)] at hdf
     have := res_err hdf (by decide) (Ext.refl _) hA10
     rw [hline] at this; exact this
   have e3 := of_decide_eq_false e3
   rw [if_neg (by omega)] at hdf
   have hn1 : IntKind.i64.wrap ((j : Int) + 1) = ((j + 1 : Nat) : Int) := by rw [wrap64 (by omega) (by omega)]; omega
   have ins : ∀ (off : Int) (cl : PHeap → Value → Prop), off = (if a'.inData then (a'.p.data.length : Int) else (4 * a'.p.code.length : Nat)) →
    Raw Tryz.prog (execOp (rho [(61, vM K.mb), (62, vS s), (63, vA [vS s, vB a'.inData, vI off])]) (mkO o90_8 0)) h1 fun v_4 h_5 => v_4 = vT [] ∧
     ∃ (m6 : Nat), m6 < m ∧ (∃ (j' : Nat) (a'' : As.St), IntKind.i64.wrap ((j : Int) + 1) = (j' : Int) ∧ j' + m6 = ls.length ∧ AS hb h_5 p mS a'' ∧ a''.line = a.line ∧ a''.p.code = a.p.code ∧ defineS a ls = defineS a'' (ls.drop j')) ∧ True := by
    intro off _ hoff
    refine Raw.mono (raw_updS (x := vA [vS s, vB a'.inData, vI off]) (.inl rfl) und71 rfl rfl rfl rfl hK.labs) ?_
    rintro _ h2 ⟨rfl, ck, rfl, hck⟩
    have hnone : mapGet (labE 0 a'.p.labels) s = none := by
     rw [get_labE]
     have := e2
     rw [← find_any] at this
     simpa using this
    have hset := set_labE a'.p.labels 0 ⟨s, a'.inData, off⟩ e2
    rw [Nat.zero_add] at hset
    have hset2 : mapSet s (vA [vS s, vB a'.inData, vI off]) a'.p.labels.length (labE 0 a'.p.labels) = labE 0 (a'.p.labels ++ [⟨s, a'.inData, off⟩]) := hset
    rw [hset2, hck hnone]
    refine ⟨rfl, m - 1, by omega, ⟨j + 1, _, hn1, by omega, ⟨K, hK.putMap (ls := a'.p.labels ++ [⟨s, a'.inData, off⟩]) (by simp)⟩, hline, hcode, ?_⟩, trivial⟩
    rw [hdf, ← hoff]
   refine ⟨_, (by rw [PA_cell hK.obj]; rfl), _, _, _, (by rw [PA_cell hK.obj]; rfl), (by rw [PA_cell hK.obj]; rfl), (by rw [PA_cell hK.obj]; rfl), _, (by rw [PA_cell hK.obj]; rfl), br_split (fun e4 => ?_) fun e4 => ?_⟩
   · refine ⟨_, _, _, (by rw [PA_cell hK.obj]; rfl), _, (by rw [PA_cell hK.obj]; rfl), ?_⟩
     exact ins _ (fun _ _ => True) (by rw [if_pos e4])
   · refine ⟨_, (by rw [PA_cell hK.obj]; rfl), ?_⟩
     refine ins _ (fun _ _ => True) ?_
     rw [if_neg (by rw [e4]; decide), wrap64 (by rw [hcode]; omega) (by rw [hcode]; omega)]; omega
 · have hj : j = ls.length := by have := of_decide_eq_false e; omega
   subst hj
   rw [List.drop_length] at hdf
   rw [hdf]
   exact ⟨rfl, hb, Ext.refl _, hA1⟩
end
end Go.Proofs.D
