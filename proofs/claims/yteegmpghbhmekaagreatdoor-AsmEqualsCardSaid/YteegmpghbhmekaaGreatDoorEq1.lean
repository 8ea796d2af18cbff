import Derived.Test.YteegmpghbhmekaaGreatDoorB7
import Derived.Laws.StructEq
import Derived.Shelf.Strings.OnBuilder
import Derived.Shelf.Strconv.Itoa3
import Derived.Lib.AppendIntMem
import Derived.Laws.MakeOwn
import Derived.Lib.SmallJoins
import Derived.ChangeSlices
import Derived.ReadAgain
import Derived.Deep.Slices
namespace Go.Proofs.D
open Go Go.Den
set_option maxRecDepth 100000
set_option maxHeartbeats 4000000
abbrev emk1 : List CK := [qi, qi, qi, qi]
abbrev emk2 : List CK := [.slice, .str, qi, qi, .slice]
abbrev o57_2 : Op := .binOp .neq 58 (.tmp 19) (.tmp 23) 58
noncomputable def d57 : DCode := up ⟨[(19, .l emk1), (23, .l emk1), (24, .c (.one false [.bool]))], [], [(14, 15, [(13, qi)], [])]⟩ (low Tryz.prog (fun _ => false) (Tryz.f57.body.getD .skip))
theorem low57 : low Tryz.prog (fun _ => false) (Tryz.f57.body.getD .skip) = some (eC d57) := by kernel_rfl
def R57 (a1 : OA) (n1 : Nat) (emk1 : Nat) (a2 : OA) (n2 : Nat) (emk2 : Nat) (h : PHeap) (Q : Value → PHeap → Prop) : Prop :=
 br (((n1 : Nat) : Int) != ((n2 : Nat) : Int))
 (Q (vB false) h)
 (∃ (I_1 : Nat → Int → PHeap → Prop), (∃ (m2 : Nat), I_1 m2 (0 : Int) h) ∧
 ∀ (m1 : Nat) (i1 : Int) (h_1 : PHeap), I_1 m1 i1 h_1 →
 br (decide (i1 < ((n1 : Nat) : Int)))
 (∃ (b1 o1 : Nat), a1 = some ⟨b1, o1, none⟩ ∧ (0 ≤ i1 ∧ i1 < n1) ∧
 ∃ (i2 i3 i4 i5 : Int), h_1.row b1 (o1 + (i1).toNat * 4) [vI i2, vI i3, vI i4, vI i5] ∧
 ∃ (b2 o2 : Nat), a2 = some ⟨b2, o2, none⟩ ∧ (0 ≤ i1 ∧ i1 < n2) ∧
 ∃ (i6 i7 i8 i9 : Int), h_1.row b2 (o2 + (i1).toNat * 4) [vI i6, vI i7, vI i8, vI i9] ∧
 ∃ (c1 : Bool), PureRun Tryz.prog (execOp (rho [(19, vA [vI i2, vI i3, vI i4, vI i5]), (23, vA [vI i6, vI i7, vI i8, vI i9])]) (mkO o57_2 4)) (vB c1) ∧
 br c1
 (Q (vB false) h_1)
 (∃ (m3 : Nat), m3 < m1 ∧ I_1 m3 (IntKind.i64.wrap (i1 + 1)) h_1 ∧
 True))
 (Q (vB true) h_1))
theorem T57 {a1 : OA} {n1 : Nat} {emk1 : Nat} {a2 : OA} {n2 : Nat} {emk2 : Nat} {h : PHeap} {Q : Value → PHeap → Prop} (hR : R57 a1 n1 emk1 a2 n2 emk2 h Q) : Tri Tryz.prog 57 [vL a1 n1 emk1, vL a2 n2 emk2] h Q :=
 tri_of_dn mixed Tryz.func57 rfl (by kernel_rfl) low57 (rs := [.tmp 4]) (by kernel_rfl) rfl (Eq.mpr (by kernel_rfl : dnF Tryz.prog Tryz.f57.ntmps d57 [.tmp 4] [vL a1 n1 emk1, vL a2 n2 emk2] h Q = R57 a1 n1 emk1 a2 n2 emk2 h Q) hR)
abbrev o58_2 : Op := .binOp .neq 80 (.tmp 19) (.tmp 23) 80
noncomputable def d58 : DCode := up ⟨[(19, .l [.str, .bool, qi]), (23, .l [.str, .bool, qi]), (24, .c (.one false [.bool]))], [], [(14, 15, [(13, qi)], [])]⟩ (low Tryz.prog (fun _ => false) (Tryz.f58.body.getD .skip))
theorem low58 : low Tryz.prog (fun _ => false) (Tryz.f58.body.getD .skip) = some (eC d58) := by kernel_rfl
def R58 (a1 : OA) (n1 : Nat) (emk1 : Nat) (a2 : OA) (n2 : Nat) (emk2 : Nat) (h : PHeap) (Q : Value → PHeap → Prop) : Prop :=
 br (((n1 : Nat) : Int) != ((n2 : Nat) : Int))
 (Q (vB false) h)
 (∃ (I_1 : Nat → Int → PHeap → Prop), (∃ (m2 : Nat), I_1 m2 (0 : Int) h) ∧
 ∀ (m1 : Nat) (i1 : Int) (h_1 : PHeap), I_1 m1 i1 h_1 →
 br (decide (i1 < ((n1 : Nat) : Int)))
 (∃ (b1 o1 : Nat), a1 = some ⟨b1, o1, none⟩ ∧ (0 ≤ i1 ∧ i1 < n1) ∧
 ∃ (l1 : Bs) (c1 : Bool) (i2 : Int), h_1.row b1 (o1 + (i1).toNat * 3) [vS l1, vB c1, vI i2] ∧
 ∃ (b2 o2 : Nat), a2 = some ⟨b2, o2, none⟩ ∧ (0 ≤ i1 ∧ i1 < n2) ∧
 ∃ (l2 : Bs) (c2 : Bool) (i3 : Int), h_1.row b2 (o2 + (i1).toNat * 3) [vS l2, vB c2, vI i3] ∧
 ∃ (c3 : Bool), PureRun Tryz.prog (execOp (rho [(19, vA [vS l1, vB c1, vI i2]), (23, vA [vS l2, vB c2, vI i3])]) (mkO o58_2 4)) (vB c3) ∧
 br c3
 (Q (vB false) h_1)
 (∃ (m3 : Nat), m3 < m1 ∧ I_1 m3 (IntKind.i64.wrap (i1 + 1)) h_1 ∧
 True))
 (Q (vB true) h_1))
theorem T58 {a1 : OA} {n1 : Nat} {emk1 : Nat} {a2 : OA} {n2 : Nat} {emk2 : Nat} {h : PHeap} {Q : Value → PHeap → Prop} (hR : R58 a1 n1 emk1 a2 n2 emk2 h Q) : Tri Tryz.prog 58 [vL a1 n1 emk1, vL a2 n2 emk2] h Q :=
 tri_of_dn mixed Tryz.func58 rfl (by kernel_rfl) low58 (rs := [.tmp 4]) (by kernel_rfl) rfl (Eq.mpr (by kernel_rfl : dnF Tryz.prog Tryz.f58.ntmps d58 [.tmp 4] [vL a1 n1 emk1, vL a2 n2 emk2] h Q = R58 a1 n1 emk1 a2 n2 emk2 h Q) hR)
noncomputable def d29 : DCode := up ⟨[(6, .l [.slice]), (8, .l [.slice]), (9, .c (.one false [.bool])), (12, .l [.str]), (14, .l [.str]), (19, .l [qi]), (21, .l [qi]), (26, .l [qi]), (28, .l [qi]), (33, .l [.slice]), (35, .l [.slice]), (36, .c (.one false [.bool]))], [], []⟩ (low Tryz.prog (fun _ => false) (Tryz.f29.body.getD .skip))
theorem low29 : low Tryz.prog (fun _ => false) (Tryz.f29.body.getD .skip) = some (eC d29) := by kernel_rfl
def R29 (a1 : OA) (n1 : Nat) (emk1 : Nat) (l1 : Bs) (i1 : Int) (i2 : Int) (a2 : OA) (n2 : Nat) (emk2 : Nat) (a3 : OA) (n3 : Nat) (k3 : Nat) (l2 : Bs) (i3 : Int) (i4 : Int) (a4 : OA) (n4 : Nat) (k4 : Nat) (h : PHeap) (Q : Value → PHeap → Prop) : Prop :=
 Tri Tryz.prog 57 [vL a1 n1 emk1, vL a3 n3 k3] h fun v_1 h_1 =>
 ∃ (c1 : Bool), v_1 = vB c1 ∧
 br c1
 (br (l1 == l2)
 (br (i1 == i3)
 (br (i2 == i4)
 (Tri Tryz.prog 58 [vL a2 n2 emk2, vL a4 n4 k4] h_1 fun v_2 h_2 =>
 ∃ (c2 : Bool), v_2 = vB c2 ∧
 Q (vB c2) h_2)
 (Q (vB false) h_1))
 (Q (vB false) h_1))
 (Q (vB false) h_1))
 (Q (vB false) h_1)
theorem T29 {a1 : OA} {n1 : Nat} {emk1 : Nat} {l1 : Bs} {i1 : Int} {i2 : Int} {a2 : OA} {n2 : Nat} {emk2 : Nat} {a3 : OA} {n3 : Nat} {k3 : Nat} {l2 : Bs} {i3 : Int} {i4 : Int} {a4 : OA} {n4 : Nat} {k4 : Nat} {h : PHeap} {Q : Value → PHeap → Prop} (hR : R29 a1 n1 emk1 l1 i1 i2 a2 n2 emk2 a3 n3 k3 l2 i3 i4 a4 n4 k4 h Q) : Tri Tryz.prog 29 [vA [vL a1 n1 emk1, vS l1, vI i1, vI i2, vL a2 n2 emk2], vA [vL a3 n3 k3, vS l2, vI i3, vI i4, vL a4 n4 k4]] h Q :=
 tri_of_dn mixed Tryz.func29 rfl (by kernel_rfl) low29 (rs := [.tmp 4]) (by kernel_rfl) rfl (Eq.mpr (by kernel_rfl : dnF Tryz.prog Tryz.f29.ntmps d29 [.tmp 4] [vA [vL a1 n1 emk1, vS l1, vI i1, vI i2, vL a2 n2 emk2], vA [vL a3 n3 k3, vS l2, vI i3, vI i4, vL a4 n4 k4]] h Q = R29 a1 n1 emk1 l1 i1 i2 a2 n2 emk2 a3 n3 k3 l2 i3 i4 a4 n4 k4 h Q) hR)
abbrev o7_0 : Op := .call { callee := (.builtin .min), args := #[(.tmp 16), (.const (vI 1500))], argTypes := #[3, 3] }
noncomputable def d7 : DCode := up ⟨[(17, .c (.one false [qi])), (23, .l [.str]), (40, .c (.one false [.bool])), (58, .c (.tup [(true, emk2), (false, [qi]), (false, [qi])])), (68, .c (.tup [(true, emk2), (false, [qi]), (false, [qi])])), (72, .c (.one false [.bool])), (84, .l emk2), (85, .l emk2), (86, .c (.one false [.bool]))], [], [(24, 35, [(5, .str), (7, qi)], [])]⟩ (low Tryz.prog (fun _ => false) (Tryz.f7.body.getD .skip))
theorem low7 : low Tryz.prog (fun _ => false) (Tryz.f7.body.getD .skip) = some (eC d7) := by kernel_rfl
def R7 (l1 : Bs) (i1 : Int) (h : PHeap) (Q : Value → PHeap → Prop) : Prop :=
 ∃ (i2 : Int), PureRun Tryz.prog (execOp (rho [(16, vI (l1.length : Int))]) (mkO o7_0 3)) (vI i2) ∧
 (0 ≤ (0 : Int) ∧ (0 : Int) ≤ i2 ∧ i2 ≤ (l1.length : Int)) ∧
 ∀ (b1 : Nat), h b1 = none → ∀ (h_1 : PHeap), h_1 = h.put b1 (.cells ⟨[vS [32], vS [9, 59, 32, 120, 58, 32, 34], vS [32, 32, 9], vS [59, 44, 58]]⟩ 9) →
 ∃ (b2 o1 : Nat), (ad b1 0) = some ⟨b2, o1, none⟩ ∧ (0 ≤ (Int.tmod i1 4) ∧ (Int.tmod i1 4) < (4 : Nat)) ∧
 ∃ (l2 : Bs), h_1.cell b2 (o1 + (Int.tmod i1 4).toNat * 1) = some (vS l2) ∧
 ∃ (I_1 : Nat → Bs → Int → PHeap → Prop), (∃ (m2 : Nat), I_1 m2 [] (0 : Int) h_1) ∧
 ∀ (m1 : Nat) (l3 : Bs) (i3 : Int) (h_2 : PHeap), I_1 m1 l3 i3 h_2 →
 br (decide (i3 < ((((l1.drop 0).take ((i2).toNat - 0))).length : Int)))
 (0 ≤ i3 ∧ ∃ (c1 : UInt8), (((l1.drop 0).take ((i2).toNat - 0)))[(i3).toNat]? = some c1 ∧
 br ((c1.toNat : Int) == 34)
 (Tri Tryz.prog 15 [] h_2 fun v_1 h_3 =>
 ∃ (c2 : Bool), v_1 = vB c2 ∧
 Q (vB c2) h_3)
 (0 ≤ i3 ∧ ∃ (c3 : UInt8), (((l1.drop 0).take ((i2).toNat - 0)))[(i3).toNat]? = some c3 ∧
 br ((c3.toNat : Int) == 59)
 (Tri Tryz.prog 15 [] h_2 fun v_2 h_4 =>
 ∃ (c4 : Bool), v_2 = vB c4 ∧
 Q (vB c4) h_4)
 (0 ≤ i3 ∧ ∃ (c5 : UInt8), (((l1.drop 0).take ((i2).toNat - 0)))[(i3).toNat]? = some c5 ∧
 br ((c5.toNat : Int) == 10)
 (l3.length + l2.length ≤ 9223372036854775807 ∧
 (l3 ++ l2).length + ([10, 9, 32] : Bs).length ≤ 9223372036854775807 ∧
 ∃ (m3 : Nat), m3 < m1 ∧ I_1 m3 ((l3 ++ l2) ++ ([10, 9, 32] : Bs)) (IntKind.i64.wrap (i3 + 1)) h_2 ∧
 True)
 ((0 ≤ i3 ∧ i3 ≤ (IntKind.i64.wrap (i3 + 1)) ∧ (IntKind.i64.wrap (i3 + 1)) ≤ (((l1.drop 0).take ((i2).toNat - 0)).length : Int)) ∧
 l3.length + ((((l1.drop 0).take ((i2).toNat - 0)).drop (i3).toNat).take ((IntKind.i64.wrap (i3 + 1)).toNat - (i3).toNat)).length ≤ 9223372036854775807 ∧
 ∃ (m4 : Nat), m4 < m1 ∧ I_1 m4 (l3 ++ ((((l1.drop 0).take ((i2).toNat - 0)).drop (i3).toNat).take ((IntKind.i64.wrap (i3 + 1)).toNat - (i3).toNat))) (IntKind.i64.wrap (i3 + 1)) h_2 ∧
 True))))
 (Tri Tryz.prog 13 [vS ((l1.drop 0).take ((i2).toNat - 0))] h_2 fun v_3 h_5 =>
 ∃ (a1 : OA) (n1 emk1 : Nat) (l4 : Bs) (i4 i5 : Int) (a2 : OA) (n2 emk2 : Nat) (i6 i7 : Int), v_3 = vT [vA [vL a1 n1 emk1, vS l4, vI i4, vI i5, vL a2 n2 emk2], vI i6, vI i7] ∧
 ([32] : Bs).length + l3.length ≤ 9223372036854775807 ∧
 (([32] : Bs) ++ l3).length + l2.length ≤ 9223372036854775807 ∧
 ((([32] : Bs) ++ l3) ++ l2).length + ([10, 10, 32, 59, 32, 101, 110, 100] : Bs).length ≤ 9223372036854775807 ∧
 Tri Tryz.prog 13 [vS (((([32] : Bs) ++ l3) ++ l2) ++ ([10, 10, 32, 59, 32, 101, 110, 100] : Bs))] h_5 fun v_4 h_6 =>
 ∃ (a3 : OA) (n3 k3 : Nat) (l5 : Bs) (i8 i9 : Int) (a4 : OA) (n4 k4 : Nat) (i10 i11 : Int), v_4 = vT [vA [vL a3 n3 k3, vS l5, vI i8, vI i9, vL a4 n4 k4], vI i10, vI i11] ∧
 Tri Tryz.prog 15 [] h_6 fun v_5 h_7 =>
 ∃ (c6 : Bool), v_5 = vB c6 ∧
 br c6
 (br (i7 == i11)
 (br (i6 == i10)
 (Tri Tryz.prog 29 [vA [vL a1 n1 emk1, vS l4, vI i4, vI i5, vL a2 n2 emk2], vA [vL a3 n3 k3, vS l5, vI i8, vI i9, vL a4 n4 k4]] h_7 fun v_6 h_8 =>
 ∃ (c7 : Bool), v_6 = vB c7 ∧
 Q (vB c7) h_8)
 (Q (vB false) h_7))
 (Q (vB false) h_7))
 (Q (vB false) h_7))
theorem T7 {l1 : Bs} {i1 : Int} {h : PHeap} {Q : Value → PHeap → Prop} (hR : R7 l1 i1 h Q) : Tri Tryz.prog 7 [vS l1, vU i1] h Q :=
 tri_of_dn mixed Tryz.func7 rfl (by kernel_rfl) low7 (rs := [.tmp 4]) (by kernel_rfl) rfl (Eq.mpr (by kernel_rfl : dnF Tryz.prog Tryz.f7.ntmps d7 [.tmp 4] [vS l1, vU i1] h Q = R7 l1 i1 h Q) hR)
end Go.Proofs.D
namespace Go.Proofs.D
open Go Go.Den Go.As
set_option maxRecDepth 100000
theorem run_part1 {t : TypeId} {l : List Value} {k : Nat} {v : Value} (w : World) (h2 : (isAgg t).run Tryz.prog w = .ok false w) (h3 : l[k]? = some v) : (part t ⟨l⟩ k).run Tryz.prog w = .ok v w := by
 simp [part, h2, h3]
theorem run_int3 (w : World) (a b : Int) : (Op.equalIn 9999 3 (vI a) (vI b)).run Tryz.prog w = .ok (a == b) w := run_equalIn_int w 9998 3 .i64 .i64 a b Tryz.underlying3
theorem run_str9 (w : World) (a b : Bytes) : (Op.equalIn 9999 9 (vS a) (vS b)).run Tryz.prog w = .ok (a == b) w := by
 have := run_equalIn_string w (P := Tryz.prog) 9998 9 ⟨⟨a⟩⟩ ⟨⟨b⟩⟩ Tryz.underlying9
 rw [show (Op.equalIn 9999 9 (vS a) (vS b)) = Op.equalIn (9998 + 1) 9 (.string ⟨⟨a⟩⟩) (.string ⟨⟨b⟩⟩) from rfl, this, ByteArray.toList_eq, ByteArray.toList_eq]
theorem run_bool4 (w : World) (a b : Bool) : (Op.equalIn 9999 4 (vB a) (vB b)).run Tryz.prog w = .ok (a == b) w := run_equalIn_bool' w 9998 4 a b Tryz.underlying4
theorem eq_ins (x y : Ins) (w : World) : (Op.equalIn 10000 58 (vA (insC x)) (vA (insC y))).run Tryz.prog w = .ok (decide (x = y)) w := by
 have h1 : Tryz.prog.underlying 58 = some (.struct (Tryz.prog.fieldsOf 58)) := by unfold Program.fieldsOf; rw [Tryz.underlying58]
 have h2 : Tryz.prog.stoodInHeld 58 = false := by kernel_rfl
 have := run_equalIn_struct w (P := Tryz.prog) 9999 58 ⟨insC x⟩ ⟨insC y⟩ h1 h2
 rw [show (Op.equalIn 10000 58 (vA (insC x)) (vA (insC y))) = Op.equalIn (9999 + 1) 58 (.agg ⟨insC x⟩) (.agg ⟨insC y⟩) from rfl, this]
 have p : ∀ (x : Ins) (k : Nat) (v : Value), (insC x)[k]? = some v → (part 3 ⟨insC x⟩ k).run Tryz.prog w = .ok v w := fun x k v h => run_part1 w (Tryz.isAgg3 w) h
 simp only [Program.fieldsOf, Tryz.underlying58, Op.eqFields, ne_eq, Sem.run_bind, Sem.run_ite, p _ 0 _ rfl, p _ 1 _ rfl, p _ 2 _ rfl, p _ 3 _ rfl, Result.andThen_ok, run_int3, Sem.run_pure]
 obtain ⟨x1, x2, x3, x4⟩ := x
 obtain ⟨y1, y2, y3, y4⟩ := y
 by_cases e1 : x1 = y1 <;> by_cases e2 : x2 = y2 <;> by_cases e3 : x3 = y3 <;> by_cases e4 : x4 = y4 <;> simp [e1, e2, e3, e4]
theorem eq_lb (x y : Lb) (w : World) : (Op.equalIn 10000 80 (vA (lbC x)) (vA (lbC y))).run Tryz.prog w = .ok (decide (x = y)) w := by
 have h1 : Tryz.prog.underlying 80 = some (.struct (Tryz.prog.fieldsOf 80)) := by unfold Program.fieldsOf; rw [Tryz.underlying80]
 have h2 : Tryz.prog.stoodInHeld 80 = false := by kernel_rfl
 have := run_equalIn_struct w (P := Tryz.prog) 9999 80 ⟨lbC x⟩ ⟨lbC y⟩ h1 h2
 rw [show (Op.equalIn 10000 80 (vA (lbC x)) (vA (lbC y))) = Op.equalIn (9999 + 1) 80 (.agg ⟨lbC x⟩) (.agg ⟨lbC y⟩) from rfl, this]
 have p0 : ∀ (x : Lb), (part 9 ⟨lbC x⟩ 0).run Tryz.prog w = .ok (vS x.name) w := fun x => run_part1 w (Tryz.isAgg9 w) rfl
 have p1 : ∀ (x : Lb), (part 4 ⟨lbC x⟩ 1).run Tryz.prog w = .ok (vB x.data) w := fun x => run_part1 w (Tryz.isAgg4 w) rfl
 have p2 : ∀ (x : Lb), (part 3 ⟨lbC x⟩ 2).run Tryz.prog w = .ok (vI x.off) w := fun x => run_part1 w (Tryz.isAgg3 w) rfl
 simp only [Program.fieldsOf, Tryz.underlying80, Op.eqFields, ne_eq, Sem.run_bind, Sem.run_ite, p0, p1, p2, Result.andThen_ok, run_int3, run_str9, run_bool4, Sem.run_pure]
 obtain ⟨x1, x2, x3⟩ := x
 obtain ⟨y1, y2, y3⟩ := y
 by_cases e1 : x1 = y1 <;> by_cases e2 : x2 = y2 <;> by_cases e3 : x3 = y3 <;> simp [e1, e2, e3]
theorem pure_neq {ρ : Operand → Value} {x y : Operand} {t t' ty : TypeId} {xs ys : List Value} {b : Bool} (hx : ρ x = vA xs) (hy : ρ y = vA ys) (hg : Tryz.prog.eqGuardType Tryz.prog.depth t = false) (h : ∀ w, (Op.equalIn 10000 t (vA xs) (vA ys)).run Tryz.prog w = .ok b w) :
 PureRun Tryz.prog (execOp ρ (mkO (.binOp .neq t x y t') ty)) (vB (!b)) := by
 intro w
 have h1 := h w
 have h2 : (binOp .neq t (vA xs) (vA ys)).run Tryz.prog w = .ok (vB (!b)) w := by
  rw [run_neq_struct, h1]; rfl
 have h3 : (eqGuard .neq t x y (vA xs) (vA ys)).run Tryz.prog w = .ok () w := run_eqGuard_agg (P := Tryz.prog) w .neq t x y ⟨xs⟩ ⟨ys⟩ hg
 simp only [execOp, mkO, hx, hy, Sem.run_bind, h3, h2, Result.andThen_ok, Sem.run_pure]
theorem pure_eql {ρ : Operand → Value} {x y : Operand} {t t' ty : TypeId} {xs ys : List Value} {b : Bool} (hx : ρ x = vA xs) (hy : ρ y = vA ys) (hg : Tryz.prog.eqGuardType Tryz.prog.depth t = false) (h : ∀ w, (Op.equalIn 10000 t (vA xs) (vA ys)).run Tryz.prog w = .ok b w) :
 PureRun Tryz.prog (execOp ρ (mkO (.binOp .eql t x y t') ty)) (vB b) := by
 intro w
 have h1 := h w
 have h2 : (binOp .eql t (vA xs) (vA ys)).run Tryz.prog w = .ok (vB b) w := by
  rw [run_eql_struct, h1]; rfl
 have h3 : (eqGuard .eql t x y (vA xs) (vA ys)).run Tryz.prog w = .ok () w := run_eqGuard_agg (P := Tryz.prog) w .eql t x y ⟨xs⟩ ⟨ys⟩ hg
 simp only [execOp, mkO, hx, hy, Sem.run_bind, h3, h2, Result.andThen_ok, Sem.run_pure]
attribute [local irreducible] IntKind.wrap Tri
section
variable {h : PHeap}
theorem take_eq_iff {α : Type} {l m : List α} {j : Nat} {x y : α} (hl : l[j]? = some x) (hm : m[j]? = some y) : l.take (j + 1) = m.take (j + 1) ↔ l.take j = m.take j ∧ x = y := by
 obtain ⟨h1, rfl⟩ := List.getElem?_eq_some_iff.1 hl
 obtain ⟨h2, rfl⟩ := List.getElem?_eq_some_iff.1 hm
 rw [← List.take_append_getElem h1, ← List.take_append_getElem h2]
 constructor
 · intro h
   have := List.append_inj h (by simp; omega)
   exact ⟨this.1, by simpa using this.2⟩
 · rintro ⟨h, e⟩; rw [h, e]
theorem eqIns_t {a1 a2 : OA} {k1 k2 : Nat} {l m : List Ins} (h1 : InAt h a1 l) (h2 : InAt h a2 m) (hl : l.length ≤ 1000000) : Tri Tryz.prog 57 [vL a1 l.length k1, vL a2 m.length k2] h fun v h' => v = vB (decide (l = m)) ∧ h' = h := by
 refine T57 ?_
 unfold R57
 refine br_split (fun e => ?_) fun e => ?_
 · have : l ≠ m := fun hh => by subst hh; simp at e
   exact ⟨by simp [this], rfl⟩
 have hlen : l.length = m.length := by
  have : (l.length : Int) = (m.length : Int) := by simpa using e
  omega
 refine ⟨fun n i h' => ∃ j : Nat, i = (j : Int) ∧ j + n = l.length ∧ h' = h ∧ l.take j = m.take j, ⟨l.length, 0, rfl, by omega, rfl, rfl⟩, ?_⟩
 rintro n _ h3 ⟨j, rfl, hjn, rfl, ht⟩
 refine br_split (fun e => ?_) fun e => ?_
 · have hlt : j < l.length := by have := of_decide_eq_true e; omega
   have g1 : l[j]? = some l[j] := by simp [hlt]
   have hlt2 : j < m.length := by omega
   have g2 : m[j]? = some m[j] := by simp [hlt2]
   have hiff := take_eq_iff g1 g2
   generalize l[j] = x at *
   generalize m[j] = y at *
   obtain ⟨b1, o1, ha1, r1⟩ := h1.get g1
   obtain ⟨b2, o2, ha2, r2⟩ := h2.get g2
   refine ⟨b1, o1, ha1, ⟨by omega, by omega⟩, _, _, _, _, (by rw [Int.toNat_natCast]; exact r1), b2, o2, ha2, ⟨by omega, by omega⟩, _, _, _, _, (by rw [Int.toNat_natCast]; exact r2), !decide (x = y), pure_neq (xs := insC x) (ys := insC y) rfl rfl (by kernel_rfl) (eq_ins x y), br_split (fun e1 => ?_) fun e1 => ?_⟩
   · have hxy : x ≠ y := by simpa using e1
     have : l ≠ m := fun hh => by subst hh; rw [g1] at g2; injection g2 with g2; exact hxy g2
     exact ⟨by simp [this], rfl⟩
   · have hxy : x = y := by simpa using e1
     exact ⟨n - 1, by omega, ⟨j + 1, by rw [wrap64 (by omega) (by omega)]; omega, by omega, rfl, hiff.2 ⟨ht, hxy⟩⟩, trivial⟩
 · have hj : j = l.length := by have := of_decide_eq_false e; omega
   subst hj
   rw [List.take_length, hlen, List.take_length] at ht
   exact ⟨by simp [ht], rfl⟩
theorem eqLbs_t {a1 a2 : OA} {k1 k2 : Nat} {l m : List Lb} (h1 : LbAt h a1 l) (h2 : LbAt h a2 m) (hl : l.length ≤ 1000000) : Tri Tryz.prog 58 [vL a1 l.length k1, vL a2 m.length k2] h fun v h' => v = vB (decide (l = m)) ∧ h' = h := by
 refine T58 ?_
 unfold R58
 refine br_split (fun e => ?_) fun e => ?_
 · have : l ≠ m := fun hh => by subst hh; simp at e
   exact ⟨by simp [this], rfl⟩
 have hlen : l.length = m.length := by
  have : (l.length : Int) = (m.length : Int) := by simpa using e
  omega
 refine ⟨fun n i h' => ∃ j : Nat, i = (j : Int) ∧ j + n = l.length ∧ h' = h ∧ l.take j = m.take j, ⟨l.length, 0, rfl, by omega, rfl, rfl⟩, ?_⟩
 rintro n _ h3 ⟨j, rfl, hjn, rfl, ht⟩
 refine br_split (fun e => ?_) fun e => ?_
 · have hlt : j < l.length := by have := of_decide_eq_true e; omega
   have g1 : l[j]? = some l[j] := by simp [hlt]
   have hlt2 : j < m.length := by omega
   have g2 : m[j]? = some m[j] := by simp [hlt2]
   have hiff := take_eq_iff g1 g2
   generalize l[j] = x at *
   generalize m[j] = y at *
   obtain ⟨b1, o1, ha1, r1⟩ := h1.get g1
   obtain ⟨b2, o2, ha2, r2⟩ := h2.get g2
   refine ⟨b1, o1, ha1, ⟨by omega, by omega⟩, _, _, _, (by rw [Int.toNat_natCast]; exact r1), b2, o2, ha2, ⟨by omega, by omega⟩, _, _, _, (by rw [Int.toNat_natCast]; exact r2), !decide (x = y), pure_neq (xs := lbC x) (ys := lbC y) rfl rfl (by kernel_rfl) (eq_lb x y), br_split (fun e1 => ?_) fun e1 => ?_⟩
   · have hxy : x ≠ y := by simpa using e1
     have : l ≠ m := fun hh => by subst hh; rw [g1] at g2; injection g2 with g2; exact hxy g2
     exact ⟨by simp [this], rfl⟩
   · have hxy : x = y := by simpa using e1
     exact ⟨n - 1, by omega, ⟨j + 1, by rw [wrap64 (by omega) (by omega)]; omega, by omega, rfl, hiff.2 ⟨ht, hxy⟩⟩, trivial⟩
 · have hj : j = l.length := by have := of_decide_eq_false e; omega
   subst hj
   rw [List.take_length, hlen, List.take_length] at ht
   exact ⟨by simp [ht], rfl⟩
def PV (a1 : OA) (k1 : Nat) (a2 : OA) (k2 : Nat) (q : Pg) : Value := vA [vL a1 q.code.length k1, vS q.data, vI q.zero, vI q.entry, vL a2 q.labels.length k2]
structure PgAt (h : PHeap) (a1 : OA) (k1 : Nat) (a2 : OA) (k2 : Nat) (q : Pg) : Prop where
 ins : InAt h a1 q.code
 lbs : LbAt h a2 q.labels
 ok1 : okN a1 q.code.length k1
 ok2 : okN a2 q.labels.length k2
theorem PgAt.ext {h h' : PHeap} {a1 : OA} {k1 : Nat} {a2 : OA} {k2 : Nat} {q : Pg} (x : Ext h h') (hp : PgAt h a1 k1 a2 k2 q) : PgAt h' a1 k1 a2 k2 q := ⟨hp.ins.ext x, hp.lbs.ext x, hp.ok1, hp.ok2⟩
theorem equal_t {a1 a2 a3 a4 : OA} {k1 k2 k3 k4 : Nat} {p q : Pg} (hp : PgAt h a1 k1 a2 k2 p) (hq : PgAt h a3 k3 a4 k4 q) (h1 : p.code.length ≤ 1000000) (h2 : p.labels.length ≤ 1000000) :
 Tri Tryz.prog 29 [PV a1 k1 a2 k2 p, PV a3 k3 a4 k4 q] h fun v h' => v = vB (decide (p = q)) ∧ h' = h := by
 refine T29 ?_
 unfold R29
 obtain ⟨c1, d1, z1, e1, l1⟩ := p
 obtain ⟨c2, d2, z2, e2, l2⟩ := q
 refine Tri.mono (eqIns_t hp.ins hq.ins h1) ?_
 rintro _ h3 ⟨rfl, rfl⟩
 refine ⟨_, rfl, br_split (fun g1 => br_split (fun g2 => br_split (fun g3 => br_split (fun g4 => ?_) fun g4 => ?_) fun g3 => ?_) fun g2 => ?_) fun g1 => ?_⟩
 · refine Tri.mono (eqLbs_t hp.lbs hq.lbs h2) ?_
   rintro _ h4 ⟨rfl, rfl⟩
   refine ⟨_, rfl, ?_, rfl⟩
   have q1 : c1 = c2 := of_decide_eq_true g1
   have q2 : d1 = d2 := by simpa using g2
   have q3 : z1 = z2 := by simpa using g3
   have q4 : e1 = e2 := by simpa using g4
   clear g1 g2 g3 g4
   subst q1; subst q2; subst q3; subst q4
   simp
 · have g4 : e1 ≠ e2 := by simpa using g4
   exact ⟨by simp [g4], rfl⟩
 · have g3 : z1 ≠ z2 := by simpa using g3
   exact ⟨by simp [g3], rfl⟩
 · have g2 : d1 ≠ d2 := by simpa using g2
   exact ⟨by simp [g2], rfl⟩
 · have g1 : c1 ≠ c2 := of_decide_eq_false g1
   exact ⟨by simp [g1], rfl⟩
end
end Go.Proofs.D
namespace Go.Proofs.D
open Go Go.Den
set_option maxRecDepth 100000
set_option maxHeartbeats 4000000
abbrev enk1 : List CK := [qi, qi, qi, qi]
abbrev enk2 : List CK := [.slice, .str, qi, qi, .slice]
noncomputable def d32 : DCode := up ⟨[(11, .l enk1), (12, .c (.one false [qi])), (18, .l [qi]), (19, .c (.tup [(false, [qi]), (false, [qi])])), (23, .l [qi]), (24, .c (.one false [.str])), (27, .l [qi]), (28, .c (.one false [.str])), (31, .l [qi]), (32, .c (.one false [.str])), (69, .l [qi]), (70, .c (.one false [.str])), (72, .l [qi]), (73, .c (.one false [.str])), (76, .c (.one false [.str]))], [], []⟩ (low Tryz.prog (fun _ => false) (Tryz.f32.body.getD .skip))
theorem low32 : low Tryz.prog (fun _ => false) (Tryz.f32.body.getD .skip) = some (eC d32) := by kernel_rfl
def R32 (i1 : Int) (i2 : Int) (i3 : Int) (i4 : Int) (h : PHeap) (Q : Value → PHeap → Prop) : Prop :=
 Tri Tryz.prog 46 [vA [vI i1, vI i2, vI i3, vI i4]] h fun v_1 h_1 =>
 ∃ (i5 : Int), v_1 = vI i5 ∧
 br (i5 != 0)
 (Q (vT [vS [], vI i5]) h_1)
 (Tri Tryz.prog 59 [vI i1] h_1 fun v_2 h_2 =>
 ∃ (i6 i7 : Int), v_2 = vT [vI i6, vI i7] ∧
 Tri Tryz.prog 60 [vI i2] h_2 fun v_3 h_3 =>
 ∃ (l1 : Bs), v_3 = vS l1 ∧
 (tv [vI i4]) ∧
 (tv [vI i3]) ∧
 ([114] : Bs).length + l1.length ≤ 9223372036854775807 ∧
 Tri Tryz.prog 60 [vI i3] h_3 fun v_4 h_4 =>
 ∃ (l2 : Bs), v_4 = vS l2 ∧
 (tv [vI i4]) ∧
 ([114] : Bs).length + l2.length ≤ 9223372036854775807 ∧
 Tri Tryz.prog 60 [vI i4] h_4 fun v_5 h_5 =>
 ∃ (l3 : Bs), v_5 = vS l3 ∧
 br (i6 == 1)
 (∀ (b1 : Nat), h_5 b1 = none → ∀ (h_6 : PHeap), h_6 = h_5.put b1 (.cells ⟨[vS (([114] : Bs) ++ l1)]⟩ 9) →
 Tri Tryz.prog 61 [vI i1] h_6 fun v_6 h_7 =>
 ∃ (l4 : Bs), v_6 = vS l4 ∧
 l4.length + ([32] : Bs).length ≤ 9223372036854775807 ∧
 Tri Tryz.prog 62 [vL (ad b1 0) 1 1, vS [44, 32]] h_7 fun v_7 h_8 =>
 ∃ (l5 : Bs), v_7 = vS l5 ∧
 (l4 ++ ([32] : Bs)).length + l5.length ≤ 9223372036854775807 ∧
 Q (vT [vS ((l4 ++ ([32] : Bs)) ++ l5), vI 0]) h_8)
 (br (i6 == 2)
 (∀ (b2 : Nat), h_5 b2 = none → ∀ (h_9 : PHeap), h_9 = h_5.put b2 (.cells ⟨[vS (([114] : Bs) ++ l1), vS (([114] : Bs) ++ l2)]⟩ 9) →
 Tri Tryz.prog 61 [vI i1] h_9 fun v_8 h_10 =>
 ∃ (l6 : Bs), v_8 = vS l6 ∧
 l6.length + ([32] : Bs).length ≤ 9223372036854775807 ∧
 Tri Tryz.prog 62 [vL (ad b2 0) 2 2, vS [44, 32]] h_10 fun v_9 h_11 =>
 ∃ (l7 : Bs), v_9 = vS l7 ∧
 (l6 ++ ([32] : Bs)).length + l7.length ≤ 9223372036854775807 ∧
 Q (vT [vS ((l6 ++ ([32] : Bs)) ++ l7), vI 0]) h_11)
 (br (i6 == 3)
 (([114] : Bs).length + l3.length ≤ 9223372036854775807 ∧
 ∀ (b3 : Nat), h_5 b3 = none → ∀ (h_12 : PHeap), h_12 = h_5.put b3 (.cells ⟨[vS (([114] : Bs) ++ l1), vS (([114] : Bs) ++ l2), vS (([114] : Bs) ++ l3)]⟩ 9) →
 Tri Tryz.prog 61 [vI i1] h_12 fun v_10 h_13 =>
 ∃ (l8 : Bs), v_10 = vS l8 ∧
 l8.length + ([32] : Bs).length ≤ 9223372036854775807 ∧
 Tri Tryz.prog 62 [vL (ad b3 0) 3 3, vS [44, 32]] h_13 fun v_11 h_14 =>
 ∃ (l9 : Bs), v_11 = vS l9 ∧
 (l8 ++ ([32] : Bs)).length + l9.length ≤ 9223372036854775807 ∧
 Q (vT [vS ((l8 ++ ([32] : Bs)) ++ l9), vI 0]) h_14)
 (br (i6 == 4)
 (∀ (b4 : Nat), h_5 b4 = none → ∀ (h_15 : PHeap), h_15 = h_5.put b4 (.cells ⟨[vS (([114] : Bs) ++ l1), vS l3]⟩ 9) →
 Tri Tryz.prog 61 [vI i1] h_15 fun v_12 h_16 =>
 ∃ (l10 : Bs), v_12 = vS l10 ∧
 l10.length + ([32] : Bs).length ≤ 9223372036854775807 ∧
 Tri Tryz.prog 62 [vL (ad b4 0) 2 2, vS [44, 32]] h_16 fun v_13 h_17 =>
 ∃ (l11 : Bs), v_13 = vS l11 ∧
 (l10 ++ ([32] : Bs)).length + l11.length ≤ 9223372036854775807 ∧
 Q (vT [vS ((l10 ++ ([32] : Bs)) ++ l11), vI 0]) h_17)
 (br (i6 == 5)
 (∀ (b5 : Nat), h_5 b5 = none → ∀ (h_18 : PHeap), h_18 = h_5.put b5 (.cells ⟨[vS (([114] : Bs) ++ l1), vS (([114] : Bs) ++ l2), vS l3]⟩ 9) →
 Tri Tryz.prog 61 [vI i1] h_18 fun v_14 h_19 =>
 ∃ (l12 : Bs), v_14 = vS l12 ∧
 l12.length + ([32] : Bs).length ≤ 9223372036854775807 ∧
 Tri Tryz.prog 62 [vL (ad b5 0) 3 3, vS [44, 32]] h_19 fun v_15 h_20 =>
 ∃ (l13 : Bs), v_15 = vS l13 ∧
 (l12 ++ ([32] : Bs)).length + l13.length ≤ 9223372036854775807 ∧
 Q (vT [vS ((l12 ++ ([32] : Bs)) ++ l13), vI 0]) h_20)
 (br (i6 == 6)
 (∀ (b6 : Nat), h_5 b6 = none → ∀ (h_21 : PHeap), h_21 = h_5.put b6 (.cells ⟨[vS l3]⟩ 9) →
 Tri Tryz.prog 61 [vI i1] h_21 fun v_16 h_22 =>
 ∃ (l14 : Bs), v_16 = vS l14 ∧
 l14.length + ([32] : Bs).length ≤ 9223372036854775807 ∧
 Tri Tryz.prog 62 [vL (ad b6 0) 1 1, vS [44, 32]] h_22 fun v_17 h_23 =>
 ∃ (l15 : Bs), v_17 = vS l15 ∧
 (l14 ++ ([32] : Bs)).length + l15.length ≤ 9223372036854775807 ∧
 Q (vT [vS ((l14 ++ ([32] : Bs)) ++ l15), vI 0]) h_23)
 (Tri Tryz.prog 61 [vI i1] h_5 fun v_18 h_24 =>
 ∃ (l16 : Bs), v_18 = vS l16 ∧
 Q (vT [vS l16, vI 0]) h_24)))))))
theorem T32 {i1 : Int} {i2 : Int} {i3 : Int} {i4 : Int} {h : PHeap} {Q : Value → PHeap → Prop} (hR : R32 i1 i2 i3 i4 h Q) : Tri Tryz.prog 32 [vA [vI i1, vI i2, vI i3, vI i4]] h Q :=
 tri_of_dn mixed Tryz.func32 rfl (by kernel_rfl) low32 (rs := [.tmp 2, .tmp 3]) (by kernel_rfl) rfl (Eq.mpr (by kernel_rfl : dnF Tryz.prog Tryz.f32.ntmps d32 [.tmp 2, .tmp 3] [vA [vI i1, vI i2, vI i3, vI i4]] h Q = R32 i1 i2 i3 i4 h Q) hR)
noncomputable def d34 : DCode := up ⟨[(12, .l [qi]), (13, .c (.tup [(false, [qi]), (false, [qi])])), (17, .l [qi]), (18, .c (.one false [.str])), (20, .l [qi]), (21, .c (.one false [.str])), (24, .l [qi]), (25, .c (.one false [.str])), (28, .l [qi]), (29, .c (.one false [.str])), (32, .l [qi]), (33, .c (.one false [.str])), (68, .l [.str])], [], []⟩ (low Tryz.prog (fun _ => false) (Tryz.f34.body.getD .skip))
theorem low34 : low Tryz.prog (fun _ => false) (Tryz.f34.body.getD .skip) = some (eC d34) := by kernel_rfl
def R34 (i1 : Int) (i2 : Int) (i3 : Int) (i4 : Int) (h : PHeap) (Q : Value → PHeap → Prop) : Prop :=
 Tri Tryz.prog 63 [vI i1] h fun v_1 h_1 =>
 ∃ (i5 i6 : Int), v_1 = vT [vI i5, vI i6] ∧
 Tri Tryz.prog 68 [vI i1] h_1 fun v_2 h_2 =>
 ∃ (l1 : Bs), v_2 = vS l1 ∧
 Tri Tryz.prog 18 [vI i2] h_2 fun v_3 h_3 =>
 ∃ (l2 : Bs), v_3 = vS l2 ∧
 (tv [vI i4]) ∧
 (tv [vI i3]) ∧
 ([114] : Bs).length + l2.length ≤ 9223372036854775807 ∧
 Tri Tryz.prog 18 [vI i3] h_3 fun v_4 h_4 =>
 ∃ (l3 : Bs), v_4 = vS l3 ∧
 (tv [vI i4]) ∧
 ([114] : Bs).length + l3.length ≤ 9223372036854775807 ∧
 Tri Tryz.prog 18 [vI i4] h_4 fun v_5 h_5 =>
 ∃ (l4 : Bs), v_5 = vS l4 ∧
 ([114] : Bs).length + l4.length ≤ 9223372036854775807 ∧
 Tri Tryz.prog 18 [vI i4] h_5 fun v_6 h_6 =>
 ∃ (l5 : Bs), v_6 = vS l5 ∧
 ([32] : Bs).length + (([114] : Bs) ++ l2).length ≤ 9223372036854775807 ∧
 ([32] : Bs).length + (([114] : Bs) ++ l2).length ≤ 9223372036854775807 ∧
 (([32] : Bs) ++ (([114] : Bs) ++ l2)).length + ([44, 32] : Bs).length ≤ 9223372036854775807 ∧
 ((([32] : Bs) ++ (([114] : Bs) ++ l2)) ++ ([44, 32] : Bs)).length + (([114] : Bs) ++ l3).length ≤ 9223372036854775807 ∧
 ([32] : Bs).length + (([114] : Bs) ++ l2).length ≤ 9223372036854775807 ∧
 (([32] : Bs) ++ (([114] : Bs) ++ l2)).length + ([44, 32] : Bs).length ≤ 9223372036854775807 ∧
 ((([32] : Bs) ++ (([114] : Bs) ++ l2)) ++ ([44, 32] : Bs)).length + (([114] : Bs) ++ l3).length ≤ 9223372036854775807 ∧
 (((([32] : Bs) ++ (([114] : Bs) ++ l2)) ++ ([44, 32] : Bs)) ++ (([114] : Bs) ++ l3)).length + ([44, 32] : Bs).length ≤ 9223372036854775807 ∧
 ((((([32] : Bs) ++ (([114] : Bs) ++ l2)) ++ ([44, 32] : Bs)) ++ (([114] : Bs) ++ l3)) ++ ([44, 32] : Bs)).length + (([114] : Bs) ++ l4).length ≤ 9223372036854775807 ∧
 ([32] : Bs).length + (([114] : Bs) ++ l2).length ≤ 9223372036854775807 ∧
 (([32] : Bs) ++ (([114] : Bs) ++ l2)).length + ([44, 32] : Bs).length ≤ 9223372036854775807 ∧
 ((([32] : Bs) ++ (([114] : Bs) ++ l2)) ++ ([44, 32] : Bs)).length + l5.length ≤ 9223372036854775807 ∧
 ([32] : Bs).length + (([114] : Bs) ++ l2).length ≤ 9223372036854775807 ∧
 (([32] : Bs) ++ (([114] : Bs) ++ l2)).length + ([44, 32] : Bs).length ≤ 9223372036854775807 ∧
 ((([32] : Bs) ++ (([114] : Bs) ++ l2)) ++ ([44, 32] : Bs)).length + (([114] : Bs) ++ l3).length ≤ 9223372036854775807 ∧
 (((([32] : Bs) ++ (([114] : Bs) ++ l2)) ++ ([44, 32] : Bs)) ++ (([114] : Bs) ++ l3)).length + ([44, 32] : Bs).length ≤ 9223372036854775807 ∧
 ((((([32] : Bs) ++ (([114] : Bs) ++ l2)) ++ ([44, 32] : Bs)) ++ (([114] : Bs) ++ l3)) ++ ([44, 32] : Bs)).length + l5.length ≤ 9223372036854775807 ∧
 ([32] : Bs).length + l5.length ≤ 9223372036854775807 ∧
 ∀ (b1 : Nat), h_6 b1 = none → ∀ (h_7 : PHeap), h_7 = h_6.put b1 (.cells ⟨[vS [], vS (([32] : Bs) ++ (([114] : Bs) ++ l2)), vS (((([32] : Bs) ++ (([114] : Bs) ++ l2)) ++ ([44, 32] : Bs)) ++ (([114] : Bs) ++ l3)), vS (((((([32] : Bs) ++ (([114] : Bs) ++ l2)) ++ ([44, 32] : Bs)) ++ (([114] : Bs) ++ l3)) ++ ([44, 32] : Bs)) ++ (([114] : Bs) ++ l4)), vS (((([32] : Bs) ++ (([114] : Bs) ++ l2)) ++ ([44, 32] : Bs)) ++ l5), vS (((((([32] : Bs) ++ (([114] : Bs) ++ l2)) ++ ([44, 32] : Bs)) ++ (([114] : Bs) ++ l3)) ++ ([44, 32] : Bs)) ++ l5), vS (([32] : Bs) ++ l5)]⟩ 9) →
 ∃ (b2 o1 : Nat), (ad b1 0) = some ⟨b2, o1, none⟩ ∧ (0 ≤ i5 ∧ i5 < (7 : Nat)) ∧
 ∃ (l6 : Bs), h_7.cell b2 (o1 + (i5).toNat * 1) = some (vS l6) ∧
 l1.length + l6.length ≤ 9223372036854775807 ∧
 Q (vS (l1 ++ l6)) h_7
theorem T34 {i1 : Int} {i2 : Int} {i3 : Int} {i4 : Int} {h : PHeap} {Q : Value → PHeap → Prop} (hR : R34 i1 i2 i3 i4 h Q) : Tri Tryz.prog 34 [vA [vI i1, vI i2, vI i3, vI i4]] h Q :=
 tri_of_dn mixed Tryz.func34 rfl (by kernel_rfl) low34 (rs := [.tmp 2]) (by kernel_rfl) rfl (Eq.mpr (by kernel_rfl : dnF Tryz.prog Tryz.f34.ntmps d34 [.tmp 2] [vA [vI i1, vI i2, vI i3, vI i4]] h Q = R34 i1 i2 i3 i4 h Q) hR)
noncomputable def d33 : DCode := up ⟨[(9, .l [qi]), (10, .c (.tup [(false, [qi]), (false, [qi])])), (17, .c (.one false [.bool])), (21, .l [qi]), (26, .c (.one false [.bool])), (30, .l [qi]), (36, .c (.one false [.bool])), (40, .l [qi]), (48, .l [qi]), (49, .c (.tup [(false, [qi]), (false, [qi]), (false, [qi])])), (54, .l [qi]), (58, .l [qi]), (63, .l [qi]), (68, .l [qi]), (73, .c (.one false [.bool])), (76, .l [qi]), (81, .l [qi])], [], []⟩ (low Tryz.prog (fun _ => false) (Tryz.f33.body.getD .skip))
theorem low33 : low Tryz.prog (fun _ => false) (Tryz.f33.body.getD .skip) = some (eC d33) := by kernel_rfl
def R33 (i1 : Int) (i2 : Int) (i3 : Int) (i4 : Int) (h : PHeap) (Q : Value → PHeap → Prop) : Prop :=
 Tri Tryz.prog 63 [vI i1] h fun v_1 h_1 =>
 ∃ (i5 i6 : Int), v_1 = vT [vI i5, vI i6] ∧
 br (i6 != 0)
 (Q (vI i6) h_1)
 (Tri Tryz.prog 64 [vI i5] h_1 fun v_2 h_2 =>
 ∃ (c1 : Bool), v_2 = vB c1 ∧
 br (!c1)
 (br (i2 != 0)
 (Q (vI 1) h_2)
 (Tri Tryz.prog 65 [vI i5] h_2 fun v_3 h_3 =>
 ∃ (c2 : Bool), v_3 = vB c2 ∧
 br (!c2)
 (br (i3 != 0)
 (Q (vI 1) h_3)
 (Tri Tryz.prog 66 [vI i5] h_3 fun v_4 h_4 =>
 ∃ (c3 : Bool), v_4 = vB c3 ∧
 br (!c3)
 (br (i4 != 0)
 (Q (vI 1) h_4)
 (br (decide (i5 ≥ 4))
 (Tri Tryz.prog 67 [vI i1] h_4 fun v_5 h_5 =>
 ∃ (i7 i8 i9 : Int), v_5 = vT [vI i7, vI i8, vI i9] ∧
 br (decide (i2 < 0))
 (Q (vI 2) h_5)
 (br (decide (i2 > 7))
 (Q (vI 2) h_5)
 (br (decide (i3 < 0))
 (Q (vI 2) h_5)
 (br (decide (i3 > 7))
 (Q (vI 2) h_5)
 (Tri Tryz.prog 66 [vI i5] h_5 fun v_6 h_6 =>
 ∃ (c4 : Bool), v_6 = vB c4 ∧
 br c4
 (br (decide (i4 < i7))
 (Q (vI 2) h_6)
 (br (decide (i4 > i8))
 (Q (vI 2) h_6)
 (Q (vI 0) h_6)))
 (Q (vI 0) h_6))))))
 (br (decide (i2 < 0))
 (Q (vI 2) h_4)
 (br (decide (i2 > 7))
 (Q (vI 2) h_4)
 (br (decide (i3 < 0))
 (Q (vI 2) h_4)
 (br (decide (i3 > 7))
 (Q (vI 2) h_4)
 (Tri Tryz.prog 66 [vI i5] h_4 fun v_7 h_7 =>
 ∃ (c5 : Bool), v_7 = vB c5 ∧
 br c5
 (br (decide (i4 < 0))
 (Q (vI 2) h_7)
 (br (decide (i4 > 7))
 (Q (vI 2) h_7)
 (Q (vI 0) h_7)))
 (Q (vI 0) h_7))))))))
 (br (decide (i5 ≥ 4))
 (Tri Tryz.prog 67 [vI i1] h_4 fun v_8 h_8 =>
 ∃ (i10 i11 i12 : Int), v_8 = vT [vI i10, vI i11, vI i12] ∧
 br (decide (i2 < 0))
 (Q (vI 2) h_8)
 (br (decide (i2 > 7))
 (Q (vI 2) h_8)
 (br (decide (i3 < 0))
 (Q (vI 2) h_8)
 (br (decide (i3 > 7))
 (Q (vI 2) h_8)
 (Tri Tryz.prog 66 [vI i5] h_8 fun v_9 h_9 =>
 ∃ (c6 : Bool), v_9 = vB c6 ∧
 br c6
 (br (decide (i4 < i10))
 (Q (vI 2) h_9)
 (br (decide (i4 > i11))
 (Q (vI 2) h_9)
 (Q (vI 0) h_9)))
 (Q (vI 0) h_9))))))
 (br (decide (i2 < 0))
 (Q (vI 2) h_4)
 (br (decide (i2 > 7))
 (Q (vI 2) h_4)
 (br (decide (i3 < 0))
 (Q (vI 2) h_4)
 (br (decide (i3 > 7))
 (Q (vI 2) h_4)
 (Tri Tryz.prog 66 [vI i5] h_4 fun v_10 h_10 =>
 ∃ (c7 : Bool), v_10 = vB c7 ∧
 br c7
 (br (decide (i4 < 0))
 (Q (vI 2) h_10)
 (br (decide (i4 > 7))
 (Q (vI 2) h_10)
 (Q (vI 0) h_10)))
 (Q (vI 0) h_10)))))))))
 (Tri Tryz.prog 66 [vI i5] h_3 fun v_11 h_11 =>
 ∃ (c8 : Bool), v_11 = vB c8 ∧
 br (!c8)
 (br (i4 != 0)
 (Q (vI 1) h_11)
 (br (decide (i5 ≥ 4))
 (Tri Tryz.prog 67 [vI i1] h_11 fun v_12 h_12 =>
 ∃ (i13 i14 i15 : Int), v_12 = vT [vI i13, vI i14, vI i15] ∧
 br (decide (i2 < 0))
 (Q (vI 2) h_12)
 (br (decide (i2 > 7))
 (Q (vI 2) h_12)
 (br (decide (i3 < 0))
 (Q (vI 2) h_12)
 (br (decide (i3 > 7))
 (Q (vI 2) h_12)
 (Tri Tryz.prog 66 [vI i5] h_12 fun v_13 h_13 =>
 ∃ (c9 : Bool), v_13 = vB c9 ∧
 br c9
 (br (decide (i4 < i13))
 (Q (vI 2) h_13)
 (br (decide (i4 > i14))
 (Q (vI 2) h_13)
 (Q (vI 0) h_13)))
 (Q (vI 0) h_13))))))
 (br (decide (i2 < 0))
 (Q (vI 2) h_11)
 (br (decide (i2 > 7))
 (Q (vI 2) h_11)
 (br (decide (i3 < 0))
 (Q (vI 2) h_11)
 (br (decide (i3 > 7))
 (Q (vI 2) h_11)
 (Tri Tryz.prog 66 [vI i5] h_11 fun v_14 h_14 =>
 ∃ (c10 : Bool), v_14 = vB c10 ∧
 br c10
 (br (decide (i4 < 0))
 (Q (vI 2) h_14)
 (br (decide (i4 > 7))
 (Q (vI 2) h_14)
 (Q (vI 0) h_14)))
 (Q (vI 0) h_14))))))))
 (br (decide (i5 ≥ 4))
 (Tri Tryz.prog 67 [vI i1] h_11 fun v_15 h_15 =>
 ∃ (i16 i17 i18 : Int), v_15 = vT [vI i16, vI i17, vI i18] ∧
 br (decide (i2 < 0))
 (Q (vI 2) h_15)
 (br (decide (i2 > 7))
 (Q (vI 2) h_15)
 (br (decide (i3 < 0))
 (Q (vI 2) h_15)
 (br (decide (i3 > 7))
 (Q (vI 2) h_15)
 (Tri Tryz.prog 66 [vI i5] h_15 fun v_16 h_16 =>
 ∃ (c11 : Bool), v_16 = vB c11 ∧
 br c11
 (br (decide (i4 < i16))
 (Q (vI 2) h_16)
 (br (decide (i4 > i17))
 (Q (vI 2) h_16)
 (Q (vI 0) h_16)))
 (Q (vI 0) h_16))))))
 (br (decide (i2 < 0))
 (Q (vI 2) h_11)
 (br (decide (i2 > 7))
 (Q (vI 2) h_11)
 (br (decide (i3 < 0))
 (Q (vI 2) h_11)
 (br (decide (i3 > 7))
 (Q (vI 2) h_11)
 (Tri Tryz.prog 66 [vI i5] h_11 fun v_17 h_17 =>
 ∃ (c12 : Bool), v_17 = vB c12 ∧
 br c12
 (br (decide (i4 < 0))
 (Q (vI 2) h_17)
 (br (decide (i4 > 7))
 (Q (vI 2) h_17)
 (Q (vI 0) h_17)))
 (Q (vI 0) h_17))))))))))
 (Tri Tryz.prog 65 [vI i5] h_2 fun v_18 h_18 =>
 ∃ (c13 : Bool), v_18 = vB c13 ∧
 br (!c13)
 (br (i3 != 0)
 (Q (vI 1) h_18)
 (Tri Tryz.prog 66 [vI i5] h_18 fun v_19 h_19 =>
 ∃ (c14 : Bool), v_19 = vB c14 ∧
 br (!c14)
 (br (i4 != 0)
 (Q (vI 1) h_19)
 (br (decide (i5 ≥ 4))
 (Tri Tryz.prog 67 [vI i1] h_19 fun v_20 h_20 =>
 ∃ (i19 i20 i21 : Int), v_20 = vT [vI i19, vI i20, vI i21] ∧
 br (decide (i2 < 0))
 (Q (vI 2) h_20)
 (br (decide (i2 > 7))
 (Q (vI 2) h_20)
 (br (decide (i3 < 0))
 (Q (vI 2) h_20)
 (br (decide (i3 > 7))
 (Q (vI 2) h_20)
 (Tri Tryz.prog 66 [vI i5] h_20 fun v_21 h_21 =>
 ∃ (c15 : Bool), v_21 = vB c15 ∧
 br c15
 (br (decide (i4 < i19))
 (Q (vI 2) h_21)
 (br (decide (i4 > i20))
 (Q (vI 2) h_21)
 (Q (vI 0) h_21)))
 (Q (vI 0) h_21))))))
 (br (decide (i2 < 0))
 (Q (vI 2) h_19)
 (br (decide (i2 > 7))
 (Q (vI 2) h_19)
 (br (decide (i3 < 0))
 (Q (vI 2) h_19)
 (br (decide (i3 > 7))
 (Q (vI 2) h_19)
 (Tri Tryz.prog 66 [vI i5] h_19 fun v_22 h_22 =>
 ∃ (c16 : Bool), v_22 = vB c16 ∧
 br c16
 (br (decide (i4 < 0))
 (Q (vI 2) h_22)
 (br (decide (i4 > 7))
 (Q (vI 2) h_22)
 (Q (vI 0) h_22)))
 (Q (vI 0) h_22))))))))
 (br (decide (i5 ≥ 4))
 (Tri Tryz.prog 67 [vI i1] h_19 fun v_23 h_23 =>
 ∃ (i22 i23 i24 : Int), v_23 = vT [vI i22, vI i23, vI i24] ∧
 br (decide (i2 < 0))
 (Q (vI 2) h_23)
 (br (decide (i2 > 7))
 (Q (vI 2) h_23)
 (br (decide (i3 < 0))
 (Q (vI 2) h_23)
 (br (decide (i3 > 7))
 (Q (vI 2) h_23)
 (Tri Tryz.prog 66 [vI i5] h_23 fun v_24 h_24 =>
 ∃ (c17 : Bool), v_24 = vB c17 ∧
 br c17
 (br (decide (i4 < i22))
 (Q (vI 2) h_24)
 (br (decide (i4 > i23))
 (Q (vI 2) h_24)
 (Q (vI 0) h_24)))
 (Q (vI 0) h_24))))))
 (br (decide (i2 < 0))
 (Q (vI 2) h_19)
 (br (decide (i2 > 7))
 (Q (vI 2) h_19)
 (br (decide (i3 < 0))
 (Q (vI 2) h_19)
 (br (decide (i3 > 7))
 (Q (vI 2) h_19)
 (Tri Tryz.prog 66 [vI i5] h_19 fun v_25 h_25 =>
 ∃ (c18 : Bool), v_25 = vB c18 ∧
 br c18
 (br (decide (i4 < 0))
 (Q (vI 2) h_25)
 (br (decide (i4 > 7))
 (Q (vI 2) h_25)
 (Q (vI 0) h_25)))
 (Q (vI 0) h_25)))))))))
 (Tri Tryz.prog 66 [vI i5] h_18 fun v_26 h_26 =>
 ∃ (c19 : Bool), v_26 = vB c19 ∧
 br (!c19)
 (br (i4 != 0)
 (Q (vI 1) h_26)
 (br (decide (i5 ≥ 4))
 (Tri Tryz.prog 67 [vI i1] h_26 fun v_27 h_27 =>
 ∃ (i25 i26 i27 : Int), v_27 = vT [vI i25, vI i26, vI i27] ∧
 br (decide (i2 < 0))
 (Q (vI 2) h_27)
 (br (decide (i2 > 7))
 (Q (vI 2) h_27)
 (br (decide (i3 < 0))
 (Q (vI 2) h_27)
 (br (decide (i3 > 7))
 (Q (vI 2) h_27)
 (Tri Tryz.prog 66 [vI i5] h_27 fun v_28 h_28 =>
 ∃ (c20 : Bool), v_28 = vB c20 ∧
 br c20
 (br (decide (i4 < i25))
 (Q (vI 2) h_28)
 (br (decide (i4 > i26))
 (Q (vI 2) h_28)
 (Q (vI 0) h_28)))
 (Q (vI 0) h_28))))))
 (br (decide (i2 < 0))
 (Q (vI 2) h_26)
 (br (decide (i2 > 7))
 (Q (vI 2) h_26)
 (br (decide (i3 < 0))
 (Q (vI 2) h_26)
 (br (decide (i3 > 7))
 (Q (vI 2) h_26)
 (Tri Tryz.prog 66 [vI i5] h_26 fun v_29 h_29 =>
 ∃ (c21 : Bool), v_29 = vB c21 ∧
 br c21
 (br (decide (i4 < 0))
 (Q (vI 2) h_29)
 (br (decide (i4 > 7))
 (Q (vI 2) h_29)
 (Q (vI 0) h_29)))
 (Q (vI 0) h_29))))))))
 (br (decide (i5 ≥ 4))
 (Tri Tryz.prog 67 [vI i1] h_26 fun v_30 h_30 =>
 ∃ (i28 i29 i30 : Int), v_30 = vT [vI i28, vI i29, vI i30] ∧
 br (decide (i2 < 0))
 (Q (vI 2) h_30)
 (br (decide (i2 > 7))
 (Q (vI 2) h_30)
 (br (decide (i3 < 0))
 (Q (vI 2) h_30)
 (br (decide (i3 > 7))
 (Q (vI 2) h_30)
 (Tri Tryz.prog 66 [vI i5] h_30 fun v_31 h_31 =>
 ∃ (c22 : Bool), v_31 = vB c22 ∧
 br c22
 (br (decide (i4 < i28))
 (Q (vI 2) h_31)
 (br (decide (i4 > i29))
 (Q (vI 2) h_31)
 (Q (vI 0) h_31)))
 (Q (vI 0) h_31))))))
 (br (decide (i2 < 0))
 (Q (vI 2) h_26)
 (br (decide (i2 > 7))
 (Q (vI 2) h_26)
 (br (decide (i3 < 0))
 (Q (vI 2) h_26)
 (br (decide (i3 > 7))
 (Q (vI 2) h_26)
 (Tri Tryz.prog 66 [vI i5] h_26 fun v_32 h_32 =>
 ∃ (c23 : Bool), v_32 = vB c23 ∧
 br c23
 (br (decide (i4 < 0))
 (Q (vI 2) h_32)
 (br (decide (i4 > 7))
 (Q (vI 2) h_32)
 (Q (vI 0) h_32)))
 (Q (vI 0) h_32))))))))))
theorem T33 {i1 : Int} {i2 : Int} {i3 : Int} {i4 : Int} {h : PHeap} {Q : Value → PHeap → Prop} (hR : R33 i1 i2 i3 i4 h Q) : Tri Tryz.prog 33 [vA [vI i1, vI i2, vI i3, vI i4]] h Q :=
 tri_of_dn mixed Tryz.func33 rfl (by kernel_rfl) low33 (rs := [.tmp 2]) (by kernel_rfl) rfl (Eq.mpr (by kernel_rfl : dnF Tryz.prog Tryz.f33.ntmps d33 [.tmp 2] [vA [vI i1, vI i2, vI i3, vI i4]] h Q = R33 i1 i2 i3 i4 h Q) hR)
abbrev o10_10 : Op := .binOp .eql 58 (.tmp 59) (.tmp 60) 58
noncomputable def d10 : DCode := up ⟨[(10, .l [qi]), (12, .l [qi]), (14, .l [qi]), (16, .l [qi]), (19, .l enk1), (20, .c (.tup [(false, [.str]), (false, [qi])])), (23, .c (.one false [.bool])), (27, .l enk1), (28, .c (.one false [qi])), (37, .c (.tup [(true, enk2), (false, [qi]), (false, [qi])])), (42, .l enk1), (43, .c (.one false [.str])), (51, .l [.slice]), (57, .l [.slice]), (59, .l enk1), (60, .l enk1), (61, .c (.one false [.bool]))], [], []⟩ (low Tryz.prog (fun _ => false) (Tryz.f10.body.getD .skip))
theorem low10 : low Tryz.prog (fun _ => false) (Tryz.f10.body.getD .skip) = some (eC d10) := by kernel_rfl
def R10 (i1 : Int) (i2 : Int) (i3 : Int) (i4 : Int) (h : PHeap) (Q : Value → PHeap → Prop) : Prop :=
 Tri Tryz.prog 32 [vA [vI i1, vI i2, vI i3, vI i4]] h fun v_1 h_1 =>
 ∃ (l1 : Bs) (i5 : Int), v_1 = vT [vS l1, vI i5] ∧
 Tri Tryz.prog 15 [] h_1 fun v_2 h_2 =>
 ∃ (c1 : Bool), v_2 = vB c1 ∧
 br (!c1)
 (Q (vB false) h_2)
 (Tri Tryz.prog 33 [vA [vI i1, vI i2, vI i3, vI i4]] h_2 fun v_3 h_3 =>
 ∃ (i6 : Int), v_3 = vI i6 ∧
 br (i5 != i6)
 (Q (vB false) h_3)
 (br (i5 != 0)
 (Q (vB (l1 == [])) h_3)
 (Tri Tryz.prog 13 [vS l1] h_3 fun v_4 h_4 =>
 ∃ (a1 : OA) (n1 enk1 : Nat) (l2 : Bs) (i7 i8 : Int) (a2 : OA) (n2 enk2 : Nat) (i9 i10 : Int), v_4 = vT [vA [vL a1 n1 enk1, vS l2, vI i7, vI i8, vL a2 n2 enk2], vI i9, vI i10] ∧
 Tri Tryz.prog 34 [vA [vI i1, vI i2, vI i3, vI i4]] h_4 fun v_5 h_5 =>
 ∃ (l3 : Bs), v_5 = vS l3 ∧
 br (l1 == l3)
 (br (i10 == 0)
 (br (((n1 : Nat) : Int) == 1)
 (∃ (b1 o1 : Nat), a1 = some ⟨b1, o1, none⟩ ∧ (0 ≤ (0 : Int) ∧ (0 : Int) < n1) ∧
 ∃ (i11 i12 i13 i14 : Int), h_5.row b1 o1 [vI i11, vI i12, vI i13, vI i14] ∧
 ∃ (c2 : Bool), PureRun Tryz.prog (execOp (rho [(59, vA [vI i11, vI i12, vI i13, vI i14]), (60, vA [vI i1, vI i2, vI i3, vI i4])]) (mkO o10_10 4)) (vB c2) ∧
 Q (vB c2) h_5)
 (Q (vB false) h_5))
 (Q (vB false) h_5))
 (Q (vB false) h_5))))
theorem T10 {i1 : Int} {i2 : Int} {i3 : Int} {i4 : Int} {h : PHeap} {Q : Value → PHeap → Prop} (hR : R10 i1 i2 i3 i4 h Q) : Tri Tryz.prog 10 [vA [vI i1, vI i2, vI i3, vI i4]] h Q :=
 tri_of_dn mixed Tryz.func10 rfl (by kernel_rfl) low10 (rs := [.tmp 2]) (by kernel_rfl) rfl (Eq.mpr (by kernel_rfl : dnF Tryz.prog Tryz.f10.ntmps d10 [.tmp 2] [vA [vI i1, vI i2, vI i3, vI i4]] h Q = R10 i1 i2 i3 i4 h Q) hR)
end Go.Proofs.D
namespace Go.As
theorem decDigits_eq (n : Nat) : Lib.decDigits n = digs n := by
 induction n using Nat.strongRecOn with
 | ind n ih =>
   rw [Lib.decDigits, digs]
   split
   · rfl
   · rw [ih (n / 10) (by omega)]
theorem join_cons2 (x y : Bytes) (l : List Bytes) : Lib.join (x :: y :: l) [44, 32] = x ++ ([44, 32] ++ Lib.join (y :: l) [44, 32]) := by
 rw [Lib.join_cons, Lib.join_cons]
 unfold Lib.joinTail
 rw [List.map_cons, List.flatten_cons, List.append_assoc]
theorem join_comma : ∀ (l : List Bytes), Lib.join l [44, 32] = commaT l
 | [] => rfl
 | [x] => by rw [Lib.join_cons]; simp [Lib.joinTail, commaT]
 | x :: y :: l => by rw [join_cons2, join_comma (y :: l)]; rfl
end Go.As
namespace Go.Proofs.D
open Go Go.Den Go.As Go.Shelf
set_option maxRecDepth 100000
def layI_ren : Go.Shelf.Ren := ⟨fun | 171 => 60 | 243 => 103 | 246 => 138 | 283 => 156 | 284 => 157 | 285 => 158 | 286 => 159 | 129 => 130 | 317 => 174 | 318 => 175 | 319 => 176 | 320 => 177 | 337 => 184 | 338 => 185 | n => n, fun | 3 => 3 | 9 => 9 | 2 => 2 | 4 => 4 | 171 => 200 | 0 => 0 | 53 => 178 | 37 => 40 | 5 => 5 | 173 => 202 | 212 => 217 | 51 => 161 | 20 => 20 | 213 => 218 | 46 => 98 | 232 => 233 | 233 => 234 | n => n, fun | 17 => 2 | 18 => 5 | 19 => 6 | n => n⟩
theorem layI : Go.Proofs.LaysM.n171 Tryz.prog layI_ren where
 mixed := by kernel_rfl
 f129 := Tryz.func130.trans (congrArg some (by kernel_rfl))
 f171 := Tryz.func60.trans (congrArg some (by kernel_rfl))
 f243 := Tryz.func103.trans (congrArg some (by kernel_rfl))
 f246 := Tryz.func138.trans (congrArg some (by kernel_rfl))
 f283 := Tryz.func156.trans (congrArg some (by kernel_rfl))
 f284 := Tryz.func157.trans (congrArg some (by kernel_rfl))
 f285 := Tryz.func158.trans (congrArg some (by kernel_rfl))
 f286 := Tryz.func159.trans (congrArg some (by kernel_rfl))
 f317 := Tryz.func174.trans (congrArg some (by kernel_rfl))
 f318 := Tryz.func175.trans (congrArg some (by kernel_rfl))
 f319 := Tryz.func176.trans (congrArg some (by kernel_rfl))
 f320 := Tryz.func177.trans (congrArg some (by kernel_rfl))
 f337 := Tryz.func184.trans (congrArg some (by kernel_rfl))
 f338 := Tryz.func185.trans (congrArg some (by kernel_rfl))
 t0 := Tryz.underlying0
 a0 := Tryz.isAgg0
 z0 := Tryz.sizeOf0
 v0 := Tryz.zeroValue0
 t2 := Tryz.underlying2
 a2 := Tryz.isAgg2
 z2 := Tryz.sizeOf2
 v2 := Tryz.zeroValue2
 t3 := Tryz.underlying3
 a3 := Tryz.isAgg3
 z3 := Tryz.sizeOf3
 v3 := Tryz.zeroValue3
 t4 := Tryz.underlying4
 a4 := Tryz.isAgg4
 z4 := Tryz.sizeOf4
 v4 := Tryz.zeroValue4
 t5 := Tryz.underlying5
 a5 := Tryz.isAgg5
 z5 := Tryz.sizeOf5
 v5 := Tryz.zeroValue5
 t9 := Tryz.underlying9
 a9 := Tryz.isAgg9
 z9 := Tryz.sizeOf9
 v9 := Tryz.zeroValue9
 t20 := Tryz.underlying20
 a20 := Tryz.isAgg20
 z20 := Tryz.sizeOf20
 v20 := Tryz.zeroValue20
 t37 := Tryz.underlying40
 a37 := Tryz.isAgg40
 z37 := Tryz.sizeOf40
 v37 := Tryz.zeroValue40
 t46 := Tryz.underlying98
 a46 := Tryz.isAgg98
 z46 := Tryz.sizeOf98
 v46 := Tryz.zeroValue98
 t51 := Tryz.underlying161
 a51 := Tryz.isAgg161
 z51 := Tryz.sizeOf161
 v51 := Tryz.zeroValue161
 t53 := Tryz.underlying178
 a53 := Tryz.isAgg178
 z53 := Tryz.sizeOf178
 v53 := Tryz.zeroValue178
 t171 := Tryz.underlying200
 a171 := Tryz.isAgg200
 z171 := Tryz.sizeOf200
 v171 := Tryz.zeroValue200
 t173 := Tryz.underlying202
 a173 := Tryz.isAgg202
 z173 := Tryz.sizeOf202
 v173 := Tryz.zeroValue202
 t212 := Tryz.underlying217
 a212 := Tryz.isAgg217
 z212 := Tryz.sizeOf217
 v212 := Tryz.zeroValue217
 t213 := Tryz.underlying218
 a213 := Tryz.isAgg218
 z213 := Tryz.sizeOf218
 t232 := Tryz.underlying233
 a232 := Tryz.isAgg233
 z232 := Tryz.sizeOf233
 v232 := Tryz.zeroValue233
 t233 := Tryz.underlying234
 a233 := Tryz.isAgg234
 z233 := Tryz.sizeOf234
 v233 := Tryz.zeroValue234
 g17 := by kernel_rfl
 g18 := by kernel_rfl
 g19 := by kernel_rfl
 i0 := by kernel_rfl
 i2 := by kernel_rfl
 i3 := by kernel_rfl
 i4 := by kernel_rfl
 i5 := by kernel_rfl
 i9 := by kernel_rfl
 i20 := by kernel_rfl
 i37 := by kernel_rfl
 i46 := by kernel_rfl
 i51 := by kernel_rfl
 i53 := by kernel_rfl
 i171 := by kernel_rfl
 i173 := by kernel_rfl
 i212 := by kernel_rfl
 i232 := by kernel_rfl
 i233 := by kernel_rfl
 m17 := by kernel_rfl
 m18 := by kernel_rfl
 m19 := by kernel_rfl
def layJ_ren : Go.Shelf.Ren := ⟨fun | 156 => 62 | 165 => 104 | 166 => 105 | 169 => 74 | 240 => 139 | 241 => 140 | 276 => 160 | 277 => 161 | n => n, fun | 31 => 52 | 9 => 9 | 3 => 3 | 4 => 4 | 0 => 0 | 20 => 20 | 72 => 112 | 76 => 153 | 70 => 110 | 37 => 40 | 75 => 152 | 127 => 158 | 164 => 204 | 5 => 5 | 80 => 117 | n => n, fun | n => n⟩
theorem layJ : Go.Proofs.Lays.n156 Tryz.prog layJ_ren where
 mixed := by kernel_rfl
 f156 := Tryz.func62.trans (congrArg some (by kernel_rfl))
 f165 := Tryz.func104.trans (congrArg some (by kernel_rfl))
 f166 := Tryz.func105.trans (congrArg some (by kernel_rfl))
 f169 := Tryz.func74.trans (congrArg some (by kernel_rfl))
 f240 := Tryz.func139.trans (congrArg some (by kernel_rfl))
 f241 := Tryz.func140.trans (congrArg some (by kernel_rfl))
 f276 := Tryz.func160.trans (congrArg some (by kernel_rfl))
 f277 := Tryz.func161.trans (congrArg some (by kernel_rfl))
 t0 := Tryz.underlying0
 a0 := Tryz.isAgg0
 z0 := Tryz.sizeOf0
 v0 := Tryz.zeroValue0
 t3 := Tryz.underlying3
 a3 := Tryz.isAgg3
 z3 := Tryz.sizeOf3
 v3 := Tryz.zeroValue3
 t4 := Tryz.underlying4
 a4 := Tryz.isAgg4
 z4 := Tryz.sizeOf4
 v4 := Tryz.zeroValue4
 t9 := Tryz.underlying9
 a9 := Tryz.isAgg9
 z9 := Tryz.sizeOf9
 v9 := Tryz.zeroValue9
 t20 := Tryz.underlying20
 a20 := Tryz.isAgg20
 z20 := Tryz.sizeOf20
 v20 := Tryz.zeroValue20
 t31 := Tryz.underlying52
 a31 := Tryz.isAgg52
 z31 := Tryz.sizeOf52
 v31 := Tryz.zeroValue52
 t37 := Tryz.underlying40
 a37 := Tryz.isAgg40
 z37 := Tryz.sizeOf40
 v37 := Tryz.zeroValue40
 t70 := Tryz.underlying110
 a70 := Tryz.isAgg110
 z70 := Tryz.sizeOf110
 v70 := Tryz.zeroValue110
 t72 := Tryz.underlying112
 a72 := Tryz.isAgg112
 z72 := Tryz.sizeOf112
 v72 := Tryz.zeroValue112
 t75 := Tryz.underlying152
 a75 := Tryz.isAgg152
 z75 := Tryz.sizeOf152
 v75 := Tryz.zeroValue152
 t76 := Tryz.underlying153
 a76 := Tryz.isAgg153
 z76 := Tryz.sizeOf153
 v76 := Tryz.zeroValue153
 t127 := Tryz.underlying158
 a127 := Tryz.isAgg158
 z127 := Tryz.sizeOf158
 v127 := Tryz.zeroValue158
 t164 := Tryz.underlying204
 a164 := Tryz.isAgg204
 z164 := Tryz.sizeOf204
 v164 := Tryz.zeroValue204
theorem exJ : Go.Proofs.Builder.Extra Tryz.prog layJ_ren where
 sizeBuilder := by kernel_rfl
 liesBuilder := by kernel_rfl
 t5 := Tryz.underlying5
 a5 := Tryz.isAgg5
 z5 := Tryz.sizeOf5
 v5 := Tryz.zeroValue5
 infoByte := by kernel_rfl
 cellsByte := by kernel_rfl
 sizeByte := by kernel_rfl
 neB5 := by decide
theorem tri_below {f : FuncId} {fn : Func} {c : Code} {args : List Value} {h : PHeap} {Q : Value → Prop} (hf : Tryz.prog.funcs[f]? = some fn) (hname : (fn.name == "runtime.NumGoroutine") = false) (hb : fn.body = some c)
 (H : ∀ w, Sub w h → Calls Tryz.prog f args.toArray w fun e w' => ∃ v, e = .returned v ∧ Q v ∧ RowKit.Below w.heap.size w w') : Tri Tryz.prog f args h fun v h' => Q v ∧ h' = h := by
 refine tri_calls hf hname hb fun w hs => Calls.mono (H w hs) ?_
 rintro e w' ⟨v, rfl, hq, hb⟩
 refine ⟨v, h, rfl, ⟨hq, rfl⟩, fun k o hk => ?_, hb.os, hb.tape, hb.output, hb.size, fun k hk hn => ⟨hn, hb.block k hk⟩⟩
 have := hs k o hk
 rw [hb.block k (Array.getElem?_eq_some_iff.1 this).1]
 exact this
def PowTab (h : PHeap) : Prop := ∃ t z, h 2 = some (.cells ⟨Lib.pow10Tab.map fun z => Value.int .u64 z⟩ t z)
theorem PowTab.ext {h h' : PHeap} (x : Ext h h') (hp : PowTab h) : PowTab h' := by
 obtain ⟨t, z, hp⟩ := hp
 exact ⟨t, z, x _ _ hp⟩
theorem itoa_t (v : Int) (h1 : -9000000000000000000 ≤ v) (h2 : v ≤ 9000000000000000000) {h : PHeap} (hp : PowTab h) : Tri Tryz.prog 60 [vI v] h fun r h' => r = vS (decI v) ∧ h' = h := by
 refine tri_below Tryz.func60 (by kernel_rfl) rfl fun w hs => ?_
 obtain ⟨t, z, hp⟩ := hp
 have htab : Lib.TabIs Tryz.prog w "internal/strconv.uint64pow10" .u64 Lib.pow10Tab := by
  unfold Lib.TabIs World.var?
  rw [show Tryz.prog.globalNamed "internal/strconv.uint64pow10" = some 2 by kernel_rfl]
  simp only [Option.bind_some]
  rw [hs _ _ hp]
 refine Calls.mono (Any.strconv_Itoa layI v (by omega) (by omega) w htab) ?_
 rintro e w' ⟨rfl, k, os, rfl⟩
 refine ⟨_, rfl, ?_, Lib.below_grow _ w (Nat.le_refl _) k os⟩
 have : Lib.itoa v = decI v := by
  unfold Lib.itoa decI
  split
  · rw [decDigits_eq]
  · rw [decDigits_eq]
 rw [this]
theorem join_t {h : PHeap} {b : Nat} {L : List Bytes} {c : Nat} (hc2 : ∀ j l, L[j]? = some l → h.cell b j = some (vS l)) (hb : h b ≠ none) (hc : L.length ≤ c) (hN : L.length ≤ 1000) (hl : (commaT L).length ≤ 100000) :
 Tri Tryz.prog 62 [vL (ad b 0) L.length c, vS [44, 32]] h fun r h' => r = vS (commaT L) ∧ h' = h := by
 refine tri_below Tryz.func62 (by kernel_rfl) rfl fun w hsub => ?_
 have hmap : (L.map fun l => (⟨⟨l⟩⟩ : ByteArray)).map (fun x => x.data.toList) = L := by
  rw [List.map_map]
  exact List.map_id'' (fun _ => rfl) L
 have hbl : b < w.heap.size := by
  cases hh : h b with
  | none => exact absurd hh hb
  | some ob => exact (Array.getElem?_eq_some_iff.1 (hsub _ _ hh)).1
 have := Any.strings_Join layJ exJ b 0 c (L.map fun l => (⟨⟨l⟩⟩ : ByteArray)) ⟨⟨[44, 32]⟩⟩ w (fun j x hj => by
  rw [List.getElem?_map] at hj
  cases hL : L[j]? with
  | none => rw [hL] at hj; cases hj
  | some l =>
    rw [hL] at hj
    have hj : (⟨⟨l⟩⟩ : ByteArray) = x := by simpa using hj
    subst hj
    rw [Nat.zero_add]
    exact hsub.cell (hc2 j l hL)) hbl (by rw [List.length_map]; omega) (by rw [List.length_map]; exact hc) (by rw [hmap]; show (Lib.join L [44, 32]).length ≤ _; rw [join_comma]; omega)
 rw [hmap, List.length_map] at this
 refine Calls.mono this ?_
 rintro e w' ⟨rfl, hbe⟩
 refine ⟨_, rfl, ?_, hbe⟩
 show vS (Lib.join L [44, 32]) = vS (commaT L)
 rw [join_comma]
attribute [local irreducible] IntKind.wrap Tri
theorem regT_len {n : Int} (h : 0 ≤ n ∧ n ≤ 7) : (decI n).length ≤ 11 := decI_len (by omega) (by omega)
section
variable {h : PHeap}
def lineV (x : Ins) : Value := if checkI x ≠ 0 then vT [vS [], vI (checkI x : Int)] else vT [vS (lineT x), vI 0]
theorem line32_t (hO : OpTab h) (hP : PowTab h) (x : Ins) : Tri Tryz.prog 32 [vA (insC x)] h fun v h' => v = lineV x ∧ Ext h h' := by
 refine T32 ?_
 unfold R32
 refine Tri.mono (icheck_t h hO x) ?_
 rintro _ h1 ⟨rfl, rfl⟩
 refine ⟨_, rfl, br_split (fun e => ?_) fun e => ?_⟩
 · have e : checkI x ≠ 0 := by simpa using e
   unfold lineV; rw [if_pos e]; exact ⟨rfl, Ext.refl _⟩
 have e : checkI x = 0 := by simpa using e
 have hok := ins_ok e
 have hlv : lineV x = vT [vS (lineT x), vI 0] := by unfold lineV; rw [if_neg (by simp [e])]
 rw [hlv]
 have hll := line_len e
 obtain ⟨op, xa, xb, xc⟩ := x
 obtain ⟨k, hk⟩ : ∃ k : Nat, op = (k : Int) := ⟨op.toNat, by have := hok.op; simp only at this; omega⟩
 subst hk
 have hk27 : k < 27 := by have := hok.op; simp only at this; omega
 have ha := hok.a
 have hb := hok.b
 have hc : -100000 ≤ xc ∧ xc ≤ 100000 := by
  have h3 := hok.c3
  have h4 := hok.c4
  have h0 := hok.c0
  have hlim := limits_small k
  simp only [Int.toNat_natCast] at h3 h4 h0
  by_cases f3 : form k = 3
  · have := h3 f3; omega
  by_cases f4 : 4 ≤ form k
  · have := h4 f4; omega
  · have : xc = 0 := h0 (by unfold hasC; have := form_le k; simp; omega)
    omega
 simp only at ha hb
 have la := regT_len ha
 have lb := regT_len hb
 have lc : (decI xc).length ≤ 11 := decI_len (by omega) (by omega)
 refine Tri.mono (form_t h1 hO hk27) ?_
 rintro _ h1 ⟨rfl, rfl⟩
 refine ⟨_, _, rfl, ?_⟩
 refine Tri.mono (itoa_t xa (by omega) (by omega) hP) ?_
 rintro _ h1 ⟨rfl, rfl⟩
 refine ⟨_, rfl, rfl, rfl, by rw [List.length_singleton]; omega, ?_⟩
 refine Tri.mono (itoa_t xb (by omega) (by omega) hP) ?_
 rintro _ h1 ⟨rfl, rfl⟩
 refine ⟨_, rfl, rfl, by rw [List.length_singleton]; omega, ?_⟩
 refine Tri.mono (itoa_t xc (by omega) (by omega) hP) ?_
 rintro _ h1 ⟨rfl, rfl⟩
 refine ⟨_, rfl, ?_⟩
 have hlt : lineT ⟨(k : Int), xa, xb, xc⟩ = stmtT (wordT k) (operT ⟨(k : Int), xa, xb, xc⟩) := by unfold lineT; rw [Int.toNat_natCast]
 have wl : (wordT k).length ≤ 6 := (word_all ⟨k, hk27⟩).2.2.2
 have go : ∀ (L : List Bytes) (b1 : Nat) (h6 : PHeap), operT ⟨(k : Int), xa, xb, xc⟩ = L → L ≠ [] → L.length ≤ 3 → h1 b1 = none → h6 = h1.put b1 (.cells ⟨L.map vS⟩ 9 (0, 0)) →
  Tri Tryz.prog 61 [vI (k : Int)] h6 fun v_6 h_7 =>
  ∃ (l4 : Bs), v_6 = vS l4 ∧
  l4.length + ([32] : Bs).length ≤ 9223372036854775807 ∧
  Tri Tryz.prog 62 [vL (ad b1 0) L.length L.length, vS [44, 32]] h_7 fun v_7 h_8 =>
  ∃ (l5 : Bs), v_7 = vS l5 ∧
  (l4 ++ ([32] : Bs)).length + l5.length ≤ 9223372036854775807 ∧
  (vT [vS ((l4 ++ ([32] : Bs)) ++ l5), vI 0] = vT [vS (lineT ⟨(k : Int), xa, xb, xc⟩), vI 0] ∧ Ext h1 h_8) := fun L b1 h6 hL hne hL3 hb1 hh6 => by
  have x6 := Put.ext hh6 hb1
  refine Tri.mono (opword_t h6 (hO.ext x6) hk27) ?_
  rintro _ h7 ⟨rfl, rfl⟩
  refine ⟨_, rfl, by rw [List.length_singleton]; omega, ?_⟩
  have hst : lineT ⟨(k : Int), xa, xb, xc⟩ = wordT k ++ 32 :: commaT L := by
   rw [hlt, hL]
   unfold stmtT
   rw [if_neg (by simpa using hne)]
  have hcl : (commaT L).length ≤ 49 := by
   rw [hst] at hll
   simp only [List.length_append, List.length_cons] at hll; omega
  refine Tri.mono (join_t (b := b1) (L := L) (c := L.length) (fun j l hj => ?_) (by rw [Put.at hh6]; exact fun e => by cases e) (Nat.le_refl _) (by omega) (by omega)) ?_
  · rw [cell_of (Put.at hh6), List.getElem?_map, hj]; rfl
  rintro _ h8 ⟨rfl, rfl⟩
  refine ⟨_, rfl, by rw [List.length_append, List.length_singleton]; omega, ?_, x6⟩
  rw [hst, List.append_assoc]; rfl
 have hop : ∀ n : Nat, form k = n → operT ⟨(k : Int), xa, xb, xc⟩ = match n with
  | 0 => []
  | 1 => [regT xa]
  | 2 => [regT xa, regT xb]
  | 3 => [regT xa, regT xb, regT xc]
  | 4 => [regT xa, decI xc]
  | 5 => [regT xa, regT xb, decI xc]
  | _ => [decI xc] := fun n hn => by
  subst hn
  unfold operT
  rw [Int.toNat_natCast]
  have f6 := form_le k
  generalize form k = f at f6 ⊢
  match f, f6 with
  | 0, _ => rfl
  | 1, _ => rfl
  | 2, _ => rfl
  | 3, _ => rfl
  | 4, _ => rfl
  | 5, _ => rfl
  | 6, _ => rfl
  | n + 7, h => omega
 have f6 := form_le k
 generalize form k = f at *
 have is : ∀ (n : Nat) (b : Bool), (((f : Nat) : Int) == (n : Int)) = b → (f = n ↔ b = true) := fun n b hb => by
  rw [← hb]; simp; omega
 refine br_split (fun e1 => ?_) fun e1 => br_split (fun e2 => ?_) fun e2 => br_split (fun e3 => ?_) fun e3 => br_split (fun e4 => ?_) fun e4 => br_split (fun e5 => ?_) fun e5 => br_split (fun e6 => ?_) fun e6 => ?_
 · intro b1 hb1 h6 hh6
   exact go [regT xa] b1 h6 (hop 1 ((is 1 _ e1).2 rfl)) (by simp) (by simp) hb1 hh6
 · intro b1 hb1 h6 hh6
   exact go [regT xa, regT xb] b1 h6 (hop 2 ((is 2 _ e2).2 rfl)) (by simp) (by simp) hb1 hh6
 · refine ⟨by rw [List.length_singleton]; omega, ?_⟩
   intro b1 hb1 h6 hh6
   exact go [regT xa, regT xb, regT xc] b1 h6 (hop 3 ((is 3 _ e3).2 rfl)) (by simp) (by simp) hb1 hh6
 · intro b1 hb1 h6 hh6
   exact go [regT xa, decI xc] b1 h6 (hop 4 ((is 4 _ e4).2 rfl)) (by simp) (by simp) hb1 hh6
 · intro b1 hb1 h6 hh6
   exact go [regT xa, regT xb, decI xc] b1 h6 (hop 5 ((is 5 _ e5).2 rfl)) (by simp) (by simp) hb1 hh6
 · intro b1 hb1 h6 hh6
   exact go [decI xc] b1 h6 (hop 6 ((is 6 _ e6).2 rfl)) (by simp) (by simp) hb1 hh6
 · have hf0 : f = 0 := by
    have n1 : f ≠ 1 := fun hh => by have := (is 1 _ e1).1 hh; cases this
    have n2 : f ≠ 2 := fun hh => by have := (is 2 _ e2).1 hh; cases this
    have n3 : f ≠ 3 := fun hh => by have := (is 3 _ e3).1 hh; cases this
    have n4 : f ≠ 4 := fun hh => by have := (is 4 _ e4).1 hh; cases this
    have n5 : f ≠ 5 := fun hh => by have := (is 5 _ e5).1 hh; cases this
    have n6 : f ≠ 6 := fun hh => by have := (is 6 _ e6).1 hh; cases this
    omega
   refine Tri.mono (opword_t h1 hO hk27) ?_
   rintro _ h7 ⟨rfl, rfl⟩
   refine ⟨_, rfl, ?_, Ext.refl _⟩
   rw [hlt, hop 0 hf0]; rfl
end
end Go.Proofs.D
namespace Go.Proofs.D
open Go Go.Den
set_option maxRecDepth 100000
set_option maxHeartbeats 4000000
abbrev elk1 : List CK := [.slice, .str, qi, qi, .slice]
abbrev o4_3 : Op := .makeSlice 40 (.tmp 20) (.tmp 20)
noncomputable def d4 : DCode := up ⟨[(14, .c (.one false [.bool])), (21, .c (.one false [.slice])), (35, .c (.tup [(true, elk1), (false, [qi]), (false, [qi])])), (62, .c (.one false [.str])), (64, .c (.tup [(true, elk1), (false, [qi]), (false, [qi])])), (90, .l [qi]), (96, .l [.str])], [30], [(22, 10, [(7, qi)], [])]⟩ (low Tryz.prog (fun _ => false) (Tryz.f4.body.getD .skip))
theorem low4 : low Tryz.prog (fun _ => false) (Tryz.f4.body.getD .skip) = some (eC d4) := by kernel_rfl
def R4 (i1 : Int) (i2 : Int) (h : PHeap) (Q : Value → PHeap → Prop) : Prop :=
 Tri Tryz.prog 15 [] h fun v_1 h_1 =>
 ∃ (c1 : Bool), v_1 = vB c1 ∧
 br (!c1)
 (Q (vB false) h_1)
 (Raw Tryz.prog (execOp (rho [(20, vI (IntKind.i64.wrap (65531 + (IntKind.i64.wrap ((Int.tmod i1 4)))))), (20, vI (IntKind.i64.wrap (65531 + (IntKind.i64.wrap ((Int.tmod i1 4))))))]) (mkO o4_3 40)) h_1 fun v_2 h_2 =>
 ∃ (a1 : OA) (n1 elk1 : Nat), v_2 = vL a1 n1 elk1 ∧
 ∃ (I_1 : Nat → Int → PHeap → Prop), (∃ (m2 : Nat), I_1 m2 (0 : Int) h_2) ∧
 ∀ (m1 : Nat) (i3 : Int) (h_3 : PHeap), I_1 m1 i3 h_3 →
 br (decide (i3 < ((n1 : Nat) : Int)))
 (∃ (b1 o1 : Nat), a1 = some ⟨b1, o1, none⟩ ∧ (0 ≤ i3 ∧ i3 < n1) ∧
 ∃ (l1 : List Value) (t1 : TypeId) (z1 : Nat × Nat), h_3 b1 = some (.cells ⟨l1⟩ t1 z1) ∧ ((o1 + (i3).toNat * 1) + 1 ≤ l1.length ∧ z1.2 ≤ (o1 + (i3).toNat * 1)) ∧
 ∀ (h_4 : PHeap), h_4 = h_3.put b1 (.cells ⟨splice l1 (o1 + (i3).toNat * 1) [vU 32]⟩ t1 z1) →
 ∃ (m3 : Nat), m3 < m1 ∧ I_1 m3 (IntKind.i64.wrap (i3 + 1)) h_4 ∧
 True)
 (∃ (l2 : Bs), BytesAt h_3 a1 n1 l2 ∧
 l2.length + ([104, 97, 108, 116] : Bs).length ≤ 9223372036854775807 ∧
 Tri Tryz.prog 13 [vS (l2 ++ ([104, 97, 108, 116] : Bs))] h_3 fun v_3 h_5 =>
 ∃ (a2 : OA) (n2 k2 : Nat) (l3 : Bs) (i4 i5 : Int) (a3 : OA) (n3 k3 : Nat) (i6 i7 : Int), v_3 = vT [vA [vL a2 n2 k2, vS l3, vI i4, vI i5, vL a3 n3 k3], vI i6, vI i7] ∧
 br (decide ((IntKind.i64.wrap ((Int.tmod i1 4))) > 1))
 (br (i7 != 5)
 (Q (vB false) h_5)
 (br (i6 != 0)
 (Q (vB false) h_5)
 (br (decide ((IntKind.i64.wrap ((Int.tmod i1 4))) ≤ 1))
 (br (i7 != 0)
 (Q (vB false) h_5)
 (Tri Tryz.prog 18 [vI (Int.tmod (IntKind.i64.wrap (i2)) 4200)] h_5 fun v_4 h_6 =>
 ∃ (l4 : Bs), v_4 = vS l4 ∧
 ([104, 97, 108, 116, 10, 46, 100, 97, 116, 97, 10, 46, 115, 112, 97, 99, 101, 32, 49, 48, 48, 10, 46, 122, 101, 114, 111, 32] : Bs).length + l4.length ≤ 9223372036854775807 ∧
 Tri Tryz.prog 13 [vS (([104, 97, 108, 116, 10, 46, 100, 97, 116, 97, 10, 46, 115, 112, 97, 99, 101, 32, 49, 48, 48, 10, 46, 122, 101, 114, 111, 32] : Bs) ++ l4)] h_6 fun v_5 h_7 =>
 ∃ (a4 : OA) (n4 k4 : Nat) (l5 : Bs) (i8 i9 : Int) (a5 : OA) (n5 k5 : Nat) (i10 i11 : Int), v_5 = vT [vA [vL a4 n4 k4, vS l5, vI i8, vI i9, vL a5 n5 k5], vI i10, vI i11] ∧
 br (decide ((Int.tmod (IntKind.i64.wrap (i2)) 4200) > 4096))
 (br (i11 == 2)
 (Q (vB (i10 == 4)) h_7)
 (Q (vB false) h_7))
 (br (decide ((Int.tmod (IntKind.i64.wrap (i2)) 4200) > 3932))
 (br (i11 == 9)
 (Q (vB (i10 == 0)) h_7)
 (Q (vB false) h_7))
 (br (i11 == 0)
 (br (i8 == (Int.tmod (IntKind.i64.wrap (i2)) 4200))
 (Q (vB ((l5.length : Int) == 100)) h_7)
 (Q (vB false) h_7))
 (Q (vB false) h_7)))))
 (Tri Tryz.prog 18 [vI (Int.tmod (IntKind.i64.wrap (i2)) 4200)] h_5 fun v_6 h_8 =>
 ∃ (l6 : Bs), v_6 = vS l6 ∧
 ([104, 97, 108, 116, 10, 46, 100, 97, 116, 97, 10, 46, 115, 112, 97, 99, 101, 32, 49, 48, 48, 10, 46, 122, 101, 114, 111, 32] : Bs).length + l6.length ≤ 9223372036854775807 ∧
 Tri Tryz.prog 13 [vS (([104, 97, 108, 116, 10, 46, 100, 97, 116, 97, 10, 46, 115, 112, 97, 99, 101, 32, 49, 48, 48, 10, 46, 122, 101, 114, 111, 32] : Bs) ++ l6)] h_8 fun v_7 h_9 =>
 ∃ (a6 : OA) (n6 k6 : Nat) (l7 : Bs) (i12 i13 : Int) (a7 : OA) (n7 k7 : Nat) (i14 i15 : Int), v_7 = vT [vA [vL a6 n6 k6, vS l7, vI i12, vI i13, vL a7 n7 k7], vI i14, vI i15] ∧
 br (decide ((Int.tmod (IntKind.i64.wrap (i2)) 4200) > 4096))
 (br (i15 == 2)
 (Q (vB (i14 == 4)) h_9)
 (Q (vB false) h_9))
 (br (decide ((Int.tmod (IntKind.i64.wrap (i2)) 4200) > 3932))
 (br (i15 == 9)
 (Q (vB (i14 == 0)) h_9)
 (Q (vB false) h_9))
 (br (i15 == 0)
 (br (i12 == (Int.tmod (IntKind.i64.wrap (i2)) 4200))
 (Q (vB ((l7.length : Int) == 100)) h_9)
 (Q (vB false) h_9))
 (Q (vB false) h_9)))))))
 (br (decide ((IntKind.i64.wrap ((Int.tmod i1 4))) ≤ 1))
 (br (i7 != 0)
 (Q (vB false) h_5)
 (Tri Tryz.prog 18 [vI (Int.tmod (IntKind.i64.wrap (i2)) 4200)] h_5 fun v_8 h_10 =>
 ∃ (l8 : Bs), v_8 = vS l8 ∧
 ([104, 97, 108, 116, 10, 46, 100, 97, 116, 97, 10, 46, 115, 112, 97, 99, 101, 32, 49, 48, 48, 10, 46, 122, 101, 114, 111, 32] : Bs).length + l8.length ≤ 9223372036854775807 ∧
 Tri Tryz.prog 13 [vS (([104, 97, 108, 116, 10, 46, 100, 97, 116, 97, 10, 46, 115, 112, 97, 99, 101, 32, 49, 48, 48, 10, 46, 122, 101, 114, 111, 32] : Bs) ++ l8)] h_10 fun v_9 h_11 =>
 ∃ (a8 : OA) (n8 k8 : Nat) (l9 : Bs) (i16 i17 : Int) (a9 : OA) (n9 k9 : Nat) (i18 i19 : Int), v_9 = vT [vA [vL a8 n8 k8, vS l9, vI i16, vI i17, vL a9 n9 k9], vI i18, vI i19] ∧
 br (decide ((Int.tmod (IntKind.i64.wrap (i2)) 4200) > 4096))
 (br (i19 == 2)
 (Q (vB (i18 == 4)) h_11)
 (Q (vB false) h_11))
 (br (decide ((Int.tmod (IntKind.i64.wrap (i2)) 4200) > 3932))
 (br (i19 == 9)
 (Q (vB (i18 == 0)) h_11)
 (Q (vB false) h_11))
 (br (i19 == 0)
 (br (i16 == (Int.tmod (IntKind.i64.wrap (i2)) 4200))
 (Q (vB ((l9.length : Int) == 100)) h_11)
 (Q (vB false) h_11))
 (Q (vB false) h_11)))))
 (Tri Tryz.prog 18 [vI (Int.tmod (IntKind.i64.wrap (i2)) 4200)] h_5 fun v_10 h_12 =>
 ∃ (l10 : Bs), v_10 = vS l10 ∧
 ([104, 97, 108, 116, 10, 46, 100, 97, 116, 97, 10, 46, 115, 112, 97, 99, 101, 32, 49, 48, 48, 10, 46, 122, 101, 114, 111, 32] : Bs).length + l10.length ≤ 9223372036854775807 ∧
 Tri Tryz.prog 13 [vS (([104, 97, 108, 116, 10, 46, 100, 97, 116, 97, 10, 46, 115, 112, 97, 99, 101, 32, 49, 48, 48, 10, 46, 122, 101, 114, 111, 32] : Bs) ++ l10)] h_12 fun v_11 h_13 =>
 ∃ (a10 : OA) (n10 k10 : Nat) (l11 : Bs) (i20 i21 : Int) (a11 : OA) (n11 k11 : Nat) (i22 i23 : Int), v_11 = vT [vA [vL a10 n10 k10, vS l11, vI i20, vI i21, vL a11 n11 k11], vI i22, vI i23] ∧
 br (decide ((Int.tmod (IntKind.i64.wrap (i2)) 4200) > 4096))
 (br (i23 == 2)
 (Q (vB (i22 == 4)) h_13)
 (Q (vB false) h_13))
 (br (decide ((Int.tmod (IntKind.i64.wrap (i2)) 4200) > 3932))
 (br (i23 == 9)
 (Q (vB (i22 == 0)) h_13)
 (Q (vB false) h_13))
 (br (i23 == 0)
 (br (i20 == (Int.tmod (IntKind.i64.wrap (i2)) 4200))
 (Q (vB ((l11.length : Int) == 100)) h_13)
 (Q (vB false) h_13))
 (Q (vB false) h_13)))))))
theorem T4 {i1 : Int} {i2 : Int} {h : PHeap} {Q : Value → PHeap → Prop} (hR : R4 i1 i2 h Q) : Tri Tryz.prog 4 [vU i1, .int .u16 i2] h Q :=
 tri_of_dn mixed Tryz.func4 rfl (by kernel_rfl) low4 (rs := [.tmp 4]) (by kernel_rfl) rfl (Eq.mpr (by kernel_rfl : dnF Tryz.prog Tryz.f4.ntmps d4 [.tmp 4] [vU i1, .int .u16 i2] h Q = R4 i1 i2 h Q) hR)
noncomputable def d18 : DCode := up ⟨[(8, .c (.one false [.str])), (19, .c (.one false [.str]))], [], []⟩ (low Tryz.prog (fun _ => false) (Tryz.f18.body.getD .skip))
theorem low18 : low Tryz.prog (fun _ => false) (Tryz.f18.body.getD .skip) = some (eC d18) := by kernel_rfl
def R18 (i1 : Int) (h : PHeap) (Q : Value → PHeap → Prop) : Prop :=
 br (decide (i1 < 0))
 (Tri Tryz.prog 18 [vI (IntKind.i64.wrap (0 - i1))] h fun v_1 h_1 =>
 ∃ (l1 : Bs), v_1 = vS l1 ∧
 ([45] : Bs).length + l1.length ≤ 9223372036854775807 ∧
 Q (vS (([45] : Bs) ++ l1)) h_1)
 (br (decide (i1 < 10))
 ((0 ≤ i1 ∧ i1 ≤ (IntKind.i64.wrap (i1 + 1)) ∧ (IntKind.i64.wrap (i1 + 1)) ≤ (10 : Int)) ∧
 Q (vS ((([48, 49, 50, 51, 52, 53, 54, 55, 56, 57] : Bs).drop (i1).toNat).take ((IntKind.i64.wrap (i1 + 1)).toNat - (i1).toNat))) h)
 ((0 ≤ (Int.tmod i1 10) ∧ (Int.tmod i1 10) ≤ (IntKind.i64.wrap ((Int.tmod i1 10) + 1)) ∧ (IntKind.i64.wrap ((Int.tmod i1 10) + 1)) ≤ (10 : Int)) ∧
 Tri Tryz.prog 18 [vI (IntKind.i64.wrap (Int.tdiv i1 10))] h fun v_2 h_2 =>
 ∃ (l2 : Bs), v_2 = vS l2 ∧
 l2.length + ((([48, 49, 50, 51, 52, 53, 54, 55, 56, 57] : Bs).drop (Int.tmod i1 10).toNat).take ((IntKind.i64.wrap ((Int.tmod i1 10) + 1)).toNat - (Int.tmod i1 10).toNat)).length ≤ 9223372036854775807 ∧
 Q (vS (l2 ++ ((([48, 49, 50, 51, 52, 53, 54, 55, 56, 57] : Bs).drop (Int.tmod i1 10).toNat).take ((IntKind.i64.wrap ((Int.tmod i1 10) + 1)).toNat - (Int.tmod i1 10).toNat)))) h_2))
theorem T18 {i1 : Int} {h : PHeap} {Q : Value → PHeap → Prop} (hR : R18 i1 h Q) : Tri Tryz.prog 18 [vI i1] h Q :=
 tri_of_dn mixed Tryz.func18 rfl (by kernel_rfl) low18 (rs := [.tmp 2]) (by kernel_rfl) rfl (Eq.mpr (by kernel_rfl : dnF Tryz.prog Tryz.f18.ntmps d18 [.tmp 2] [vI i1] h Q = R18 i1 h Q) hR)
end Go.Proofs.D
namespace Go.Proofs.D
open Go Go.Den Go.As
set_option maxRecDepth 100000
def tenS : Bytes := [48, 49, 50, 51, 52, 53, 54, 55, 56, 57]
theorem ten_tab : ∀ n : Fin 10, (tenS.drop n.val).take 1 = [UInt8.ofNat (48 + n.val)] := by decide +kernel
theorem ten_at {n : Nat} (h : n < 10) : (tenS.drop n).take 1 = [UInt8.ofNat (48 + n)] := ten_tab ⟨n, h⟩
attribute [local irreducible] IntKind.wrap Tri
theorem decimal_t : ∀ (n : Nat), n ≤ 1000000000000 → ∀ {h : PHeap}, Tri Tryz.prog 18 [vI (n : Int)] h fun v h' => v = vS (digs n) ∧ h' = h := by
 intro n
 induction n using Nat.strongRecOn with
 | ind n ih =>
   intro hn h
   refine T18 ?_
   unfold R18
   refine br_neg (decide_eq_false (by omega)) (br_split (fun e => ?_) fun e => ?_)
   · have e := of_decide_eq_true e
     have e : n < 10 := by omega
     have hw : IntKind.i64.wrap ((n : Int) + 1) = ((n + 1 : Nat) : Int) := by rw [wrap64 (by omega) (by omega)]; omega
     rw [hw]
     refine ⟨⟨by omega, by omega, by omega⟩, ?_, rfl⟩
     rw [Int.toNat_natCast, Int.toNat_natCast, Nat.add_sub_cancel_left]
     rw [digs, dif_pos e]
     exact congrArg vS (ten_at e)
   · have e := of_decide_eq_false e
     have hm : Int.tmod (n : Int) 10 = ((n % 10 : Nat) : Int) := by rw [Int.tmod_eq_emod_of_nonneg (by omega)]; omega
     have hd : Int.tdiv (n : Int) 10 = ((n / 10 : Nat) : Int) := by rw [Int.tdiv_eq_ediv_of_nonneg (by omega)]; omega
     have hw : IntKind.i64.wrap (((n % 10 : Nat) : Int) + 1) = ((n % 10 + 1 : Nat) : Int) := by rw [wrap64 (by omega) (by omega)]; omega
     have hw2 : IntKind.i64.wrap ((n / 10 : Nat) : Int) = ((n / 10 : Nat) : Int) := wrap64 (by omega) (by omega)
     rw [hm, hd, hw, hw2]
     refine ⟨⟨by omega, by omega, by omega⟩, ?_⟩
     refine Tri.mono (ih (n / 10) (by omega) (by omega)) ?_
     rintro _ h1 ⟨rfl, rfl⟩
     have ht : (tenS.drop ((n % 10 : Nat) : Int).toNat).take (((n % 10 + 1 : Nat) : Int).toNat - ((n % 10 : Nat) : Int).toNat) = [UInt8.ofNat (48 + n % 10)] := by
      rw [Int.toNat_natCast, Int.toNat_natCast, Nat.add_sub_cancel_left]
      exact ten_at (Nat.mod_lt _ (by decide))
     unfold tenS at ht
     rw [ht]
     have hl := digs_len 12 (n / 10) (by omega)
     refine ⟨_, rfl, by rw [List.length_singleton]; omega, ?_, rfl⟩
     conv => rhs; rw [digs, dif_neg (by omega)]
def tail4 (i2 : Int) (h_5 : PHeap) (Q : Value → PHeap → Prop) : Prop :=
 (Tri Tryz.prog 18 [vI (Int.tmod (IntKind.i64.wrap (i2)) 4200)] h_5 fun v_4 h_6 =>
 ∃ (l4 : Bs), v_4 = vS l4 ∧
 ([104, 97, 108, 116, 10, 46, 100, 97, 116, 97, 10, 46, 115, 112, 97, 99, 101, 32, 49, 48, 48, 10, 46, 122, 101, 114, 111, 32] : Bs).length + l4.length ≤ 9223372036854775807 ∧
 Tri Tryz.prog 13 [vS (([104, 97, 108, 116, 10, 46, 100, 97, 116, 97, 10, 46, 115, 112, 97, 99, 101, 32, 49, 48, 48, 10, 46, 122, 101, 114, 111, 32] : Bs) ++ l4)] h_6 fun v_5 h_7 =>
 ∃ (a4 : OA) (n4 k4 : Nat) (l5 : Bs) (i8 i9 : Int) (a5 : OA) (n5 k5 : Nat) (i10 i11 : Int), v_5 = vT [vA [vL a4 n4 k4, vS l5, vI i8, vI i9, vL a5 n5 k5], vI i10, vI i11] ∧
 br (decide ((Int.tmod (IntKind.i64.wrap (i2)) 4200) > 4096))
 (br (i11 == 2)
 (Q (vB (i10 == 4)) h_7)
 (Q (vB false) h_7))
 (br (decide ((Int.tmod (IntKind.i64.wrap (i2)) 4200) > 3932))
 (br (i11 == 9)
 (Q (vB (i10 == 0)) h_7)
 (Q (vB false) h_7))
 (br (i11 == 0)
 (br (i8 == (Int.tmod (IntKind.i64.wrap (i2)) 4200))
 (Q (vB ((l5.length : Int) == 100)) h_7)
 (Q (vB false) h_7))
 (Q (vB false) h_7))))
theorem tail_4 {h : PHeap} (hO : OpTab h) (hM : MaxLen h) {k2 : Nat} (hk2 : k2 < 65536) {Q : Value → PHeap → Prop} (hQ : ∀ h', Ext h h' → Q (vB true) h') : tail4 (k2 : Int) h Q := by
 unfold tail4
 have hz : Int.tmod (IntKind.i64.wrap (k2 : Int)) 4200 = ((k2 % 4200 : Nat) : Int) := by
  rw [wrap64 (by omega) (by omega), Int.tmod_eq_emod_of_nonneg (by omega)]; omega
 rw [hz]
 have hlt : k2 % 4200 < 4200 := Nat.mod_lt _ (by decide)
 generalize k2 % 4200 = z at *
 refine Tri.mono (decimal_t z (by omega)) ?_
 rintro _ h1 ⟨rfl, rfl⟩
 obtain ⟨d1, d2, d3⟩ := digs_ok z
 have d4 := digs_len 4 z (by omega)
 refine ⟨_, rfl, by simp only [List.length_cons, List.length_nil]; omega, ?_⟩
 refine Tri.mono (asm_t (zText (digs z)) hO hM) ?_
 rintro v h2 ⟨x2, hr⟩
 rw [limits_zero d1 d3 (by omega), d2] at hr
 by_cases h1 : 4096 < z
 · rw [if_pos h1] at hr
   obtain ⟨_, rfl⟩ := hr
   exact ⟨_, _, _, _, _, _, _, _, _, _, _, rfl, br_pos (by simp; omega) (br_pos rfl (hQ _ x2))⟩
 rw [if_neg h1] at hr
 by_cases h3 : 3932 < z
 · rw [if_pos h3] at hr
   obtain ⟨_, rfl⟩ := hr
   exact ⟨_, _, _, _, _, _, _, _, _, _, _, rfl, br_neg (by simp; omega) (br_pos (by simp; omega) (br_pos rfl (hQ _ x2)))⟩
 rw [if_neg h3] at hr
 obtain ⟨a1, k1, a2, k2, rfl, _⟩ := hr
 exact ⟨_, _, _, _, _, _, _, _, _, _, _, rfl, br_neg (by simp; omega) (br_neg (by simp; omega) (br_pos rfl (br_pos (by simp) (hQ _ x2))))⟩
theorem limits_tri {h : PHeap} (hO : OpTab h) (hM : MaxLen h) {k1 k2 : Nat} (hk1 : k1 < 256) (hk2 : k2 < 65536) : Tri Tryz.prog 4 [vU (k1 : Int), .int .u16 (k2 : Int)] h fun v h' => v = vB true ∧ ∀ k o, h k = some o → h' k = some o := by
 refine T4 ?_
 unfold R4
 refine Tri.mono (known_t hO hM) ?_
 rintro _ h1 ⟨rfl, x1⟩
 refine ⟨_, rfl, br_neg rfl ?_⟩
 have hn : IntKind.i64.wrap (Int.tmod (k1 : Int) 4) = ((k1 % 4 : Nat) : Int) := by
  rw [Int.tmod_eq_emod_of_nonneg (by omega), wrap64 (by omega) (by omega)]; omega
 have hlt : k1 % 4 < 4 := Nat.mod_lt _ (by decide)
 rw [hn]
 generalize k1 % 4 = n at *
 have hN : IntKind.i64.wrap (65531 + (n : Int)) = ((65531 + n : Nat) : Int) := by rw [wrap64 (by omega) (by omega)]; omega
 rw [hN]
 refine Raw.mono (raw_makeB (N := 65531 + n) rfl rfl (by omega)) ?_
 rintro _ h2 ⟨b, hb, rfl, hh2⟩
 have hxb : ∀ o, Ext h1 (h1.put b o) := fun o => Ext.put hb o
 refine ⟨_, _, _, rfl, ?_⟩
 refine ⟨fun m i h' => ∃ j : Nat, i = (j : Int) ∧ j + m = 65531 + n ∧ h' = h1.put b (.cells ⟨List.replicate j (byteV 32) ++ List.replicate (65531 + n - j) (byteV 0)⟩ 5 (0, 0)), ⟨65531 + n, 0, rfl, by omega, by rw [hh2]; rfl⟩, ?_⟩
 rintro m _ h3 ⟨j, rfl, hjm, rfl⟩
 refine br_split (fun e => ?_) fun e => ?_
 · have hlt2 : j < 65531 + n := by have := of_decide_eq_true e; omega
   refine ⟨b, 0, rfl, ⟨by omega, by omega⟩, _, _, _, put_same _ _ _, ⟨?_, Nat.zero_le _⟩, ?_⟩
   · rw [Int.toNat_natCast, List.length_append, List.length_replicate, List.length_replicate]; omega
   rintro h4 rfl
   refine ⟨m - 1, by omega, ⟨j + 1, by rw [wrap64 (by omega) (by omega)]; omega, by omega, ?_⟩, trivial⟩
   rw [put_put, Int.toNat_natCast, Nat.zero_add, Nat.mul_one]
   have hsp : splice (List.replicate j (byteV 32) ++ List.replicate (65531 + n - j) (byteV 0)) j [vU 32] = List.replicate (j + 1) (byteV 32) ++ List.replicate (65531 + n - (j + 1)) (byteV 0) := by
    unfold splice
    have h1 : (List.replicate j (byteV 32) ++ List.replicate (65531 + n - j) (byteV 0)).take j = List.replicate j (byteV 32) := by
     rw [List.take_append_of_le_length (by simp), List.take_of_length_le (by simp)]
    have h2 : (List.replicate j (byteV 32) ++ List.replicate (65531 + n - j) (byteV 0)).drop (j + [vU 32].length) = List.replicate (65531 + n - (j + 1)) (byteV 0) := by
     rw [List.drop_append, List.length_replicate]
     simp only [List.length_cons, List.length_nil, List.drop_replicate]
     rw [show j - (j + (0 + 1)) = 0 by omega, show 65531 + n - j - (j + (0 + 1) - j) = 65531 + n - (j + 1) by omega]; rfl
    rw [h1, h2, List.replicate_succ']; rfl
   rw [hsp]
 · have hj : j = 65531 + n := by have := of_decide_eq_false e; omega
   subst hj
   refine ⟨List.replicate (65531 + n) 32, .inr ⟨b, 0, rfl, by simp, ?_⟩, by simp only [List.length_replicate, List.length_cons, List.length_nil]; omega, ?_⟩
   · rw [List.map_replicate]
     refine row_lit (put_same _ _ _) fun j v hj => ?_
     rw [Nat.zero_add, List.getElem?_append_left (List.getElem?_eq_some_iff.1 hj).1]; exact hj
   have x3 := x1.trans (hxb (.cells ⟨List.replicate (65531 + n) (byteV 32) ++ List.replicate (65531 + n - (65531 + n)) (byteV 0)⟩ 5 (0, 0)))
   generalize h1.put b _ = h3 at *
   refine Tri.mono (asm_t (List.replicate (65531 + n) 32 ++ haltB) (hO.ext x3) (hM.ext x3)) ?_
   rintro v h4 ⟨x4, hr⟩
   have x34 := x3.trans x4
   have tl : tail4 (k2 : Int) h4 fun v h' => v = vB true ∧ ∀ k o, h k = some o → h' k = some o := tail_4 (hO.ext x34) (hM.ext x34) hk2 fun h' x => ⟨rfl, x34.trans x⟩
   rw [limits_long] at hr
   by_cases h1 : 1 < n
   · rw [if_pos h1] at hr
     obtain ⟨_, rfl⟩ := hr
     refine ⟨_, _, _, _, _, _, _, _, _, _, _, rfl, br_pos (by simp; omega) (br_neg rfl (br_neg rfl (br_neg (by simp; omega) tl)))⟩
   · rw [if_neg h1] at hr
     obtain ⟨a1, k1, a2, k2', rfl, _⟩ := hr
     refine ⟨_, _, _, _, _, _, _, _, _, _, _, rfl, br_neg (by simp; omega) (br_pos (by simp; omega) (br_neg rfl tl))⟩
end Go.Proofs.D
namespace Go.Proofs.D
open Go Go.Den
set_option maxRecDepth 100000
set_option maxHeartbeats 4000000
noncomputable def d63 : DCode := up ⟨[], [], []⟩ (low Tryz.prog (fun _ => false) (Tryz.f63.body.getD .skip))
theorem low63 : low Tryz.prog (fun _ => false) (Tryz.f63.body.getD .skip) = some (eC d63) := by kernel_rfl
def R63 (i1 : Int) (h : PHeap) (Q : Value → PHeap → Prop) : Prop :=
 br (decide (i1 < 0))
 (Q (vT [vI 0, vI 11]) h)
 (br (decide (i1 > 26))
 (Q (vT [vI 0, vI 11]) h)
 (br (i1 == 0)
 (Q (vT [vI 0, vI 0]) h)
 (br (i1 == 1)
 (Q (vT [vI 2, vI 0]) h)
 (br (i1 == 2)
 (Q (vT [vI 4, vI 0]) h)
 (br (i1 == 3)
 (Q (vT [vI 4, vI 0]) h)
 (br (decide (i1 ≥ 22))
 (br (decide (i1 ≤ 24))
 (Q (vT [vI 4, vI 0]) h)
 (br (decide (i1 ≤ 15))
 (Q (vT [vI 3, vI 0]) h)
 (br (decide (i1 ≤ 20))
 (Q (vT [vI 5, vI 0]) h)
 (br (i1 == 25)
 (Q (vT [vI 1, vI 0]) h)
 (Q (vT [vI 6, vI 0]) h)))))
 (br (decide (i1 ≤ 15))
 (Q (vT [vI 3, vI 0]) h)
 (br (decide (i1 ≤ 20))
 (Q (vT [vI 5, vI 0]) h)
 (br (i1 == 25)
 (Q (vT [vI 1, vI 0]) h)
 (Q (vT [vI 6, vI 0]) h))))))))))
theorem T63 {i1 : Int} {h : PHeap} {Q : Value → PHeap → Prop} (hR : R63 i1 h Q) : Tri Tryz.prog 63 [vI i1] h Q :=
 tri_of_dn mixed Tryz.func63 rfl (by kernel_rfl) low63 (rs := [.tmp 2, .tmp 3]) (by kernel_rfl) rfl (Eq.mpr (by kernel_rfl : dnF Tryz.prog Tryz.f63.ntmps d63 [.tmp 2, .tmp 3] [vI i1] h Q = R63 i1 h Q) hR)
noncomputable def d64 : DCode := up ⟨[], [], []⟩ (low Tryz.prog (fun _ => false) (Tryz.f64.body.getD .skip))
theorem low64 : low Tryz.prog (fun _ => false) (Tryz.f64.body.getD .skip) = some (eC d64) := by kernel_rfl
def R64 (i1 : Int) (h : PHeap) (Q : Value → PHeap → Prop) : Prop :=
 br (decide (i1 ≥ 1))
 (Q (vB (decide (i1 ≤ 5))) h)
 (Q (vB false) h)
theorem T64 {i1 : Int} {h : PHeap} {Q : Value → PHeap → Prop} (hR : R64 i1 h Q) : Tri Tryz.prog 64 [vI i1] h Q :=
 tri_of_dn mixed Tryz.func64 rfl (by kernel_rfl) low64 (rs := [.tmp 2]) (by kernel_rfl) rfl (Eq.mpr (by kernel_rfl : dnF Tryz.prog Tryz.f64.ntmps d64 [.tmp 2] [vI i1] h Q = R64 i1 h Q) hR)
noncomputable def d65 : DCode := up ⟨[], [], []⟩ (low Tryz.prog (fun _ => false) (Tryz.f65.body.getD .skip))
theorem low65 : low Tryz.prog (fun _ => false) (Tryz.f65.body.getD .skip) = some (eC d65) := by kernel_rfl
def R65 (i1 : Int) (h : PHeap) (Q : Value → PHeap → Prop) : Prop :=
 br (i1 == 2)
 (Q (vB true) h)
 (br (i1 == 3)
 (Q (vB true) h)
 (Q (vB (i1 == 5)) h))
theorem T65 {i1 : Int} {h : PHeap} {Q : Value → PHeap → Prop} (hR : R65 i1 h Q) : Tri Tryz.prog 65 [vI i1] h Q :=
 tri_of_dn mixed Tryz.func65 rfl (by kernel_rfl) low65 (rs := [.tmp 2]) (by kernel_rfl) rfl (Eq.mpr (by kernel_rfl : dnF Tryz.prog Tryz.f65.ntmps d65 [.tmp 2] [vI i1] h Q = R65 i1 h Q) hR)
noncomputable def d66 : DCode := up ⟨[], [], []⟩ (low Tryz.prog (fun _ => false) (Tryz.f66.body.getD .skip))
theorem low66 : low Tryz.prog (fun _ => false) (Tryz.f66.body.getD .skip) = some (eC d66) := by kernel_rfl
def R66 (i1 : Int) (h : PHeap) (Q : Value → PHeap → Prop) : Prop :=
 Q (vB (decide (i1 ≥ 3))) h
theorem T66 {i1 : Int} {h : PHeap} {Q : Value → PHeap → Prop} (hR : R66 i1 h Q) : Tri Tryz.prog 66 [vI i1] h Q :=
 tri_of_dn mixed Tryz.func66 rfl (by kernel_rfl) low66 (rs := [.tmp 2]) (by kernel_rfl) rfl (Eq.mpr (by kernel_rfl : dnF Tryz.prog Tryz.f66.ntmps d66 [.tmp 2] [vI i1] h Q = R66 i1 h Q) hR)
noncomputable def d67 : DCode := up ⟨[(9, .c (.tup [(false, [qi]), (false, [qi])]))], [], []⟩ (low Tryz.prog (fun _ => false) (Tryz.f67.body.getD .skip))
theorem low67 : low Tryz.prog (fun _ => false) (Tryz.f67.body.getD .skip) = some (eC d67) := by kernel_rfl
def R67 (i1 : Int) (h : PHeap) (Q : Value → PHeap → Prop) : Prop :=
 Tri Tryz.prog 63 [vI i1] h fun v_1 h_1 =>
 ∃ (i2 i3 : Int), v_1 = vT [vI i2, vI i3] ∧
 br (i3 != 0)
 (Q (vT [vI 0, vI 0, vI i3]) h_1)
 (br (decide (i2 < 4))
 (Q (vT [vI 0, vI 0, vI 1]) h_1)
 (br (i1 == 3)
 (Q (vT [vI 0, vI 65535, vI 0]) h_1)
 (br (i1 == 26)
 (Q (vT [vI 0, vI 255, vI 0]) h_1)
 (br (decide (i1 > 20))
 (Q (vT [vI 0, vI 4095, vI 0]) h_1)
 (Q (vT [vI (-32768), vI 32767, vI 0]) h_1)))))
theorem T67 {i1 : Int} {h : PHeap} {Q : Value → PHeap → Prop} (hR : R67 i1 h Q) : Tri Tryz.prog 67 [vI i1] h Q :=
 tri_of_dn mixed Tryz.func67 rfl (by kernel_rfl) low67 (rs := [.tmp 2, .tmp 3, .tmp 4]) (by kernel_rfl) rfl (Eq.mpr (by kernel_rfl : dnF Tryz.prog Tryz.f67.ntmps d67 [.tmp 2, .tmp 3, .tmp 4] [vI i1] h Q = R67 i1 h Q) hR)
noncomputable def d68 : DCode := up ⟨[(9, .c (.one false [.slice])), (12, .l [.str])], [], []⟩ (low Tryz.prog (fun _ => false) (Tryz.f68.body.getD .skip))
theorem low68 : low Tryz.prog (fun _ => false) (Tryz.f68.body.getD .skip) = some (eC d68) := by kernel_rfl
def R68 (i1 : Int) (h : PHeap) (Q : Value → PHeap → Prop) : Prop :=
 br (decide (i1 < 0))
 (Q (vS []) h)
 (br (decide (i1 > 26))
 (Q (vS []) h)
 (Tri Tryz.prog 106 [] h fun v_1 h_1 =>
 ∃ (a1 : OA) (n1 k1 : Nat), v_1 = vL a1 n1 k1 ∧
 ∃ (b1 o1 : Nat), a1 = some ⟨b1, o1, none⟩ ∧ (0 ≤ i1 ∧ i1 < n1) ∧
 ∃ (l1 : Bs), h_1.cell b1 (o1 + (i1).toNat * 1) = some (vS l1) ∧
 Q (vS l1) h_1))
theorem T68 {i1 : Int} {h : PHeap} {Q : Value → PHeap → Prop} (hR : R68 i1 h Q) : Tri Tryz.prog 68 [vI i1] h Q :=
 tri_of_dn mixed Tryz.func68 rfl (by kernel_rfl) low68 (rs := [.tmp 2]) (by kernel_rfl) rfl (Eq.mpr (by kernel_rfl : dnF Tryz.prog Tryz.f68.ntmps d68 [.tmp 2] [vI i1] h Q = R68 i1 h Q) hR)
end Go.Proofs.D
namespace Go.Proofs.D
open Go Go.Den Go.As
set_option maxRecDepth 100000
attribute [local irreducible] IntKind.wrap Tri
theorem form_tab : ∀ k : Fin 27, form k.val = if k.val = 0 then 0 else if k.val = 1 then 2 else if k.val = 2 ∨ k.val = 3 ∨ (22 ≤ k.val ∧ k.val ≤ 24) then 4 else if k.val ≤ 15 then 3 else if k.val ≤ 20 then 5 else if k.val = 25 then 1 else 6 := by decide
section
variable {h : PHeap}
theorem rform_t (i : Int) : Tri Tryz.prog 63 [vI i] h fun v h' => v = (if 0 ≤ i ∧ i ≤ 26 then vT [vI (form i.toNat), vI 0] else vT [vI 0, vI 11]) ∧ h' = h := by
 refine T63 ?_
 unfold R63
 refine br_split (fun e => ⟨by have := of_decide_eq_true e; rw [if_neg (by omega)], rfl⟩) fun e => br_split (fun e' => ⟨by have := of_decide_eq_true e'; rw [if_neg (by omega)], rfl⟩) fun e' => ?_
 have e := of_decide_eq_false e
 have e' := of_decide_eq_false e'
 rw [if_pos (by omega)]
 obtain ⟨k, rfl⟩ : ∃ k : Nat, i = (k : Int) := ⟨i.toNat, by omega⟩
 rw [Int.toNat_natCast]
 have hk : k < 27 := by omega
 have key : ∀ n : Nat, form k = n → ∀ h', h' = h → vT [vI (n : Int), vI 0] = vT [vI (form k), vI 0] ∧ h' = h := fun n hn h' hh => ⟨by rw [hn], hh⟩
 have eqk : ∀ (n : Nat) (b : Bool), (((k : Nat) : Int) == (n : Int)) = b → (k = n ↔ b = true) := fun n b hb => by rw [← hb]; simp; omega
 have tl : k ≠ 0 → k ≠ 1 → k ≠ 2 → k ≠ 3 → ¬ (22 ≤ k ∧ k ≤ 24) → br (decide ((k : Int) ≤ 15)) (vT [vI 3, vI 0] = vT [vI (form k), vI 0] ∧ h = h) (br (decide ((k : Int) ≤ 20)) (vT [vI 5, vI 0] = vT [vI (form k), vI 0] ∧ h = h) (br ((k : Int) == 25) (vT [vI 1, vI 0] = vT [vI (form k), vI 0] ∧ h = h) (vT [vI 6, vI 0] = vT [vI (form k), vI 0] ∧ h = h))) := fun k0 k1 k2 k3 k4 => by
  have hf : form k = if k ≤ 15 then 3 else if k ≤ 20 then 5 else if k = 25 then 1 else 6 := by
   unfold form; rw [if_neg k0, if_neg k1, if_neg (by omega)]
  refine br_split (fun g => ?_) fun g => br_split (fun g2 => ?_) fun g2 => br_split (fun g3 => ?_) fun g3 => ?_
  · have g := of_decide_eq_true g
    exact key 3 (by rw [hf, if_pos (by omega)]) _ rfl
  · have g := of_decide_eq_false g
    have g2 := of_decide_eq_true g2
    exact key 5 (by rw [hf, if_neg (by omega), if_pos (by omega)]) _ rfl
  · have g := of_decide_eq_false g
    have g2 := of_decide_eq_false g2
    exact key 1 (by rw [hf, if_neg (by omega), if_neg (by omega), if_pos ((eqk 25 _ g3).2 rfl)]) _ rfl
  · have g := of_decide_eq_false g
    have g2 := of_decide_eq_false g2
    have n25 : k ≠ 25 := fun hh => by have := (eqk 25 _ g3).1 hh; cases this
    exact key 6 (by rw [hf, if_neg (by omega), if_neg (by omega), if_neg n25]) _ rfl
 refine br_split (fun g0 => ?_) fun g0 => br_split (fun g1 => ?_) fun g1 => br_split (fun g2 => ?_) fun g2 => br_split (fun g3 => ?_) fun g3 => ?_
 · exact key 0 (by rw [(eqk 0 _ g0).2 rfl]; rfl) _ rfl
 · exact key 2 (by rw [(eqk 1 _ g1).2 rfl]; rfl) _ rfl
 · exact key 4 (by rw [(eqk 2 _ g2).2 rfl]; rfl) _ rfl
 · exact key 4 (by rw [(eqk 3 _ g3).2 rfl]; rfl) _ rfl
 · have n0 : k ≠ 0 := fun hh => by have := (eqk 0 _ g0).1 hh; cases this
   have n1 : k ≠ 1 := fun hh => by have := (eqk 1 _ g1).1 hh; cases this
   have n2 : k ≠ 2 := fun hh => by have := (eqk 2 _ g2).1 hh; cases this
   have n3 : k ≠ 3 := fun hh => by have := (eqk 3 _ g3).1 hh; cases this
   refine br_split (fun g => br_split (fun g' => ?_) fun g' => ?_) fun g => ?_
   · have g := of_decide_eq_true g
     have g' := of_decide_eq_true g'
     exact key 4 (by unfold form; rw [if_neg n0, if_neg n1, if_pos (by omega)]) _ rfl
   · have g' := of_decide_eq_false g'
     exact tl n0 n1 n2 n3 (by omega)
   · have g := of_decide_eq_false g
     exact tl n0 n1 n2 n3 (by omega)
theorem rhasA_t (f : Nat) : Tri Tryz.prog 64 [vI (f : Int)] h fun v h' => v = vB (hasA f) ∧ h' = h := by
 refine T64 ?_
 unfold R64 hasA
 refine br_split (fun e => ⟨?_, rfl⟩) fun e => ⟨?_, rfl⟩
 · have e := of_decide_eq_true e
   congr 1; rw [Bool.eq_iff_iff]; simp; omega
 · have e := of_decide_eq_false e
   congr 1; rw [Bool.eq_iff_iff]; simp; omega
theorem rhasB_t (f : Nat) : Tri Tryz.prog 65 [vI (f : Int)] h fun v h' => v = vB (hasB f) ∧ h' = h := by
 refine T65 ?_
 unfold R65 hasB
 refine br_split (fun e => ⟨?_, rfl⟩) fun e => br_split (fun e' => ⟨?_, rfl⟩) fun e' => ⟨?_, rfl⟩
 all_goals congr 1; rw [Bool.eq_iff_iff]; simp at *; omega
theorem rhasC_t (f : Nat) : Tri Tryz.prog 66 [vI (f : Int)] h fun v h' => v = vB (hasC f) ∧ h' = h := by
 refine T66 ?_
 unfold R66 hasC
 refine ⟨?_, rfl⟩
 congr 1; rw [Bool.eq_iff_iff]; simp; omega
theorem rlimits_t {k : Nat} (hk : k < 27) (hf : 4 ≤ form k) : Tri Tryz.prog 67 [vI (k : Int)] h fun v h' => v = vT [vI (limits k).1, vI (limits k).2, vI 0] ∧ h' = h := by
 refine T67 ?_
 unfold R67
 refine Tri.mono (rform_t (k : Int)) ?_
 rintro _ h1 ⟨rfl, rfl⟩
 rw [if_pos (by omega), Int.toNat_natCast]
 refine ⟨_, _, rfl, br_neg rfl (br_neg (decide_eq_false (by omega)) ?_)⟩
 have eqk : ∀ (n : Nat) (b : Bool), (((k : Nat) : Int) == (n : Int)) = b → (k = n ↔ b = true) := fun n b hb => by rw [← hb]; simp; omega
 unfold limits
 refine br_split (fun g => ?_) fun g => br_split (fun g2 => ?_) fun g2 => br_split (fun g3 => ?_) fun g3 => ?_
 · rw [if_pos ((eqk 3 _ g).2 rfl)]; exact ⟨rfl, rfl⟩
 · have n3 : k ≠ 3 := fun hh => by have := (eqk 3 _ g).1 hh; cases this
   rw [if_neg n3, if_pos ((eqk 26 _ g2).2 rfl)]; exact ⟨rfl, rfl⟩
 · have n3 : k ≠ 3 := fun hh => by have := (eqk 3 _ g).1 hh; cases this
   have n26 : k ≠ 26 := fun hh => by have := (eqk 26 _ g2).1 hh; cases this
   have g3 := of_decide_eq_true g3
   rw [if_neg n3, if_neg n26, if_pos (by omega)]; exact ⟨rfl, rfl⟩
 · have n3 : k ≠ 3 := fun hh => by have := (eqk 3 _ g).1 hh; cases this
   have n26 : k ≠ 26 := fun hh => by have := (eqk 26 _ g2).1 hh; cases this
   have g3 := of_decide_eq_false g3
   rw [if_neg n3, if_neg n26, if_neg (by omega)]; exact ⟨rfl, rfl⟩
end
end Go.Proofs.D
namespace Go.Proofs.D
open Go Go.Den Go.As
set_option maxRecDepth 100000
attribute [local irreducible] IntKind.wrap Tri
section
variable {h : PHeap}
def lo33 (i2 i3 i4 i5 lo hi : Int) (h_5 : PHeap) (Q : Value → PHeap → Prop) : Prop :=
 br (decide (i2 < 0))
 (Q (vI 2) h_5)
 (br (decide (i2 > 7))
 (Q (vI 2) h_5)
 (br (decide (i3 < 0))
 (Q (vI 2) h_5)
 (br (decide (i3 > 7))
 (Q (vI 2) h_5)
 (Tri Tryz.prog 66 [vI i5] h_5 fun v_6 h_6 =>
 ∃ (c4 : Bool), v_6 = vB c4 ∧
 br c4
 (br (decide (i4 < lo))
 (Q (vI 2) h_6)
 (br (decide (i4 > hi))
 (Q (vI 2) h_6)
 (Q (vI 0) h_6)))
 (Q (vI 0) h_6)))))
def lim33 (i1 i2 i3 i4 i5 : Int) (h_4 : PHeap) (Q : Value → PHeap → Prop) : Prop :=
 br (decide (i5 ≥ 4))
 (Tri Tryz.prog 67 [vI i1] h_4 fun v_5 h_5 =>
 ∃ (i7 i8 i9 : Int), v_5 = vT [vI i7, vI i8, vI i9] ∧ lo33 i2 i3 i4 i5 i7 i8 h_5 Q)
 (lo33 i2 i3 i4 i5 0 7 h_4 Q)
def c33 (i1 i2 i3 i4 i5 : Int) (h_3 : PHeap) (Q : Value → PHeap → Prop) : Prop :=
 Tri Tryz.prog 66 [vI i5] h_3 fun v_4 h_4 =>
 ∃ (c3 : Bool), v_4 = vB c3 ∧
 br (!c3)
 (br (i4 != 0)
 (Q (vI 1) h_4)
 (lim33 i1 i2 i3 i4 i5 h_4 Q))
 (lim33 i1 i2 i3 i4 i5 h_4 Q)
def b33 (i1 i2 i3 i4 i5 : Int) (h_2 : PHeap) (Q : Value → PHeap → Prop) : Prop :=
 Tri Tryz.prog 65 [vI i5] h_2 fun v_3 h_3 =>
 ∃ (c2 : Bool), v_3 = vB c2 ∧
 br (!c2)
 (br (i3 != 0)
 (Q (vI 1) h_3)
 (c33 i1 i2 i3 i4 i5 h_3 Q))
 (c33 i1 i2 i3 i4 i5 h_3 Q)
theorem rcheck_t (x : Ins) : Tri Tryz.prog 33 [vA (insC x)] h fun v h' => v = vI (checkI x : Int) ∧ h' = h := by
 refine T33 ?_
 unfold R33
 refine Tri.mono (rform_t x.op) ?_
 rintro _ h1 ⟨rfl, rfl⟩
 by_cases hop : 0 ≤ x.op ∧ x.op ≤ 26
 rotate_left
 · rw [if_neg hop]
   refine ⟨_, _, rfl, br_pos rfl ?_⟩
   have : checkI x = 11 := by unfold checkI; rw [if_pos (by omega)]
   rw [this]; exact ⟨rfl, rfl⟩
 rw [if_pos hop]
 refine ⟨_, _, rfl, br_neg rfl ?_⟩
 obtain ⟨op, xa, xb, xc⟩ := x
 obtain ⟨k, hk⟩ : ∃ k : Nat, op = (k : Int) := ⟨op.toNat, by simp only at hop; omega⟩
 subst hk
 simp only at hop
 have hk27 : k < 27 := by omega
 show Tri Tryz.prog 64 [vI (form ((k : Int)).toNat : Nat)] h1 _
 have hck : checkI ⟨(k : Int), xa, xb, xc⟩ = if (!hasA (form k) && xa != 0) || (!hasB (form k) && xb != 0) || (!hasC (form k) && xc != 0) then 1
  else if xa < 0 ∨ 7 < xa ∨ xb < 0 ∨ 7 < xb ∨ (hasC (form k) = true ∧ (xc < (if 4 ≤ form k then limits k else (0, 7)).1 ∨ (if 4 ≤ form k then limits k else (0, 7)).2 < xc)) then 2 else 0 := by
  unfold checkI
  rw [if_neg (by simp only; omega)]
  simp only [Int.toNat_natCast]
 rw [Int.toNat_natCast]
 have lo : ∀ (lo hi : Int), (if 4 ≤ form k then limits k else (0, 7)) = (lo, hi) → ((!hasA (form k) && xa != 0) || (!hasB (form k) && xb != 0) || (!hasC (form k) && xc != 0)) = false →
  lo33 xa xb xc (form k : Nat) lo hi h1 fun v h' => v = vI (checkI ⟨(k : Int), xa, xb, xc⟩ : Int) ∧ h' = h1 := fun lo hi hlh hno => by
  rw [hno, hlh] at hck
  simp only [Bool.false_eq_true, if_false] at hck
  unfold lo33
  have two : xa < 0 ∨ 7 < xa ∨ xb < 0 ∨ 7 < xb ∨ (hasC (form k) = true ∧ (xc < lo ∨ hi < xc)) → vI 2 = vI (checkI ⟨(k : Int), xa, xb, xc⟩ : Int) := fun hh => by rw [hck, if_pos hh]; rfl
  refine br_split (fun e1 => ⟨two (.inl (of_decide_eq_true e1)), rfl⟩) fun e1 => br_split (fun e2 => ⟨two (.inr (.inl (of_decide_eq_true e2))), rfl⟩) fun e2 => br_split (fun e3 => ⟨two (.inr (.inr (.inl (of_decide_eq_true e3)))), rfl⟩) fun e3 => br_split (fun e4 => ⟨two (.inr (.inr (.inr (.inl (of_decide_eq_true e4))))), rfl⟩) fun e4 => ?_
  have e1 := of_decide_eq_false e1
  have e2 := of_decide_eq_false e2
  have e3 := of_decide_eq_false e3
  have e4 := of_decide_eq_false e4
  refine Tri.mono (rhasC_t (form k)) ?_
  rintro _ h2 ⟨rfl, rfl⟩
  refine ⟨_, rfl, br_split (fun e5 => br_split (fun e6 => ⟨two (.inr (.inr (.inr (.inr ⟨e5, .inl (of_decide_eq_true e6)⟩)))), rfl⟩) fun e6 => br_split (fun e7 => ⟨two (.inr (.inr (.inr (.inr ⟨e5, .inr (of_decide_eq_true e7)⟩)))), rfl⟩) fun e7 => ?_) fun e5 => ?_⟩
  · have e6 := of_decide_eq_false e6
    have e7 := of_decide_eq_false e7
    rw [hck, if_neg (by rintro (hh | hh | hh | hh | ⟨_, hh⟩) <;> omega)]; exact ⟨rfl, rfl⟩
  · rw [hck, if_neg (by rintro (hh | hh | hh | hh | ⟨hh, _⟩); omega; omega; omega; omega; rw [e5] at hh; cases hh)]; exact ⟨rfl, rfl⟩
 have lim : ((!hasA (form k) && xa != 0) || (!hasB (form k) && xb != 0) || (!hasC (form k) && xc != 0)) = false →
  lim33 (k : Int) xa xb xc (form k : Nat) h1 fun v h' => v = vI (checkI ⟨(k : Int), xa, xb, xc⟩ : Int) ∧ h' = h1 := fun hno => by
  unfold lim33
  refine br_split (fun e => ?_) fun e => ?_
  · have e := of_decide_eq_true e
    refine Tri.mono (rlimits_t hk27 (by omega)) ?_
    rintro _ h2 ⟨rfl, rfl⟩
    exact ⟨_, _, _, rfl, lo _ _ (by rw [if_pos (by omega)]) hno⟩
  · have e := of_decide_eq_false e
    exact lo 0 7 (by rw [if_neg (by omega)]) hno
 have one : ((!hasA (form k) && xa != 0) || (!hasB (form k) && xb != 0) || (!hasC (form k) && xc != 0)) = true → vI 1 = vI (checkI ⟨(k : Int), xa, xb, xc⟩ : Int) ∧ h1 = h1 := fun hh => ⟨by rw [hck, if_pos hh]; rfl, rfl⟩
 have cc : ((!hasA (form k) && xa != 0) || (!hasB (form k) && xb != 0)) = false → c33 (k : Int) xa xb xc (form k : Nat) h1 fun v h' => v = vI (checkI ⟨(k : Int), xa, xb, xc⟩ : Int) ∧ h' = h1 := fun hno => by
  unfold c33
  refine Tri.mono (rhasC_t (form k)) ?_
  rintro _ h2 ⟨rfl, rfl⟩
  refine ⟨_, rfl, br_split (fun e => br_split (fun e' => one (by rw [e, e']; simp)) fun e' => lim (by rw [hno, e']; simp)) fun e => lim (by rw [hno, e]; rfl)⟩
 have bb : (!hasA (form k) && xa != 0) = false → b33 (k : Int) xa xb xc (form k : Nat) h1 fun v h' => v = vI (checkI ⟨(k : Int), xa, xb, xc⟩ : Int) ∧ h' = h1 := fun hno => by
  unfold b33
  refine Tri.mono (rhasB_t (form k)) ?_
  rintro _ h2 ⟨rfl, rfl⟩
  refine ⟨_, rfl, br_split (fun e => br_split (fun e' => one (by rw [e, e']; simp)) fun e' => cc (by rw [hno, e']; simp)) fun e => cc (by rw [hno, e]; rfl)⟩
 refine Tri.mono (rhasA_t (form k)) ?_
 rintro _ h2 ⟨rfl, rfl⟩
 refine ⟨_, rfl, br_split (fun e => br_split (fun e' => one (by rw [e, e']; simp)) fun e' => bb (by rw [e']; simp)) fun e => bb (by rw [e]; rfl)⟩
end
end Go.Proofs.D
namespace Go.Proofs.D
open Go Go.Den
set_option maxRecDepth 100000
set_option maxHeartbeats 4000000
noncomputable def d106 : DCode := up ⟨[], [], []⟩ (low Tryz.prog (fun _ => false) (Tryz.f106.body.getD .skip))
theorem low106 : low Tryz.prog (fun _ => false) (Tryz.f106.body.getD .skip) = some (eC d106) := by kernel_rfl
def R106 (h : PHeap) (Q : Value → PHeap → Prop) : Prop :=
 ∀ (b1 : Nat), h b1 = none → ∀ (h_1 : PHeap), h_1 = h.put b1 (.cells ⟨[vS [104, 97, 108, 116], vS [109, 111, 118, 101], vS [115, 101, 116], vS [104, 105, 103, 104], vS [97, 100, 100], vS [115, 117, 98], vS [109, 117, 108], vS [100, 105, 118], vS [109, 111, 100], vS [97, 110, 100], vS [111, 114], vS [120, 111, 114], vS [115, 104, 108], vS [115, 104, 114], vS [108, 101, 115, 115], vS [101, 113, 117, 97, 108], vS [97, 100, 100, 105], vS [108, 111, 97, 100], vS [115, 116, 111, 114, 101], vS [108, 111, 97, 100, 98], vS [115, 116, 111, 114, 101, 98], vS [106, 117, 109, 112], vS [106, 117, 109, 112, 122], vS [106, 117, 109, 112, 110, 122], vS [99, 97, 108, 108], vS [98, 97, 99, 107], vS [116, 114, 97, 112]]⟩ 9) →
 Q (vL (ad b1 0) 27 27) h_1
theorem T106 {h : PHeap} {Q : Value → PHeap → Prop} (hR : R106  h Q) : Tri Tryz.prog 106 [] h Q :=
 tri_of_dn mixed Tryz.func106 rfl (by kernel_rfl) low106 (rs := [.tmp 0]) (by kernel_rfl) rfl (Eq.mpr (by kernel_rfl : dnF Tryz.prog Tryz.f106.ntmps d106 [.tmp 0] [] h Q = R106  h Q) hR)
end Go.Proofs.D
namespace Go.Proofs.D
open Go Go.Den Go.As
set_option maxRecDepth 100000
theorem word_cell (k : Nat) (hk : k < 27) : (wordsB.map vS)[k]? = some (vS (wordT k)) := by
 rw [List.getElem?_map]
 have : k < wordsB.length := hk
 rw [List.getElem?_eq_getElem this]
 unfold wordT
 rw [List.getD_eq_getElem?_getD, List.getElem?_eq_getElem this]; rfl
attribute [local irreducible] IntKind.wrap Tri
section
variable {h : PHeap}
theorem decI_t (n : Int) (h1 : -1000000000 ≤ n) (h2 : n ≤ 1000000000) : Tri Tryz.prog 18 [vI n] h fun v h' => v = vS (decI n) ∧ h' = h := by
 by_cases hn : n < 0
 · refine T18 ?_
   unfold R18
   refine br_pos (decide_eq_true hn) ?_
   have hw : IntKind.i64.wrap (0 - n) = ((n.natAbs : Nat) : Int) := by rw [wrap64 (by omega) (by omega)]; omega
   rw [hw]
   refine Tri.mono (decimal_t n.natAbs (by omega)) ?_
   rintro _ h1 ⟨rfl, rfl⟩
   have := digs_len 12 n.natAbs (by omega)
   refine ⟨_, rfl, by rw [List.length_singleton]; omega, ?_, rfl⟩
   unfold decI; rw [if_pos hn]; rfl
 · have := decimal_t n.toNat (by omega) (h := h)
   rw [show ((n.toNat : Nat) : Int) = n by omega] at this
   unfold decI
   rw [if_neg hn]
   exact this
theorem rword_t {k : Nat} (hk : k < 27) : Tri Tryz.prog 68 [vI (k : Int)] h fun v h' => v = vS (wordT k) ∧ Ext h h' := by
 refine T68 ?_
 unfold R68
 refine br_neg (decide_eq_false (by omega)) (br_neg (decide_eq_false (by omega)) ?_)
 refine T106 ?_
 unfold R106
 intro b1 hb1 h1 hh1
 refine ⟨_, _, _, rfl, b1, 0, rfl, ⟨by omega, by omega⟩, _, ?_, rfl, Put.ext hh1 hb1⟩
 rw [Int.toNat_natCast, Nat.zero_add, Nat.mul_one, cell_of (Put.at hh1)]
 exact word_cell k hk
theorem rline_t {x : Ins} (e : checkI x = 0) : Tri Tryz.prog 34 [vA (insC x)] h fun v h' => v = vS (lineT x) ∧ Ext h h' := by
 refine T34 ?_
 unfold R34
 have hok := ins_ok e
 have hll := line_len e
 obtain ⟨op, xa, xb, xc⟩ := x
 obtain ⟨k, hk⟩ : ∃ k : Nat, op = (k : Int) := ⟨op.toNat, by have := hok.op; simp only at this; omega⟩
 subst hk
 have hk27 : k < 27 := by have := hok.op; simp only at this; omega
 have ha := hok.a
 have hb := hok.b
 have hc : -100000 ≤ xc ∧ xc ≤ 100000 := by
  have h3 := hok.c3
  have h4 := hok.c4
  have h0 := hok.c0
  have hlim := limits_small k
  simp only [Int.toNat_natCast] at h3 h4 h0
  by_cases f3 : form k = 3
  · have := h3 f3; omega
  by_cases f4 : 4 ≤ form k
  · have := h4 f4; omega
  · have : xc = 0 := h0 (by unfold hasC; have := form_le k; simp; omega)
    omega
 simp only at ha hb
 have la := regT_len ha
 have lb := regT_len hb
 have lc : (decI xc).length ≤ 11 := decI_len (by omega) (by omega)
 have wl : (wordT k).length ≤ 6 := (word_all ⟨k, hk27⟩).2.2.2
 refine Tri.mono (rform_t (k : Int)) ?_
 rintro _ h1 ⟨rfl, rfl⟩
 rw [if_pos (by omega), Int.toNat_natCast]
 refine ⟨_, _, rfl, ?_⟩
 refine Tri.mono (rword_t hk27) ?_
 rintro _ h2 ⟨rfl, x2⟩
 refine ⟨_, rfl, ?_⟩
 refine Tri.mono (decI_t xa (by omega) (by omega)) ?_
 rintro _ h3 ⟨rfl, rfl⟩
 refine ⟨_, rfl, rfl, rfl, by rw [List.length_singleton]; omega, ?_⟩
 refine Tri.mono (decI_t xb (by omega) (by omega)) ?_
 rintro _ h3 ⟨rfl, rfl⟩
 refine ⟨_, rfl, rfl, by rw [List.length_singleton]; omega, ?_⟩
 refine Tri.mono (decI_t xc (by omega) (by omega)) ?_
 rintro _ h3 ⟨rfl, rfl⟩
 refine ⟨_, rfl, by rw [List.length_singleton]; omega, ?_⟩
 refine Tri.mono (decI_t xc (by omega) (by omega)) ?_
 rintro _ h3 ⟨rfl, rfl⟩
 refine ⟨_, rfl, ?_⟩
 iterate 18 (refine ⟨by simp only [List.length_append, List.length_cons, List.length_nil]; omega, ?_⟩)
 intro b1 hb1 h4 hh4
 have x4 := Put.ext hh4 hb1
 have f6 := form_le k
 have hlt : lineT ⟨(k : Int), xa, xb, xc⟩ = stmtT (wordT k) (operT ⟨(k : Int), xa, xb, xc⟩) := by unfold lineT; rw [Int.toNat_natCast]
 refine ⟨b1, 0, rfl, ⟨by omega, by omega⟩, ?_⟩
 rw [Int.toNat_natCast, Nat.zero_add, Nat.mul_one, cell_of (Put.at hh4)]
 have hop : operT ⟨(k : Int), xa, xb, xc⟩ = operT ⟨((k : Nat) : Int), xa, xb, xc⟩ := rfl
 unfold operT at hlt
 rw [Int.toNat_natCast] at hlt
 have fin : ∀ l6 : Bytes, lineT ⟨(k : Int), xa, xb, xc⟩ = wordT k ++ l6 → (wordT k).length + l6.length ≤ 9223372036854775807 ∧ vS (wordT k ++ l6) = vS (lineT ⟨(k : Int), xa, xb, xc⟩) ∧ Ext h1 h4 := fun l6 hl6 => by
  refine ⟨?_, by rw [hl6], x2.trans x4⟩
  have := congrArg List.length hl6
  rw [List.length_append] at this
  omega
 generalize form k = f at *
 match f, f6 with
 | 0, _ => exact ⟨_, rfl, fin _ (by rw [hlt]; simp [stmtT])⟩
 | 1, _ => exact ⟨_, rfl, fin _ (by rw [hlt]; simp [stmtT, commaT, regT])⟩
 | 2, _ => exact ⟨_, rfl, fin _ (by rw [hlt]; simp [stmtT, commaT, regT])⟩
 | 3, _ => exact ⟨_, rfl, fin _ (by rw [hlt]; simp [stmtT, commaT, regT])⟩
 | 4, _ => exact ⟨_, rfl, fin _ (by rw [hlt]; simp [stmtT, commaT, regT])⟩
 | 5, _ => exact ⟨_, rfl, fin _ (by rw [hlt]; simp [stmtT, commaT, regT])⟩
 | 6, _ => exact ⟨_, rfl, fin _ (by rw [hlt]; simp [stmtT, commaT, regT])⟩
 | n + 7, hh => omega
end
theorem lines_tri {h : PHeap} (hO : OpTab h) (hM : MaxLen h) (hP : PowTab h) (x : Ins) : Tri Tryz.prog 10 [vA (insC x)] h fun v h' => v = vB true ∧ ∀ k o, h k = some o → h' k = some o := by
 refine T10 ?_
 unfold R10
 refine Tri.mono (line32_t hO hP x) ?_
 rintro _ h1 ⟨rfl, x1⟩
 have kn : Tri Tryz.prog 15 [] h1 fun v h' => v = vB true ∧ Ext h1 h' := known_t (hO.ext x1) (hM.ext x1)
 by_cases e : checkI x = 0
 · refine ⟨lineT x, 0, by unfold lineV; rw [if_neg (by simp [e])], ?_⟩
   refine Tri.mono kn ?_
   rintro _ h2 ⟨rfl, x2⟩
   have x12 := x1.trans x2
   refine ⟨_, rfl, br_neg rfl ?_⟩
   refine Tri.mono (rcheck_t x) ?_
   rintro _ h3 ⟨rfl, rfl⟩
   rw [e]
   refine ⟨_, rfl, br_neg rfl (br_neg rfl ?_)⟩
   refine Tri.mono (asm_t (lineT x) (hO.ext x12) (hM.ext x12)) ?_
   rintro v h4 ⟨x4, hr⟩
   rw [line_back e] at hr
   obtain ⟨a1, k1, a2, k2, rfl, hI, hL, _, _⟩ := hr
   refine ⟨_, _, _, _, _, _, _, _, _, _, _, rfl, ?_⟩
   refine Tri.mono (rline_t e) ?_
   rintro _ h5 ⟨rfl, x5⟩
   obtain ⟨b, o, ha, hrow⟩ := (hI.ext x5).get (j := 0) rfl
   rw [Nat.zero_mul, Nat.add_zero] at hrow
   exact ⟨_, rfl, br_pos (by simp) (br_pos rfl (br_pos rfl ⟨b, o, ha, (by show 0 ≤ (0 : Int) ∧ (0 : Int) < ((1 : Nat) : Int); decide), _, _, _, _, hrow, true, by
    have := pure_eql (ρ := rho [(59, vA (insC x)), (60, vA (insC x))]) (x := .tmp 59) (y := .tmp 60) (t' := 58) (ty := 4) (b := decide (x = x)) (xs := insC x) (ys := insC x) rfl rfl (by kernel_rfl) (eq_ins x x)
    rw [decide_eq_true rfl] at this
    exact this, rfl, (x12.trans x4).trans x5⟩))⟩
 · refine ⟨[], (checkI x : Int), by unfold lineV; rw [if_pos e], ?_⟩
   refine Tri.mono kn ?_
   rintro _ h2 ⟨rfl, x2⟩
   refine ⟨_, rfl, br_neg rfl ?_⟩
   refine Tri.mono (rcheck_t x) ?_
   rintro _ h3 ⟨rfl, rfl⟩
   exact ⟨_, rfl, br_neg (by simp) (br_pos (by simp; omega) ⟨rfl, x1.trans x2⟩)⟩
end Go.Proofs.D
namespace Go.Proofs.D
open Go Go.Den
set_option maxRecDepth 100000
set_option maxHeartbeats 4000000
abbrev erk1 : List CK := [qi, qi, qi, qi]
abbrev erk2 : List CK := [.slice, .str, qi, qi, .slice]
noncomputable def d22 : DCode := up ⟨[(11, .l [.slice]), (17, .l [.slice]), (20, .l erk1), (21, .c (.one false [qi])), (26, .l [qi]), (30, .l [qi]), (34, .l erk2), (35, .c (.one false [qi])), (37, .l [.str]), (41, .l [qi]), (47, .l [.slice]), (52, .l [qi]), (56, .l [qi]), (62, .l [qi]), (64, .l [.slice]), (71, .l [.slice]), (77, .l [.slice]), (80, .l [.str, .bool, qi]), (83, .l [.str]), (84, .c (.one false [.bool])), (88, .l [qi]), (92, .l [.bool]), (96, .l [qi]), (101, .l [qi]), (103, .l [.slice]), (112, .l [.bool]), (115, .l [qi]), (117, .l [.str]), (120, .l [qi]), (130, .l [.slice]), (134, .l [.str, .bool, qi]), (135, .l [.str, .bool, qi]), (136, .c (.one false [.bool])), (141, .l [.slice]), (152, .l [.slice]), (156, .l [.str]), (158, .l [.slice]), (162, .l [.str])], [], [(9, 19, [(3, qi)], []), (69, 73, [(5, qi)], []), (139, 28, [(7, qi)], []), (146, 20, [(8, qi)], [])]⟩ (low Tryz.prog (fun _ => false) (Tryz.f22.body.getD .skip))
theorem low22 : low Tryz.prog (fun _ => false) (Tryz.f22.body.getD .skip) = some (eC d22) := by kernel_rfl
def R22 (a1 : OA) (n1 : Nat) (erk1 : Nat) (l1 : Bs) (i1 : Int) (i2 : Int) (a2 : OA) (n2 : Nat) (erk2 : Nat) (h : PHeap) (Q : Value → PHeap → Prop) : Prop :=
 ∃ (I_1 : Nat → Int → PHeap → Prop), (∃ (m2 : Nat), I_1 m2 (0 : Int) h) ∧
 ∀ (m1 : Nat) (i3 : Int) (h_1 : PHeap), I_1 m1 i3 h_1 →
 br (decide (i3 < ((n1 : Nat) : Int)))
 (∃ (b1 o1 : Nat), a1 = some ⟨b1, o1, none⟩ ∧ (0 ≤ i3 ∧ i3 < n1) ∧
 ∃ (i4 i5 i6 i7 : Int), h_1.row b1 (o1 + (i3).toNat * 4) [vI i4, vI i5, vI i6, vI i7] ∧
 Tri Tryz.prog 33 [vA [vI i4, vI i5, vI i6, vI i7]] h_1 fun v_1 h_2 =>
 ∃ (i8 : Int), v_1 = vI i8 ∧
 br (i8 != 0)
 (Q (vI i8) h_2)
 (∃ (m3 : Nat), m3 < m1 ∧ I_1 m3 (IntKind.i64.wrap (i3 + 1)) h_2 ∧
 tv [vL a1 n1 erk1, vS l1, vI i1, vI i2, vL a2 n2 erk2] ∧ True))
 (br (decide (i1 < 0))
 ((tv [vI i1]) ∧
 Q (vI 9) h_1)
 (br (decide (i1 > 4096))
 ((tv [vI i1]) ∧
 (tv [vI i1]) ∧
 Q (vI 9) h_1)
 (Tri Tryz.prog 26 [vA [vL a1 n1 erk1, vS l1, vI i1, vI i2, vL a2 n2 erk2]] h_1 fun v_2 h_3 =>
 ∃ (i9 : Int), v_2 = vI i9 ∧
 (tv [vI i1]) ∧
 (tv [vS l1]) ∧
 (tv [vI i1]) ∧
 (tv [vI i1]) ∧
 br (decide ((IntKind.i64.wrap ((IntKind.i64.wrap (i9 + (l1.length : Int))) + i1)) > 4096))
 (Q (vI 9) h_3)
 (br (decide (((n2 : Nat) : Int) > 1024))
 (Q (vI 9) h_3)
 (br (decide (i2 < 0))
 (Q (vI 2) h_3)
 (br ((Int.tmod i2 4) != 0)
 (Q (vI 2) h_3)
 (br (decide (i2 ≥ (IntKind.i64.wrap (4 * ((n1 : Nat) : Int)))))
 (Q (vI 2) h_3)
 (∃ (I_2 : Nat → Int → PHeap → Prop), (∃ (m5 : Nat), I_2 m5 (0 : Int) h_3) ∧
 ∀ (m4 : Nat) (i10 : Int) (h_4 : PHeap), I_2 m4 i10 h_4 →
 br (decide (i10 < ((n2 : Nat) : Int)))
 (∃ (b2 o2 : Nat), a2 = some ⟨b2, o2, none⟩ ∧ (0 ≤ i10 ∧ i10 < n2) ∧
 ∃ (l2 : Bs) (c1 : Bool) (i11 : Int), h_4.row b2 (o2 + (i10).toNat * 3) [vS l2, vB c1, vI i11] ∧
 Tri Tryz.prog 28 [vS l2] h_4 fun v_3 h_5 =>
 ∃ (c2 : Bool), v_3 = vB c2 ∧
 br (!c2)
 (Q (vI 12) h_5)
 (br (decide (i11 < 0))
 (Q (vI 2) h_5)
 (br (!c1)
 (br ((Int.tmod i11 4) != 0)
 (Q (vI 2) h_5)
 (br (decide (i11 > (IntKind.i64.wrap (4 * ((n1 : Nat) : Int)))))
 (Q (vI 2) h_5)
 (br c1
 (br (decide (i11 > (IntKind.i64.wrap ((l1.length : Int) + i1))))
 (Q (vI 2) h_5)
 (br (decide (i10 > 0))
 (∃ (b3 o3 : Nat), a2 = some ⟨b3, o3, none⟩ ∧ (0 ≤ (IntKind.i64.wrap (i10 - 1)) ∧ (IntKind.i64.wrap (i10 - 1)) < n2) ∧
 ∃ (l3 : Bs) (c3 : Bool) (i12 : Int), h_5.row b3 (o3 + (IntKind.i64.wrap (i10 - 1)).toNat * 3) [vS l3, vB c3, vI i12] ∧
 Tri Tryz.prog 45 [vA [vS l3, vB c3, vI i12], vA [vS l2, vB c1, vI i11]] h_5 fun v_4 h_6 =>
 ∃ (c4 : Bool), v_4 = vB c4 ∧
 (tv [vL a2 n2 erk2]) ∧
 br (!c4)
 (Q (vI 32) h_6)
 (∃ (m6 : Nat), m6 < m4 ∧ I_2 m6 (IntKind.i64.wrap (i10 + 1)) h_6 ∧
 tv [vL a1 n1 erk1, vS l1, vI i1, vI i2, vL a2 n2 erk2] ∧ True))
 (∃ (m7 : Nat), m7 < m4 ∧ I_2 m7 (IntKind.i64.wrap (i10 + 1)) h_5 ∧
 tv [vL a1 n1 erk1, vS l1, vI i1, vI i2, vL a2 n2 erk2] ∧ True)))
 (br (decide (i10 > 0))
 (∃ (b4 o4 : Nat), a2 = some ⟨b4, o4, none⟩ ∧ (0 ≤ (IntKind.i64.wrap (i10 - 1)) ∧ (IntKind.i64.wrap (i10 - 1)) < n2) ∧
 ∃ (l4 : Bs) (c5 : Bool) (i13 : Int), h_5.row b4 (o4 + (IntKind.i64.wrap (i10 - 1)).toNat * 3) [vS l4, vB c5, vI i13] ∧
 Tri Tryz.prog 45 [vA [vS l4, vB c5, vI i13], vA [vS l2, vB c1, vI i11]] h_5 fun v_5 h_7 =>
 ∃ (c6 : Bool), v_5 = vB c6 ∧
 (tv [vL a2 n2 erk2]) ∧
 br (!c6)
 (Q (vI 32) h_7)
 (∃ (m8 : Nat), m8 < m4 ∧ I_2 m8 (IntKind.i64.wrap (i10 + 1)) h_7 ∧
 tv [vL a1 n1 erk1, vS l1, vI i1, vI i2, vL a2 n2 erk2] ∧ True))
 (∃ (m9 : Nat), m9 < m4 ∧ I_2 m9 (IntKind.i64.wrap (i10 + 1)) h_5 ∧
 tv [vL a1 n1 erk1, vS l1, vI i1, vI i2, vL a2 n2 erk2] ∧ True)))))
 (br c1
 (br (decide (i11 > (IntKind.i64.wrap ((l1.length : Int) + i1))))
 (Q (vI 2) h_5)
 (br (decide (i10 > 0))
 (∃ (b5 o5 : Nat), a2 = some ⟨b5, o5, none⟩ ∧ (0 ≤ (IntKind.i64.wrap (i10 - 1)) ∧ (IntKind.i64.wrap (i10 - 1)) < n2) ∧
 ∃ (l5 : Bs) (c7 : Bool) (i14 : Int), h_5.row b5 (o5 + (IntKind.i64.wrap (i10 - 1)).toNat * 3) [vS l5, vB c7, vI i14] ∧
 Tri Tryz.prog 45 [vA [vS l5, vB c7, vI i14], vA [vS l2, vB c1, vI i11]] h_5 fun v_6 h_8 =>
 ∃ (c8 : Bool), v_6 = vB c8 ∧
 (tv [vL a2 n2 erk2]) ∧
 br (!c8)
 (Q (vI 32) h_8)
 (∃ (m10 : Nat), m10 < m4 ∧ I_2 m10 (IntKind.i64.wrap (i10 + 1)) h_8 ∧
 tv [vL a1 n1 erk1, vS l1, vI i1, vI i2, vL a2 n2 erk2] ∧ True))
 (∃ (m11 : Nat), m11 < m4 ∧ I_2 m11 (IntKind.i64.wrap (i10 + 1)) h_5 ∧
 tv [vL a1 n1 erk1, vS l1, vI i1, vI i2, vL a2 n2 erk2] ∧ True)))
 (br (decide (i10 > 0))
 (∃ (b6 o6 : Nat), a2 = some ⟨b6, o6, none⟩ ∧ (0 ≤ (IntKind.i64.wrap (i10 - 1)) ∧ (IntKind.i64.wrap (i10 - 1)) < n2) ∧
 ∃ (l6 : Bs) (c9 : Bool) (i15 : Int), h_5.row b6 (o6 + (IntKind.i64.wrap (i10 - 1)).toNat * 3) [vS l6, vB c9, vI i15] ∧
 Tri Tryz.prog 45 [vA [vS l6, vB c9, vI i15], vA [vS l2, vB c1, vI i11]] h_5 fun v_7 h_9 =>
 ∃ (c10 : Bool), v_7 = vB c10 ∧
 (tv [vL a2 n2 erk2]) ∧
 br (!c10)
 (Q (vI 32) h_9)
 (∃ (m12 : Nat), m12 < m4 ∧ I_2 m12 (IntKind.i64.wrap (i10 + 1)) h_9 ∧
 tv [vL a1 n1 erk1, vS l1, vI i1, vI i2, vL a2 n2 erk2] ∧ True))
 (∃ (m13 : Nat), m13 < m4 ∧ I_2 m13 (IntKind.i64.wrap (i10 + 1)) h_5 ∧
 tv [vL a1 n1 erk1, vS l1, vI i1, vI i2, vL a2 n2 erk2] ∧ True))))))
 (∃ (I_3 : Nat → Int → PHeap → Prop), (∃ (m15 : Nat), I_3 m15 (0 : Int) h_4) ∧
 ∀ (m14 : Nat) (i16 : Int) (h_10 : PHeap), I_3 m14 i16 h_10 →
 br (decide (i16 < ((n2 : Nat) : Int)))
 (∃ (I_4 : Nat → Int → PHeap → Prop), (∃ (m17 : Nat), I_4 m17 (0 : Int) h_10) ∧
 ∀ (m16 : Nat) (i17 : Int) (h_11 : PHeap), I_4 m16 i17 h_11 →
 br (decide (i17 < i16))
 (∃ (b7 o7 : Nat), a2 = some ⟨b7, o7, none⟩ ∧ (0 ≤ i17 ∧ i17 < n2) ∧
 ∃ (l7 : Bs), h_11.cell b7 (o7 + (i17).toNat * 3) = some (vS l7) ∧
 ∃ (b8 o8 : Nat), a2 = some ⟨b8, o8, none⟩ ∧ (0 ≤ i16 ∧ i16 < n2) ∧
 ∃ (l8 : Bs), h_11.cell b8 (o8 + (i16).toNat * 3) = some (vS l8) ∧
 br (l7 == l8)
 (Q (vI 7) h_11)
 (∃ (m18 : Nat), m18 < m16 ∧ I_4 m18 (IntKind.i64.wrap (i17 + 1)) h_11 ∧
 tv [vL a1 n1 erk1, vS l1, vI i1, vI i2, vL a2 n2 erk2] ∧ True))
 (∃ (m19 : Nat), m19 < m14 ∧ I_3 m19 (IntKind.i64.wrap (i16 + 1)) h_11 ∧
 tv [vL a1 n1 erk1, vS l1, vI i1, vI i2, vL a2 n2 erk2] ∧ True))
 (Q (vI 0) h_10))))))))))
theorem T22 {a1 : OA} {n1 : Nat} {erk1 : Nat} {l1 : Bs} {i1 : Int} {i2 : Int} {a2 : OA} {n2 : Nat} {erk2 : Nat} {h : PHeap} {Q : Value → PHeap → Prop} (hR : R22 a1 n1 erk1 l1 i1 i2 a2 n2 erk2 h Q) : Tri Tryz.prog 22 [vA [vL a1 n1 erk1, vS l1, vI i1, vI i2, vL a2 n2 erk2]] h Q :=
 tri_of_dn mixed Tryz.func22 rfl (by kernel_rfl) low22 (rs := [.tmp 2]) (by kernel_rfl) rfl (Eq.mpr (by kernel_rfl : dnF Tryz.prog Tryz.f22.ntmps d22 [.tmp 2] [vA [vL a1 n1 erk1, vS l1, vI i1, vI i2, vL a2 n2 erk2]] h Q = R22 a1 n1 erk1 l1 i1 i2 a2 n2 erk2 h Q) hR)
noncomputable def d23 : DCode := up ⟨[(8, .l [.slice]), (14, .l [.slice]), (18, .l [.str]), (23, .l [.slice]), (27, .l [.bool]), (29, .l erk2), (30, .c (.one false [qi])), (32, .l [.slice]), (36, .l [qi]), (39, .l [.slice]), (43, .l [.str]), (47, .l [.slice]), (51, .l [qi])], [], [(6, 48, [(5, qi)], [])]⟩ (low Tryz.prog (fun _ => false) (Tryz.f23.body.getD .skip))
theorem low23 : low Tryz.prog (fun _ => false) (Tryz.f23.body.getD .skip) = some (eC d23) := by kernel_rfl
def R23 (a1 : OA) (n1 : Nat) (erk1 : Nat) (l1 : Bs) (i1 : Int) (i2 : Int) (a2 : OA) (n2 : Nat) (erk2 : Nat) (l2 : Bs) (h : PHeap) (Q : Value → PHeap → Prop) : Prop :=
 ∃ (I_1 : Nat → Int → PHeap → Prop), (∃ (m2 : Nat), I_1 m2 (0 : Int) h) ∧
 ∀ (m1 : Nat) (i3 : Int) (h_1 : PHeap), I_1 m1 i3 h_1 →
 br (decide (i3 < ((n2 : Nat) : Int)))
 (∃ (b1 o1 : Nat), a2 = some ⟨b1, o1, none⟩ ∧ (0 ≤ i3 ∧ i3 < n2) ∧
 ∃ (l3 : Bs), h_1.cell b1 (o1 + (i3).toNat * 3) = some (vS l3) ∧
 br (l3 == l2)
 (∃ (b2 o2 : Nat), a2 = some ⟨b2, o2, none⟩ ∧ (0 ≤ i3 ∧ i3 < n2) ∧
 ∃ (c1 : Bool), h_1.cell b2 ((o2 + (i3).toNat * 3) + 1) = some (vB c1) ∧
 br c1
 (∃ (b3 o3 : Nat), a2 = some ⟨b3, o3, none⟩ ∧ (0 ≤ i3 ∧ i3 < n2) ∧
 ∃ (i4 : Int), h_1.cell b3 ((o3 + (i3).toNat * 3) + 2) = some (vI i4) ∧
 Tri Tryz.prog 26 [vA [vL a1 n1 erk1, vS l1, vI i1, vI i2, vL a2 n2 erk2]] h_1 fun v_1 h_2 =>
 ∃ (i5 : Int), v_1 = vI i5 ∧
 (h_2.cell b3 ((o3 + (i3).toNat * 3) + 2) = some (vI i4)) ∧
 (tv [vL a2 n2 erk2]) ∧
 Q (vI (IntKind.i64.wrap (i5 + i4))) h_2)
 (∃ (b4 o4 : Nat), a2 = some ⟨b4, o4, none⟩ ∧ (0 ≤ i3 ∧ i3 < n2) ∧
 ∃ (l4 : Bs), h_1.cell b4 (o4 + (i3).toNat * 3) = some (vS l4) ∧
 br (l4 == l2)
 (∃ (b5 o5 : Nat), a2 = some ⟨b5, o5, none⟩ ∧ (0 ≤ i3 ∧ i3 < n2) ∧
 ∃ (i6 : Int), h_1.cell b5 ((o5 + (i3).toNat * 3) + 2) = some (vI i6) ∧
 Q (vI i6) h_1)
 (∃ (m3 : Nat), m3 < m1 ∧ I_1 m3 (IntKind.i64.wrap (i3 + 1)) h_1 ∧
 tv [vL a1 n1 erk1, vS l1, vI i1, vI i2, vL a2 n2 erk2] ∧ True)))
 (∃ (b6 o6 : Nat), a2 = some ⟨b6, o6, none⟩ ∧ (0 ≤ i3 ∧ i3 < n2) ∧
 ∃ (l5 : Bs), h_1.cell b6 (o6 + (i3).toNat * 3) = some (vS l5) ∧
 br (l5 == l2)
 (∃ (b7 o7 : Nat), a2 = some ⟨b7, o7, none⟩ ∧ (0 ≤ i3 ∧ i3 < n2) ∧
 ∃ (i7 : Int), h_1.cell b7 ((o7 + (i3).toNat * 3) + 2) = some (vI i7) ∧
 Q (vI i7) h_1)
 (∃ (m4 : Nat), m4 < m1 ∧ I_1 m4 (IntKind.i64.wrap (i3 + 1)) h_1 ∧
 tv [vL a1 n1 erk1, vS l1, vI i1, vI i2, vL a2 n2 erk2] ∧ True)))
 (Q (vI (-1)) h_1)
theorem T23 {a1 : OA} {n1 : Nat} {erk1 : Nat} {l1 : Bs} {i1 : Int} {i2 : Int} {a2 : OA} {n2 : Nat} {erk2 : Nat} {l2 : Bs} {h : PHeap} {Q : Value → PHeap → Prop} (hR : R23 a1 n1 erk1 l1 i1 i2 a2 n2 erk2 l2 h Q) : Tri Tryz.prog 23 [vA [vL a1 n1 erk1, vS l1, vI i1, vI i2, vL a2 n2 erk2], vS l2] h Q :=
 tri_of_dn mixed Tryz.func23 rfl (by kernel_rfl) low23 (rs := [.tmp 4]) (by kernel_rfl) rfl (Eq.mpr (by kernel_rfl : dnF Tryz.prog Tryz.f23.ntmps d23 [.tmp 4] [vA [vL a1 n1 erk1, vS l1, vI i1, vI i2, vL a2 n2 erk2], vS l2] h Q = R23 a1 n1 erk1 l1 i1 i2 a2 n2 erk2 l2 h Q) hR)
noncomputable def d26 : DCode := up ⟨[(4, .l [.slice])], [], []⟩ (low Tryz.prog (fun _ => false) (Tryz.f26.body.getD .skip))
theorem low26 : low Tryz.prog (fun _ => false) (Tryz.f26.body.getD .skip) = some (eC d26) := by kernel_rfl
def R26 (a1 : OA) (n1 : Nat) (erk1 : Nat) (l1 : Bs) (i1 : Int) (i2 : Int) (a2 : OA) (n2 : Nat) (erk2 : Nat) (h : PHeap) (Q : Value → PHeap → Prop) : Prop :=
 Q (vI (IntKind.i64.wrap ((IntKind.i64.wrap (Int.tdiv (IntKind.i64.wrap ((IntKind.i64.wrap (4 * ((n1 : Nat) : Int))) + 63)) 64)) * 64))) h
theorem T26 {a1 : OA} {n1 : Nat} {erk1 : Nat} {l1 : Bs} {i1 : Int} {i2 : Int} {a2 : OA} {n2 : Nat} {erk2 : Nat} {h : PHeap} {Q : Value → PHeap → Prop} (hR : R26 a1 n1 erk1 l1 i1 i2 a2 n2 erk2 h Q) : Tri Tryz.prog 26 [vA [vL a1 n1 erk1, vS l1, vI i1, vI i2, vL a2 n2 erk2]] h Q :=
 tri_of_dn mixed Tryz.func26 rfl (by kernel_rfl) low26 (rs := [.tmp 2]) (by kernel_rfl) rfl (Eq.mpr (by kernel_rfl : dnF Tryz.prog Tryz.f26.ntmps d26 [.tmp 2] [vA [vL a1 n1 erk1, vS l1, vI i1, vI i2, vL a2 n2 erk2]] h Q = R26 a1 n1 erk1 l1 i1 i2 a2 n2 erk2 h Q) hR)
abbrev o45_3 : Op := .binOp .lss 9 (.tmp 25) (.tmp 27) 9
noncomputable def d45 : DCode := up ⟨[(7, .l [.bool]), (9, .l [.bool]), (12, .l [.bool]), (15, .l [qi]), (17, .l [qi]), (20, .l [qi]), (22, .l [qi]), (25, .l [.str]), (27, .l [.str]), (28, .c (.one false [.bool]))], [], []⟩ (low Tryz.prog (fun _ => false) (Tryz.f45.body.getD .skip))
theorem low45 : low Tryz.prog (fun _ => false) (Tryz.f45.body.getD .skip) = some (eC d45) := by kernel_rfl
def R45 (l1 : Bs) (c1 : Bool) (i1 : Int) (l2 : Bs) (c2 : Bool) (i2 : Int) (h : PHeap) (Q : Value → PHeap → Prop) : Prop :=
 br (!(c1 == c2))
 (Q (vB c2) h)
 (br (i1 != i2)
 (Q (vB (decide (i1 < i2))) h)
 (∃ (c3 : Bool), PureRun Tryz.prog (execOp (rho [(25, vS l1), (27, vS l2)]) (mkO o45_3 4)) (vB c3) ∧
 Q (vB c3) h))
theorem T45 {l1 : Bs} {c1 : Bool} {i1 : Int} {l2 : Bs} {c2 : Bool} {i2 : Int} {h : PHeap} {Q : Value → PHeap → Prop} (hR : R45 l1 c1 i1 l2 c2 i2 h Q) : Tri Tryz.prog 45 [vA [vS l1, vB c1, vI i1], vA [vS l2, vB c2, vI i2]] h Q :=
 tri_of_dn mixed Tryz.func45 rfl (by kernel_rfl) low45 (rs := [.tmp 4]) (by kernel_rfl) rfl (Eq.mpr (by kernel_rfl : dnF Tryz.prog Tryz.f45.ntmps d45 [.tmp 4] [vA [vS l1, vB c1, vI i1], vA [vS l2, vB c2, vI i2]] h Q = R45 l1 c1 i1 l2 c2 i2 h Q) hR)
abbrev o19_0 : Op := .call { callee := (.builtin .min), args := #[(.tmp 10), (.const (vI 24))], argTypes := #[3, 3] }
abbrev o19_1 : Op := .call { callee := (.builtin .min), args := #[(.tmp 17), (.const (vI 200))], argTypes := #[3, 3] }
abbrev o19_4 : Op := .call { callee := (.builtin .min), args := #[(.tmp 42), (.const (vI 60))], argTypes := #[3, 3] }
abbrev o19_5 : Op := .call { callee := (.builtin .append), args := #[(.tmp 46), (.tmp 48)], argTypes := #[30, 30] }
noncomputable def d19 : DCode := up ⟨[(7, .l [.slice]), (9, .l [.slice]), (11, .c (.one false [qi])), (14, .l [.str]), (16, .l [.str]), (18, .c (.one false [qi])), (24, .l [.slice]), (34, .l [.slice]), (37, .l [.str, .bool, qi]), (39, .l [.str]), (41, .l [.str]), (43, .c (.one false [qi])), (47, .l [.str, .bool, qi]), (49, .c (.one false [.slice])), (52, .l erk2)], [], [(22, 31, [(3, .slice), (4, qi)], [])]⟩ (low Tryz.prog (fun _ => false) (Tryz.f19.body.getD .skip))
theorem low19 : low Tryz.prog (fun _ => false) (Tryz.f19.body.getD .skip) = some (eC d19) := by kernel_rfl
def R19 (a1 : OA) (n1 : Nat) (erk1 : Nat) (l1 : Bs) (i1 : Int) (i2 : Int) (a2 : OA) (n2 : Nat) (erk2 : Nat) (h : PHeap) (Q : Value → PHeap → Prop) : Prop :=
 ∃ (i3 : Int), PureRun Tryz.prog (execOp (rho [(10, vI ((n1 : Nat) : Int))]) (mkO o19_0 3)) (vI i3) ∧
 (okA a1 n1 erk1 ∧ 0 ≤ (0 : Int) ∧ (0 : Int) ≤ i3 ∧ i3 ≤ erk1) ∧ ∀ (a3 : OA), SlA a1 a3 0 erk1 4 →
 ∃ (i4 : Int), PureRun Tryz.prog (execOp (rho [(17, vI (l1.length : Int))]) (mkO o19_1 3)) (vI i4) ∧
 (0 ≤ (0 : Int) ∧ (0 : Int) ≤ i4 ∧ i4 ≤ (l1.length : Int)) ∧
 ∃ (I_1 : Nat → OA → Nat → Nat → Int → PHeap → Prop), (∃ (m2 : Nat), I_1 m2 none 0 0 (0 : Int) h) ∧
 ∀ (m1 : Nat) (a4 : OA) (n3 : Nat) (k3 : Nat) (i5 : Int) (h_1 : PHeap), I_1 m1 a4 n3 k3 i5 h_1 →
 br (decide (i5 < ((n2 : Nat) : Int)))
 (br (decide (i5 < 12))
 (∃ (b1 o1 : Nat), a2 = some ⟨b1, o1, none⟩ ∧ (0 ≤ i5 ∧ i5 < n2) ∧
 ∃ (l2 : Bs) (c1 : Bool) (i6 : Int), h_1.row b1 (o1 + (i5).toNat * 3) [vS l2, vB c1, vI i6] ∧
 ∃ (i7 : Int), PureRun Tryz.prog (execOp (rho [(42, vI (l2.length : Int))]) (mkO o19_4 3)) (vI i7) ∧
 (0 ≤ (0 : Int) ∧ (0 : Int) ≤ i7 ∧ i7 ≤ (l2.length : Int)) ∧
 ∀ (b2 : Nat), h_1 b2 = none → ∀ (h_2 : PHeap), h_2 = h_1.put b2 (.cells ⟨[vS ((l2.drop 0).take ((i7).toNat - 0)), vB c1, vI i6]⟩ 89) →
 Raw Tryz.prog (execOp (rho [(46, vL a4 n3 k3), (48, vL (ad b2 0) 1 1)]) (mkO o19_5 30)) h_2 fun v_1 h_3 =>
 ∃ (a5 : OA) (n4 k4 : Nat), v_1 = vL a5 n4 k4 ∧
 ∃ (m3 : Nat), m3 < m1 ∧ I_1 m3 a5 n4 k4 (IntKind.i64.wrap (i5 + 1)) h_3 ∧
 tv [vL none 0 0, vS [], vI 0, vI 0, vL none 0 0] ∧ tv [vL a3 ((i3).toNat - 0) (erk1 - 0), vS ((l1.drop 0).take ((i4).toNat - 0)), vI i1, vI i2, vL a2 n2 erk2] ∧ True)
 (Q (vA [vL a3 ((i3).toNat - 0) (erk1 - 0), vS ((l1.drop 0).take ((i4).toNat - 0)), vI i1, vI i2, vL a4 n3 k3]) h_1))
 (Q (vA [vL a3 ((i3).toNat - 0) (erk1 - 0), vS ((l1.drop 0).take ((i4).toNat - 0)), vI i1, vI i2, vL a4 n3 k3]) h_1)
theorem T19 {a1 : OA} {n1 : Nat} {erk1 : Nat} {l1 : Bs} {i1 : Int} {i2 : Int} {a2 : OA} {n2 : Nat} {erk2 : Nat} {h : PHeap} {Q : Value → PHeap → Prop} (hR : R19 a1 n1 erk1 l1 i1 i2 a2 n2 erk2 h Q) : Tri Tryz.prog 19 [vA [vL a1 n1 erk1, vS l1, vI i1, vI i2, vL a2 n2 erk2]] h Q :=
 tri_of_dn mixed Tryz.func19 rfl (by kernel_rfl) low19 (rs := [.cell 2 true 5]) (by kernel_rfl) rfl (Eq.mpr (by kernel_rfl : dnF Tryz.prog Tryz.f19.ntmps d19 [.cell 2 true 5] [vA [vL a1 n1 erk1, vS l1, vI i1, vI i2, vL a2 n2 erk2]] h Q = R19 a1 n1 erk1 l1 i1 i2 a2 n2 erk2 h Q) hR)
abbrev o20_1 : Op := .call { callee := (.builtin .append), args := #[(.tmp 28), (.tmp 38)], argTypes := #[22, 22] }
abbrev o20_4 : Op := .call { callee := (.builtin .append), args := #[(.tmp 54), (.tmp 62)], argTypes := #[23, 23] }
noncomputable def d20 : DCode := up ⟨[(9, .l [.str]), (11, .l [qi]), (13, .l [qi]), (17, .l [.slice]), (23, .l [.slice]), (26, .l erk1), (28, .l [.slice]), (30, .l [qi]), (32, .l [qi]), (34, .l [qi]), (36, .l [qi]), (39, .c (.one false [.slice])), (43, .l [.slice]), (49, .l [.slice]), (52, .l [.str, .bool, qi]), (54, .l [.slice]), (56, .l [.str]), (58, .l [.bool]), (60, .l [qi]), (63, .c (.one false [.slice])), (65, .l erk2)], [], [(15, 28, [(4, qi)], [(3, erk2)]), (41, 26, [(6, qi)], [(3, erk2)])]⟩ (low Tryz.prog (fun _ => false) (Tryz.f20.body.getD .skip))
theorem low20 : low Tryz.prog (fun _ => false) (Tryz.f20.body.getD .skip) = some (eC d20) := by kernel_rfl
def R20 (a1 : OA) (n1 : Nat) (erk1 : Nat) (l1 : Bs) (i1 : Int) (i2 : Int) (a2 : OA) (n2 : Nat) (erk2 : Nat) (h : PHeap) (Q : Value → PHeap → Prop) : Prop :=
 ∃ (I_1 : Nat → Int → OA → Nat → Nat → Bs → Int → Int → OA → Nat → Nat → PHeap → Prop), (∃ (m2 : Nat), I_1 m2 (0 : Int) none 0 0 l1 i1 i2 none 0 0 h) ∧
 ∀ (m1 : Nat) (i3 : Int) (a3 : OA) (n3 : Nat) (k3 : Nat) (l2 : Bs) (i4 : Int) (i5 : Int) (a4 : OA) (n4 : Nat) (k4 : Nat) (h_1 : PHeap), I_1 m1 i3 a3 n3 k3 l2 i4 i5 a4 n4 k4 h_1 →
 br (decide (i3 < ((n1 : Nat) : Int)))
 (∃ (b1 o1 : Nat), a1 = some ⟨b1, o1, none⟩ ∧ (0 ≤ i3 ∧ i3 < n1) ∧
 ∃ (i6 i7 i8 i9 : Int), h_1.row b1 (o1 + (i3).toNat * 4) [vI i6, vI i7, vI i8, vI i9] ∧
 ∀ (b2 : Nat), h_1 b2 = none → ∀ (h_2 : PHeap), h_2 = h_1.put b2 (.cells ⟨[vI i6, vI i7, vI i8, vI i9]⟩ 58) →
 Raw Tryz.prog (execOp (rho [(28, vL a3 n3 k3), (38, vL (ad b2 0) 1 1)]) (mkO o20_1 22)) h_2 fun v_1 h_3 =>
 ∃ (a5 : OA) (n5 k5 : Nat), v_1 = vL a5 n5 k5 ∧
 ∃ (m3 : Nat), m3 < m1 ∧ I_1 m3 (IntKind.i64.wrap (i3 + 1)) a5 n5 k5 l2 i4 i5 a4 n4 k4 h_3 ∧
 tv [vL none 0 0, vS [], vI 0, vI 0, vL none 0 0] ∧ tv [vL a1 n1 erk1, vS l1, vI i1, vI i2, vL a2 n2 erk2] ∧ True)
 (∃ (I_2 : Nat → Int → OA → Nat → Nat → Bs → Int → Int → OA → Nat → Nat → PHeap → Prop), (∃ (m5 : Nat), I_2 m5 (0 : Int) a3 n3 k3 l2 i4 i5 a4 n4 k4 h_1) ∧
 ∀ (m4 : Nat) (i10 : Int) (a6 : OA) (n6 : Nat) (k6 : Nat) (l3 : Bs) (i11 : Int) (i12 : Int) (a7 : OA) (n7 : Nat) (k7 : Nat) (h_4 : PHeap), I_2 m4 i10 a6 n6 k6 l3 i11 i12 a7 n7 k7 h_4 →
 br (decide (i10 < ((n2 : Nat) : Int)))
 (∃ (b3 o2 : Nat), a2 = some ⟨b3, o2, none⟩ ∧ (0 ≤ i10 ∧ i10 < n2) ∧
 ∃ (l4 : Bs) (c1 : Bool) (i13 : Int), h_4.row b3 (o2 + (i10).toNat * 3) [vS l4, vB c1, vI i13] ∧
 ∀ (b4 : Nat), h_4 b4 = none → ∀ (h_5 : PHeap), h_5 = h_4.put b4 (.cells ⟨[vS l4, vB c1, vI i13]⟩ 80) →
 Raw Tryz.prog (execOp (rho [(54, vL a7 n7 k7), (62, vL (ad b4 0) 1 1)]) (mkO o20_4 23)) h_5 fun v_2 h_6 =>
 ∃ (a8 : OA) (n8 k8 : Nat), v_2 = vL a8 n8 k8 ∧
 ∃ (m6 : Nat), m6 < m4 ∧ I_2 m6 (IntKind.i64.wrap (i10 + 1)) a6 n6 k6 l3 i11 i12 a8 n8 k8 h_6 ∧
 tv [vL none 0 0, vS [], vI 0, vI 0, vL none 0 0] ∧ tv [vL a1 n1 erk1, vS l1, vI i1, vI i2, vL a2 n2 erk2] ∧ True)
 (Q (vA [vL a6 n6 k6, vS l3, vI i11, vI i12, vL a7 n7 k7]) h_4))
theorem T20 {a1 : OA} {n1 : Nat} {erk1 : Nat} {l1 : Bs} {i1 : Int} {i2 : Int} {a2 : OA} {n2 : Nat} {erk2 : Nat} {h : PHeap} {Q : Value → PHeap → Prop} (hR : R20 a1 n1 erk1 l1 i1 i2 a2 n2 erk2 h Q) : Tri Tryz.prog 20 [vA [vL a1 n1 erk1, vS l1, vI i1, vI i2, vL a2 n2 erk2]] h Q :=
 tri_of_dn mixed Tryz.func20 rfl (by kernel_rfl) low20 (rs := [.cell 2 true 5]) (by kernel_rfl) rfl (Eq.mpr (by kernel_rfl : dnF Tryz.prog Tryz.f20.ntmps d20 [.cell 2 true 5] [vA [vL a1 n1 erk1, vS l1, vI i1, vI i2, vL a2 n2 erk2]] h Q = R20 a1 n1 erk1 l1 i1 i2 a2 n2 erk2 h Q) hR)
abbrev o5_0 : Op := .call { callee := (.builtin .min), args := #[(.tmp 13), (.const (vI 60))], argTypes := #[3, 3] }
abbrev o5_8 : Op := .call { callee := (.builtin .max), args := #[(.tmp 53), (.const (vI 0))], argTypes := #[3, 3] }
noncomputable def d5 : DCode := up ⟨[(9, .l erk2), (10, .c (.one true erk2)), (14, .c (.one false [qi])), (16, .l erk2), (17, .c (.one true erk2)), (19, .l erk2), (21, .c (.tup [(false, [qi]), (false, [.bool])])), (24, .l erk2), (25, .c (.one false [qi])), (27, .l erk2), (29, .c (.one false [qi])), (30, .c (.one false [.bool])), (32, .l erk2), (33, .c (.one false [qi])), (34, .l erk2), (35, .c (.one false [qi])), (39, .l erk2), (40, .c (.one false [qi])), (41, .l erk2), (42, .c (.one false [qi])), (54, .c (.one false [qi]))], [], []⟩ (low Tryz.prog (fun _ => false) (Tryz.f5.body.getD .skip))
theorem low5 : low Tryz.prog (fun _ => false) (Tryz.f5.body.getD .skip) = some (eC d5) := by kernel_rfl
def R5 (a1 : OA) (n1 : Nat) (erk1 : Nat) (l1 : Bs) (i1 : Int) (i2 : Int) (a2 : OA) (n2 : Nat) (erk2 : Nat) (l2 : Bs) (h : PHeap) (Q : Value → PHeap → Prop) : Prop :=
 Tri Tryz.prog 19 [vA [vL a1 n1 erk1, vS l1, vI i1, vI i2, vL a2 n2 erk2]] h fun v_1 h_1 =>
 ∃ (a3 : OA) (n3 k3 : Nat) (l3 : Bs) (i3 i4 : Int) (a4 : OA) (n4 k4 : Nat), v_1 = vA [vL a3 n3 k3, vS l3, vI i3, vI i4, vL a4 n4 k4] ∧
 ∃ (i5 : Int), PureRun Tryz.prog (execOp (rho [(13, vI (l2.length : Int))]) (mkO o5_0 3)) (vI i5) ∧
 (0 ≤ (0 : Int) ∧ (0 : Int) ≤ i5 ∧ i5 ≤ (l2.length : Int)) ∧
 Tri Tryz.prog 20 [vA [vL a3 n3 k3, vS l3, vI i3, vI i4, vL a4 n4 k4]] h_1 fun v_2 h_2 =>
 ∃ (a5 : OA) (n5 k5 : Nat) (l4 : Bs) (i6 i7 : Int) (a6 : OA) (n6 k6 : Nat), v_2 = vA [vL a5 n5 k5, vS l4, vI i6, vI i7, vL a6 n6 k6] ∧
 Tri Tryz.prog 21 [vA [vL a5 n5 k5, vS l4, vI i6, vI i7, vL a6 n6 k6], vS ((l2.drop 0).take ((i5).toNat - 0))] h_2 fun v_3 h_3 =>
 ∃ (i8 : Int) (c1 : Bool), v_3 = vT [vI i8, vB c1] ∧
 Tri Tryz.prog 22 [vA [vL a3 n3 k3, vS l3, vI i3, vI i4, vL a4 n4 k4]] h_3 fun v_4 h_4 =>
 ∃ (i9 : Int), v_4 = vI i9 ∧
 br (i9 == 0)
 (Tri Tryz.prog 23 [vA [vL a3 n3 k3, vS l3, vI i3, vI i4, vL a4 n4 k4], vS ((l2.drop 0).take ((i5).toNat - 0))] h_4 fun v_5 h_5 =>
 ∃ (i10 : Int), v_5 = vI i10 ∧
 Tri Tryz.prog 15 [] h_5 fun v_6 h_6 =>
 ∃ (c2 : Bool), v_6 = vB c2 ∧
 br c2
 (Tri Tryz.prog 24 [vA [vL a5 n5 k5, vS l4, vI i6, vI i7, vL a6 n6 k6]] h_6 fun v_7 h_7 =>
 ∃ (i11 : Int), v_7 = vI i11 ∧
 (tv [vL a3 n3 k3, vS l3, vI i3, vI i4, vL a4 n4 k4]) ∧
 Tri Tryz.prog 22 [vA [vL a3 n3 k3, vS l3, vI i3, vI i4, vL a4 n4 k4]] h_7 fun v_8 h_8 =>
 ∃ (i12 : Int), v_8 = vI i12 ∧
 br (i11 == i12)
 (Tri Tryz.prog 25 [vA [vL a5 n5 k5, vS l4, vI i6, vI i7, vL a6 n6 k6]] h_8 fun v_9 h_9 =>
 ∃ (i13 : Int), v_9 = vI i13 ∧
 (tv [vL a3 n3 k3, vS l3, vI i3, vI i4, vL a4 n4 k4]) ∧
 Tri Tryz.prog 26 [vA [vL a3 n3 k3, vS l3, vI i3, vI i4, vL a4 n4 k4]] h_9 fun v_10 h_10 =>
 ∃ (i14 : Int), v_10 = vI i14 ∧
 br (i13 == i14)
 (br (c1 == (decide (i10 ≥ 0)))
 (∃ (i15 : Int), PureRun Tryz.prog (execOp (rho [(53, vI i10)]) (mkO o5_8 3)) (vI i15) ∧
 Q (vB (i8 == i15)) h_10)
 (Q (vB false) h_10))
 (Q (vB false) h_10))
 (Q (vB false) h_8))
 (Q (vB false) h_6))
 (Tri Tryz.prog 15 [] h_4 fun v_11 h_11 =>
 ∃ (c3 : Bool), v_11 = vB c3 ∧
 br c3
 (Tri Tryz.prog 24 [vA [vL a5 n5 k5, vS l4, vI i6, vI i7, vL a6 n6 k6]] h_11 fun v_12 h_12 =>
 ∃ (i16 : Int), v_12 = vI i16 ∧
 (tv [vL a3 n3 k3, vS l3, vI i3, vI i4, vL a4 n4 k4]) ∧
 Tri Tryz.prog 22 [vA [vL a3 n3 k3, vS l3, vI i3, vI i4, vL a4 n4 k4]] h_12 fun v_13 h_13 =>
 ∃ (i17 : Int), v_13 = vI i17 ∧
 br (i16 == i17)
 (Tri Tryz.prog 25 [vA [vL a5 n5 k5, vS l4, vI i6, vI i7, vL a6 n6 k6]] h_13 fun v_14 h_14 =>
 ∃ (i18 : Int), v_14 = vI i18 ∧
 (tv [vL a3 n3 k3, vS l3, vI i3, vI i4, vL a4 n4 k4]) ∧
 Tri Tryz.prog 26 [vA [vL a3 n3 k3, vS l3, vI i3, vI i4, vL a4 n4 k4]] h_14 fun v_15 h_15 =>
 ∃ (i19 : Int), v_15 = vI i19 ∧
 br (i18 == i19)
 (br (c1 == false)
 (∃ (i20 : Int), PureRun Tryz.prog (execOp (rho [(53, vI (-1))]) (mkO o5_8 3)) (vI i20) ∧
 Q (vB (i8 == i20)) h_15)
 (Q (vB false) h_15))
 (Q (vB false) h_15))
 (Q (vB false) h_13))
 (Q (vB false) h_11))
theorem T5 {a1 : OA} {n1 : Nat} {erk1 : Nat} {l1 : Bs} {i1 : Int} {i2 : Int} {a2 : OA} {n2 : Nat} {erk2 : Nat} {l2 : Bs} {h : PHeap} {Q : Value → PHeap → Prop} (hR : R5 a1 n1 erk1 l1 i1 i2 a2 n2 erk2 l2 h Q) : Tri Tryz.prog 5 [vA [vL a1 n1 erk1, vS l1, vI i1, vI i2, vL a2 n2 erk2], vS l2] h Q :=
 tri_of_dn mixed Tryz.func5 rfl (by kernel_rfl) low5 (rs := [.tmp 4]) (by kernel_rfl) rfl (Eq.mpr (by kernel_rfl : dnF Tryz.prog Tryz.f5.ntmps d5 [.tmp 4] [vA [vL a1 n1 erk1, vS l1, vI i1, vI i2, vL a2 n2 erk2], vS l2] h Q = R5 a1 n1 erk1 l1 i1 i2 a2 n2 erk2 l2 h Q) hR)
end Go.Proofs.D
namespace Go.As
theorem bytes_less : ∀ a b : Bytes, Op.bytesLess a b = decide (a < b)
 | [], [] => rfl
 | _ :: _, [] => by simp [Op.bytesLess]
 | [], _ :: _ => by simp [Op.bytesLess]
 | x :: a, y :: b => by
   rw [Op.bytesLess, bytes_less a b, Bool.eq_iff_iff]
   simp only [Bool.or_eq_true, Bool.and_eq_true, decide_eq_true_iff, beq_iff_eq, List.cons_lt_cons_iff]
end Go.As
namespace Go.Proofs.D
open Go Go.Den Go.As
set_option maxRecDepth 100000
theorem pure_lss {ρ : Operand → Value} {x y : Operand} {ty t' : TypeId} {a b : Bytes} (hx : ρ x = vS a) (hy : ρ y = vS b) : PureRun Tryz.prog (execOp ρ (mkO (.binOp .lss 9 x y t') ty)) (vB (decide (a < b))) := by
 intro w
 have h2 : (binOp .lss 9 (vS a) (vS b)).run Tryz.prog w = .ok (vB (decide (a < b))) w := by
  rw [show (vS a) = .string ⟨⟨a⟩⟩ from rfl, show (vS b) = .string ⟨⟨b⟩⟩ from rfl, binOp_string_lss, ByteArray.toList_eq, ByteArray.toList_eq, bytes_less]; rfl
 have h3 : (eqGuard .lss 9 x y (vS a) (vS b)).run Tryz.prog w = .ok () w := by simp [eqGuard]
 simp only [execOp, mkO, hx, hy, Sem.run_bind, h3, h2, Result.andThen_ok, Sem.run_pure]
attribute [local irreducible] IntKind.wrap Tri
section
variable {h : PHeap}
theorem rfollows_t (a b : Lb) : Tri Tryz.prog 45 [vA (lbC a), vA (lbC b)] h fun v h' => v = vB (follows a b) ∧ h' = h := by
 refine T45 ?_
 unfold R45
 unfold follows
 refine br_split (fun e => ⟨?_, rfl⟩) fun e => br_split (fun e1 => ⟨?_, rfl⟩) fun e1 => ⟨_, pure_lss rfl rfl, ?_, rfl⟩
 · rw [if_pos (by simpa using e)]
 · have e1 : a.off ≠ b.off := by simpa using e1
   rw [if_neg (by simpa using e), if_pos e1]
 · have e1 : a.off = b.off := by simpa using e1
   rw [if_neg (by simpa using e), if_neg (fun hh => hh e1)]
theorem rdataAt_t {a1 : OA} {k1 : Nat} {d : Bytes} {z e : Int} {a2 : OA} {n2 k2 : Nat} {p : Pg} (hn : p.code.length ≤ 1000000) : Tri Tryz.prog 26 [vA [vL a1 p.code.length k1, vS d, vI z, vI e, vL a2 n2 k2]] h fun v h' => v = vI (dataAt p) ∧ h' = h := by
 refine T26 ?_
 unfold R26
 refine ⟨?_, rfl⟩
 rw [wrap64 (n := 4 * ((p.code.length : Nat) : Int)) (by omega) (by omega), wrap64 (n := 4 * ((p.code.length : Nat) : Int) + 63) (by omega) (by omega)]
 rw [Int.tdiv_eq_ediv_of_nonneg (by omega)]
 rw [wrap64 (n := (4 * ((p.code.length : Nat) : Int) + 63) / 64) (by omega) (by omega), wrap64 (by omega) (by omega)]
 unfold dataAt
 congr 1
theorem raddr_t {a1 : OA} {k1 : Nat} {a2 : OA} {k2 : Nat} {p : Pg} {n : Bytes} (hL : LbAt h a2 p.labels) (hn : p.code.length ≤ 1000000) (hls : p.labels.length ≤ 1000000) (ho : ∀ l ∈ p.labels, 0 ≤ l.off ∧ l.off ≤ 1000000000) :
 Tri Tryz.prog 23 [vA [vL a1 p.code.length k1, vS p.data, vI p.zero, vI p.entry, vL a2 p.labels.length k2], vS n] h fun v h' => v = vI ((address p n).getD (-1)) ∧ h' = h := by
 refine T23 ?_
 unfold R23
 refine ⟨fun m i h' => ∃ j : Nat, i = (j : Int) ∧ j + m = p.labels.length ∧ h' = h ∧ (p.labels.find? fun l => l.name == n) = ((p.labels.drop j).find? fun l => l.name == n), ⟨p.labels.length, 0, rfl, by omega, rfl, rfl⟩, ?_⟩
 rintro m _ h1 ⟨j, rfl, hjm, rfl, hf⟩
 refine br_split (fun e => ?_) fun e => ?_
 · have hlt : j < p.labels.length := by have := of_decide_eq_true e; omega
   have hg : p.labels[j]? = some p.labels[j] := by simp [hlt]
   have hdr := List.drop_eq_getElem_cons hlt
   have hmem := List.getElem_mem hlt
   rw [hdr, List.find?_cons] at hf
   generalize p.labels[j] = l at *
   have hlo := ho l hmem
   obtain ⟨b, o, ha, hr⟩ := hL.get hg
   have hz : (0 : Int) ≤ (j : Int) ∧ (j : Int) < p.labels.length := ⟨by omega, by omega⟩
   have r0 : h1.cell b (o + ((j : Nat) : Int).toNat * 3) = some (vS l.name) := by rw [Int.toNat_natCast]; exact hr.1
   have r1 : h1.cell b ((o + ((j : Nat) : Int).toNat * 3) + 1) = some (vB l.data) := by rw [Int.toNat_natCast]; exact hr.2.1
   have r2 : h1.cell b ((o + ((j : Nat) : Int).toNat * 3) + 2) = some (vI l.off) := by rw [Int.toNat_natCast]; exact hr.2.2
   have next : (l.name == n) = false → ∃ (m3 : Nat), m3 < m ∧ (∃ j' : Nat, IntKind.i64.wrap ((j : Int) + 1) = (j' : Int) ∧ j' + m3 = p.labels.length ∧ h1 = h1 ∧ (p.labels.find? fun l => l.name == n) = ((p.labels.drop j').find? fun l => l.name == n)) ∧ tv [vL a1 p.code.length k1, vS p.data, vI p.zero, vI p.entry, vL a2 p.labels.length k2] ∧ True := fun e2 => by
    rw [e2] at hf
    exact ⟨m - 1, by omega, ⟨j + 1, by rw [wrap64 (by omega) (by omega)]; omega, by omega, rfl, hf⟩, rfl, trivial⟩
   have res : (l.name == n) = true → (address p n).getD (-1) = placeOf p l := fun e2 => by
    rw [e2] at hf
    unfold address; rw [hf]; rfl
   refine ⟨b, o, ha, hz, _, r0, br_split (fun e2 => ⟨b, o, ha, hz, _, r1, br_split (fun e3 => ⟨b, o, ha, hz, _, r2, ?_⟩) fun e3 => ⟨b, o, ha, hz, _, r0, br_split (fun _ => ⟨b, o, ha, hz, _, r2, ?_, rfl⟩) fun e4 => by rw [e2] at e4; cases e4⟩⟩) fun e2 => ⟨b, o, ha, hz, _, r0, br_split (fun e4 => by rw [e2] at e4; cases e4) fun e4 => next e2⟩⟩
   · refine Tri.mono (rdataAt_t (p := p) hn) ?_
     rintro _ h2 ⟨rfl, rfl⟩
     have hda : 0 ≤ dataAt p ∧ dataAt p ≤ 4000100 := by unfold dataAt; omega
     refine ⟨_, rfl, r2, rfl, ?_, rfl⟩
     rw [res e2, wrap64 (by omega) (by omega)]
     unfold placeOf; rw [if_pos e3]
   · rw [res e2]
     unfold placeOf; rw [if_neg (by rw [e3]; decide)]
 · have hj : j = p.labels.length := by have := of_decide_eq_false e; omega
   subst hj
   rw [List.drop_length] at hf
   refine ⟨?_, rfl⟩
   unfold address; rw [hf]; rfl
end
end Go.Proofs.D
namespace Go.Proofs.D
open Go Go.Den Go.As
set_option maxRecDepth 100000
attribute [local irreducible] IntKind.wrap Tri
section
variable {h : PHeap}
theorem rcheckP_t {a1 : OA} {k1 : Nat} {a2 : OA} {k2 : Nat} {p : Pg} (hI : InAt h a1 p.code) (hL : LbAt h a2 p.labels) (hn : p.code.length ≤ 1000000) (hd : p.data.length ≤ 1000000) (hls : p.labels.length ≤ 1000000) :
 Tri Tryz.prog 22 [vA [vL a1 p.code.length k1, vS p.data, vI p.zero, vI p.entry, vL a2 p.labels.length k2]] h fun v h' => v = vI (checkP p : Int) ∧ h' = h := by
 refine T22 ?_
 unfold R22
 refine ⟨fun m i h' => ∃ j : Nat, i = (j : Int) ∧ j + m = p.code.length ∧ h' = h ∧ ∀ k x, k < j → p.code[k]? = some x → checkI x = 0, ⟨p.code.length, 0, rfl, by omega, rfl, fun k x hk => absurd hk (Nat.not_lt_zero k)⟩, ?_⟩
 rintro m _ h1 ⟨j, rfl, hjm, rfl, hu⟩
 refine br_split (fun e => ?_) fun e => ?_
 · have hlt : j < p.code.length := by have := of_decide_eq_true e; omega
   have hg : p.code[j]? = some p.code[j] := by simp [hlt]
   have hdr := List.drop_eq_getElem_cons hlt
   generalize p.code[j] = x at *
   obtain ⟨b, o, ha, hr⟩ := hI.get hg
   refine ⟨b, o, ha, ⟨by omega, by omega⟩, _, _, _, _, (by rw [Int.toNat_natCast]; exact hr), ?_⟩
   refine Tri.mono (rcheck_t x) ?_
   rintro _ h1 ⟨rfl, rfl⟩
   refine ⟨_, rfl, br_split (fun e1 => ?_) fun e1 => ?_⟩
   · have e1 : checkI x ≠ 0 := by simpa using e1
     have : checkP p = checkI x := by
      unfold checkP
      rw [find_take hu, hdr, List.map_cons, List.find?_cons, decide_eq_true e1]
     rw [this]
     exact ⟨rfl, rfl⟩
   · have e1 : checkI x = 0 := by simpa using e1
     refine ⟨m - 1, by omega, ⟨j + 1, ?_, by omega, rfl, fun k y h1 h2 => ?_⟩, rfl, trivial⟩
     · rw [wrap64 (by omega) (by omega)]; omega
     · by_cases hk : k = j
       · subst hk; rw [hg] at h2; injection h2 with h2; rw [← h2]; exact e1
       · exact hu k y (by omega) h2
 have hj : j = p.code.length := by have := of_decide_eq_false e; omega
 subst hj
 have hc : checkP p = if p.zero < 0 ∨ 4096 < p.zero ∨ 4096 < dataAt p + p.data.length + p.zero ∨ 1024 < p.labels.length then 9
  else if p.entry < 0 ∨ p.entry % 4 ≠ 0 ∨ 4 * (p.code.length : Int) ≤ p.entry then 2
  else if labelsErr p none p.labels ≠ 0 then labelsErr p none p.labels else if twice (p.labels.map (·.name)) then 7 else 0 := by
  unfold checkP
  rw [find_take hu, List.drop_length]; rfl
 have nine : (p.zero < 0 ∨ 4096 < p.zero ∨ 4096 < dataAt p + p.data.length + p.zero ∨ 1024 < p.labels.length) → vI 9 = vI (checkP p : Int) := fun hh => by rw [hc, if_pos hh]; rfl
 refine br_split (fun e1 => ?_) fun e1 => br_split (fun e2 => ?_) fun e2 => ?_
 · exact ⟨rfl, nine (.inl (of_decide_eq_true e1)), rfl⟩
 · exact ⟨rfl, rfl, nine (.inr (.inl (of_decide_eq_true e2))), rfl⟩
 have e1 := of_decide_eq_false e1
 have e2 := of_decide_eq_false e2
 refine Tri.mono (rdataAt_t hn) ?_
 rintro _ h1 ⟨rfl, rfl⟩
 have hda : 0 ≤ dataAt p ∧ dataAt p ≤ 4000100 := by unfold dataAt; omega
 refine ⟨_, rfl, rfl, rfl, rfl, rfl, ?_⟩
 rw [wrap64 (n := dataAt p + _) (by omega) (by omega), wrap64 (n := dataAt p + _ + _) (by omega) (by omega)]
 refine br_split (fun e3 => ⟨nine (.inr (.inr (.inl (of_decide_eq_true e3)))), rfl⟩) fun e3 => br_split (fun e4 => ⟨nine (.inr (.inr (.inr (by have := of_decide_eq_true e4; omega)))), rfl⟩) fun e4 => ?_
 have e3 := of_decide_eq_false e3
 have e4 := of_decide_eq_false e4
 rw [if_neg (by omega)] at hc
 have ent : (p.entry < 0 ∨ p.entry % 4 ≠ 0 ∨ 4 * (p.code.length : Int) ≤ p.entry) → vI 2 = vI (checkP p : Int) := fun hh => by rw [hc, if_pos hh]; rfl
 have hw4 : IntKind.i64.wrap (4 * ((p.code.length : Nat) : Int)) = 4 * (p.code.length : Int) := wrap64 (by omega) (by omega)
 have hwd : IntKind.i64.wrap ((p.data.length : Int) + p.zero) = (p.data.length : Int) + p.zero := wrap64 (by omega) (by omega)
 rw [hw4]
 refine br_split (fun e5 => ⟨ent (.inl (of_decide_eq_true e5)), rfl⟩) fun e5 => ?_
 have e5 := of_decide_eq_false e5
 have htm : Int.tmod p.entry 4 = p.entry % 4 := Int.tmod_eq_emod_of_nonneg (by omega)
 rw [htm]
 refine br_split (fun e6 => ⟨ent (.inr (.inl (by simpa using e6))), rfl⟩) fun e6 => br_split (fun e7 => ⟨ent (.inr (.inr (by have := of_decide_eq_true e7; omega))), rfl⟩) fun e7 => ?_
 have e6 : p.entry % 4 = 0 := by simpa using e6
 have e7 := of_decide_eq_false e7
 rw [if_neg (by omega)] at hc
 refine ⟨fun m i h' => ∃ j : Nat, i = (j : Int) ∧ j + m = p.labels.length ∧ h' = h1 ∧ labelsErr p none p.labels = labelsErr p (prevL p.labels j) (p.labels.drop j), ⟨p.labels.length, 0, rfl, by omega, rfl, rfl⟩, ?_⟩
 rintro m _ h2 ⟨j, rfl, hjm, rfl, hu2⟩
 refine br_split (fun e => ?_) fun e => ?_
 · have hlt : j < p.labels.length := by have := of_decide_eq_true e; omega
   have hg : p.labels[j]? = some p.labels[j] := by simp [hlt]
   have hdr := List.drop_eq_getElem_cons hlt
   rw [hdr, labels_cons] at hu2
   generalize p.labels[j] = l at *
   obtain ⟨b, o, ha, hr⟩ := hL.get hg
   have bad : ∀ e : Nat, labelsErr p none p.labels = e → e ≠ 0 → vI (e : Int) = vI (checkP p : Int) ∧ h2 = h2 := fun e h1 h2 => by
    rw [hc, h1, if_pos h2]; exact ⟨rfl, rfl⟩
   refine ⟨b, o, ha, ⟨by omega, by omega⟩, _, _, _, (by rw [Int.toNat_natCast]; exact hr), ?_⟩
   refine Tri.mono (rlabel_t h2 l.name) ?_
   rintro _ h2 ⟨rfl, rfl⟩
   refine ⟨_, rfl, br_split (fun g1 => bad 12 (by rw [hu2, if_pos (not_f g1)]) (by decide)) fun g1 => ?_⟩
   rw [if_neg (by rw [not_t g1]; decide)] at hu2
   have hw1 : IntKind.i64.wrap ((j : Int) + 1) = ((j + 1 : Nat) : Int) := by rw [wrap64 (by omega) (by omega)]; omega
   have two : (l.off < 0 ∨ (l.data = false ∧ (l.off % 4 ≠ 0 ∨ 4 * (p.code.length : Int) < l.off)) ∨ (l.data = true ∧ (p.data.length : Int) + p.zero < l.off)) → _ := fun hh => bad 2 (by rw [hu2, if_pos hh]) (by decide)
   have tail : ¬ (l.off < 0 ∨ (l.data = false ∧ (l.off % 4 ≠ 0 ∨ 4 * (p.code.length : Int) < l.off)) ∨ (l.data = true ∧ (p.data.length : Int) + p.zero < l.off)) →
    br (decide ((j : Int) > 0))
     (∃ (b2 o2 : Nat), a2 = some ⟨b2, o2, none⟩ ∧ (0 ≤ (IntKind.i64.wrap ((j : Int) - 1)) ∧ (IntKind.i64.wrap ((j : Int) - 1)) < p.labels.length) ∧
     ∃ (l3 : Bs) (c4 : Bool) (i5 : Int), h2.row b2 (o2 + (IntKind.i64.wrap ((j : Int) - 1)).toNat * 3) [vS l3, vB c4, vI i5] ∧
     Tri Tryz.prog 45 [vA [vS l3, vB c4, vI i5], vA (lbC l)] h2 fun v_3 h_4 =>
     ∃ (c6 : Bool), v_3 = vB c6 ∧
     (tv [vL a2 p.labels.length k2]) ∧
     br (!c6)
     (vI 32 = vI (checkP p : Int) ∧ h_4 = h2)
     (∃ (m3 : Nat), m3 < m ∧ (∃ j' : Nat, IntKind.i64.wrap ((j : Int) + 1) = (j' : Int) ∧ j' + m3 = p.labels.length ∧ h_4 = h2 ∧ labelsErr p none p.labels = labelsErr p (prevL p.labels j') (p.labels.drop j')) ∧
     tv [vL a1 p.code.length k1, vS p.data, vI p.zero, vI p.entry, vL a2 p.labels.length k2] ∧ True))
     (∃ (m4 : Nat), m4 < m ∧ (∃ j' : Nat, IntKind.i64.wrap ((j : Int) + 1) = (j' : Int) ∧ j' + m4 = p.labels.length ∧ h2 = h2 ∧ labelsErr p none p.labels = labelsErr p (prevL p.labels j') (p.labels.drop j')) ∧
     tv [vL a1 p.code.length k1, vS p.data, vI p.zero, vI p.entry, vL a2 p.labels.length k2] ∧ True) := fun hno => by
    rw [if_neg hno] at hu2
    have hpj : prevL p.labels (j + 1) = some l := by unfold prevL; rw [if_neg (by omega), Nat.add_sub_cancel, hg]
    refine br_split (fun q1 => ?_) fun q1 => ?_
    · have hj0 : 0 < j := by have := of_decide_eq_true q1; omega
      have hwj : IntKind.i64.wrap ((j : Int) - 1) = ((j - 1 : Nat) : Int) := by rw [wrap64 (by omega) (by omega)]; omega
      have hlt' : j - 1 < p.labels.length := by omega
      have hg' : p.labels[j - 1]? = some p.labels[j - 1] := by simp [hlt']
      have hpv : prevL p.labels j = some p.labels[j - 1] := by unfold prevL; rw [if_neg (by omega), hg']
      rw [hpv] at hu2
      generalize p.labels[j - 1] = q at *
      obtain ⟨b', o', ha', hr'⟩ := hL.get hg'
      rw [hwj]
      refine ⟨b', o', ha', ⟨by omega, by omega⟩, _, _, _, (by rw [Int.toNat_natCast]; exact hr'), ?_⟩
      refine Tri.mono (rfollows_t q l) ?_
      rintro _ h3 ⟨rfl, rfl⟩
      refine ⟨_, rfl, rfl, br_split (fun q2 => ?_) fun q2 => ?_⟩
      · simp only [q2, if_true] at hu2
        exact bad 32 hu2 (by decide)
      · simp only [q2, Bool.false_eq_true, if_false] at hu2
        exact ⟨m - 1, by omega, ⟨j + 1, hw1, by omega, rfl, by rw [hpj]; exact hu2⟩, rfl, trivial⟩
    · have hj0 : j = 0 := by have := of_decide_eq_false q1; omega
      have hpv : prevL p.labels j = none := by unfold prevL; rw [if_pos hj0]
      rw [hpv] at hu2
      exact ⟨m - 1, by omega, ⟨j + 1, hw1, by omega, rfl, by rw [hpj]; exact hu2⟩, rfl, trivial⟩
   refine br_split (fun g2 => two (.inl (of_decide_eq_true g2))) fun g2 => ?_
   have g2 := of_decide_eq_false g2
   have htm2 : Int.tmod l.off 4 = l.off % 4 := Int.tmod_eq_emod_of_nonneg (by omega)
   rw [htm2, hwd]
   refine br_split (fun g3 => ?_) fun g3 => ?_
   · have g3 : l.data = false := not_f g3
     refine br_split (fun g4 => two (.inr (.inl ⟨g3, .inl (by simpa using g4)⟩))) fun g4 => br_split (fun g5 => two (.inr (.inl ⟨g3, .inr (by have := of_decide_eq_true g5; omega)⟩))) fun g5 => br_neg g3 (tail ?_)
     have g4 : l.off % 4 = 0 := by simpa using g4
     have g5 := of_decide_eq_false g5
     rw [g3]; simp; omega
   · have g3 : l.data = true := not_t g3
     refine br_pos g3 (br_split (fun g4 => two (.inr (.inr ⟨g3, of_decide_eq_true g4⟩))) fun g4 => tail ?_)
     have g4 := of_decide_eq_false g4
     rw [g3]; simp; omega
 · have hj : j = p.labels.length := by have := of_decide_eq_false e; omega
   subst hj
   rw [List.drop_length] at hu2
   have hu2 : labelsErr p none p.labels = 0 := by rw [hu2]; unfold labelsErr; rfl
   rw [hu2, if_neg (by decide)] at hc
   have seven : twice (p.labels.map (·.name)) = true → vI 7 = vI (checkP p : Int) := fun hh => by rw [hc, hh]; rfl
   refine ⟨fun m i h' => ∃ j : Nat, i = (j : Int) ∧ j + m = p.labels.length ∧ h' = h2 ∧ twice ((p.labels.take j).map (·.name)) = false, ⟨p.labels.length, 0, rfl, by omega, rfl, rfl⟩, ?_⟩
   rintro m _ h3 ⟨j, rfl, hjm, rfl, htw⟩
   refine br_split (fun e => ?_) fun e => ?_
   · have hlt : j < p.labels.length := by have := of_decide_eq_true e; omega
     have hg : p.labels[j]? = some p.labels[j] := by simp [hlt]
     have htk := List.take_append_getElem hlt
     generalize p.labels[j] = l at *
     have hsn : (p.labels.take (j + 1)).map (·.name) = (p.labels.take j).map (·.name) ++ [l.name] := by rw [← htk]; simp
     obtain ⟨b, o, ha, hr⟩ := hL.get hg
     refine ⟨fun m2 i h' => ∃ t : Nat, i = (t : Int) ∧ t + m2 = j ∧ h' = h3 ∧ ((p.labels.take t).map (·.name)).contains l.name = false, ⟨j, 0, rfl, by omega, rfl, rfl⟩, ?_⟩
     rintro m2 _ h4 ⟨t, rfl, htm3, rfl, hnc⟩
     refine br_split (fun q => ?_) fun q => ?_
     · have hlt2 : t < j := by have := of_decide_eq_true q; omega
       have hlt3 : t < p.labels.length := by omega
       have hg2 : p.labels[t]? = some p.labels[t] := by simp [hlt3]
       have htk2 := List.take_append_getElem hlt3
       have hmem : p.labels[t] ∈ p.labels.take j := by
        rw [List.mem_take_iff_getElem]
        exact ⟨t, by omega, rfl⟩
       generalize p.labels[t] = y at *
       obtain ⟨b', o', ha', hr'⟩ := hL.get hg2
       refine ⟨b', o', ha', ⟨by omega, by omega⟩, y.name, (by rw [Int.toNat_natCast]; exact hr'.1), b, o, ha, ⟨by omega, by omega⟩, l.name, (by rw [Int.toNat_natCast]; exact hr.1), br_split (fun q1 => ⟨seven ?_, rfl⟩) fun q1 => ?_⟩
       · have q1 : y.name = l.name := by simpa using q1
         have h1 : twice ((p.labels.take (j + 1)).map (·.name)) = true := by
          rw [hsn, twice_snoc]
          have : ((p.labels.take j).map (·.name)).contains l.name = true := by
           rw [List.contains_iff_mem, ← q1]; exact List.mem_map_of_mem hmem
          rw [this]; simp
         have := twice_pre _ ((p.labels.drop (j + 1)).map (·.name)) h1
         rwa [← List.map_append, List.take_append_drop] at this
       · refine ⟨m2 - 1, by omega, ⟨t + 1, by rw [wrap64 (by omega) (by omega)]; omega, by omega, rfl, ?_⟩, rfl, trivial⟩
         have q1 : y.name ≠ l.name := by simpa using q1
         cases hcc : ((p.labels.take (t + 1)).map (·.name)).contains l.name with
         | false => rfl
         | true =>
           rw [← htk2, List.map_append, List.contains_iff_mem, List.mem_append] at hcc
           rcases hcc with hcc | hcc
           · rw [← List.contains_iff_mem, hnc] at hcc; cases hcc
           · exact absurd (by simpa using hcc : l.name = y.name).symm q1
     · have htj : t = j := by have := of_decide_eq_false q; omega
       subst htj
       refine ⟨m - 1, by omega, ⟨t + 1, by rw [wrap64 (by omega) (by omega)]; omega, by omega, rfl, ?_⟩, rfl, trivial⟩
       rw [hsn, twice_snoc, htw, hnc]; rfl
   · have hj : j = p.labels.length := by have := of_decide_eq_false e; omega
     subst hj
     rw [List.take_length] at htw
     rw [htw] at hc
     exact ⟨by rw [hc]; rfl, rfl⟩
end
end Go.Proofs.D
namespace Go.As
def cutN (l : Lb) : Lb := { l with name := l.name.take 60 }
def shortP (p : Pg) : Pg := { p with code := p.code.take 24, data := p.data.take 200, labels := (p.labels.take 12).map cutN }
end Go.As
namespace Go.Proofs.D
open Go Go.Den Go.As
set_option maxRecDepth 100000
attribute [local irreducible] IntKind.wrap Tri
theorem und30 : Tryz.prog.underlying 30 = some (.slice 89) := rfl
theorem elem89 : ElemT 89 3 := ⟨_, _, rfl, rfl, rfl, rfl, by decide⟩
theorem LM.lbs' {e : Nat} {h0 h : PHeap} {a : OA} {n c : Nat} {L : List Lb} (hM : LM e 3 h0 h a n c (L.map lbC)) : LbAt h a L := by
 by_cases hL : L = []
 · exact .inl hL
 have hn : 0 < n := by
  have := hM.len
  cases L with
  | nil => exact absurd rfl hL
  | cons x L => simp at this; omega
 obtain ⟨b, rest, h1, h2, _⟩ := hM.open hn
 refine .inr ⟨b, 0, h1, fun j l hj => ?_⟩
 obtain ⟨b', h3, h4⟩ := hM.rowAt (j := j) (cs := lbC l) (by simp [hj])
 rw [h1] at h3; injection h3 with h3; injection h3 with h3
 subst h3; exact h4
section
variable {h : PHeap}
structure PIn (h : PHeap) (a1 : OA) (k1 : Nat) (a2 : OA) (k2 : Nat) (p : Pg) : Prop where
 ins : InAt h a1 p.code
 lbs : LbAt h a2 p.labels
 ok : okA a1 p.code.length k1
 le : p.code.length ≤ k1
theorem short_t {a1 : OA} {k1 : Nat} {a2 : OA} {k2 : Nat} {p : Pg} (hp : PIn h a1 k1 a2 k2 p) :
 Tri Tryz.prog 19 [PV a1 k1 a2 k2 p] h fun v h' => Ext h h' ∧ ∃ a3 k3 a4 k4, v = PV a3 k3 a4 k4 (shortP p) ∧ InAt h' a3 (shortP p).code ∧ LbAt h' a4 (shortP p).labels := by
 refine T19 ?_
 unfold R19
 refine ⟨if 24 < ((p.code.length : Nat) : Int) then 24 else ((p.code.length : Nat) : Int), pureVal_run _ (by kernel_rfl), ⟨hp.ok, by omega, by split <;> omega, by have := hp.le; split <;> omega⟩, ?_⟩
 intro a3 hs3
 refine ⟨if 200 < (p.data.length : Int) then 200 else (p.data.length : Int), pureVal_run _ (by kernel_rfl), ⟨by omega, by split <;> omega, by split <;> omega⟩, ?_⟩
 have hcode : InAt h a3 (p.code.take 24) := by
  rcases hp.ins with h1 | ⟨b, o, h1, h2⟩
  · exact .inl (by rw [h1]; rfl)
  · obtain ⟨o', g1, g2⟩ := hs3.1 b o h1
    have g2 := g2 (.inr rfl)
    refine .inr ⟨b, o', g1, fun j l hj => ?_⟩
    rw [g2, Nat.zero_mul, Nat.add_zero]
    rw [List.getElem?_take] at hj
    split at hj
    · exact h2 j l hj
    · cases hj
 have hn1 : (if 24 < ((p.code.length : Nat) : Int) then 24 else ((p.code.length : Nat) : Int)).toNat - 0 = (p.code.take 24).length := by
  rw [List.length_take]; split <;> omega
 have hd1 : (p.data.drop 0).take ((if 200 < (p.data.length : Int) then 200 else (p.data.length : Int)).toNat - 0) = p.data.take 200 := by
  rw [List.drop_zero, Nat.sub_zero]
  split
  · rfl
  · rw [Int.toNat_natCast, List.take_length, List.take_of_length_le (by omega)]
 rw [hn1, hd1]
 refine ⟨fun m a n k i h' => ∃ j : Nat, i = (j : Int) ∧ j + m = p.labels.length ∧ j ≤ 12 ∧ n = j ∧ Ext h h' ∧ LM 89 3 h h' a n k (((p.labels.take j).map cutN).map lbC), ⟨p.labels.length, 0, rfl, by omega, by omega, rfl, Ext.refl _, LM.nil⟩, ?_⟩
 rintro m a j k _ h1 ⟨_, rfl, hjm, hj12, rfl, hx, hM⟩
 have fin : p.labels.take j = p.labels.take 12 → Ext h h1 ∧ ∃ a5 k5 a4 k4, vA [vL a3 (p.code.take 24).length (k1 - 0), vS (p.data.take 200), vI p.zero, vI p.entry, vL a j k] = PV a5 k5 a4 k4 (shortP p) ∧ InAt h1 a5 (shortP p).code ∧ LbAt h1 a4 (shortP p).labels := fun ht => by
  refine ⟨hx, a3, k1 - 0, a, k, ?_, hcode.ext hx, ?_⟩
  · have hl := hM.len
    rw [List.length_map, List.length_map, ht] at hl
    unfold PV shortP
    simp only [List.length_map]
    rw [hl]
  · have := hM.lbs'
    rw [ht] at this
    exact this
 refine br_split (fun e => br_split (fun e1 => ?_) fun e1 => fin ?_) fun e => fin ?_
 · have hlt : j < p.labels.length := by have := of_decide_eq_true e; omega
   have hj11 : j < 12 := by have := of_decide_eq_true e1; omega
   have hg : p.labels[j]? = some p.labels[j] := by simp [hlt]
   have htk := List.take_append_getElem hlt
   generalize p.labels[j] = l at *
   obtain ⟨bb, o, ha, hr⟩ := (hp.lbs.ext hx).get hg
   refine ⟨bb, o, ha, ⟨by omega, by omega⟩, _, _, _, (by rw [Int.toNat_natCast]; exact hr), if 60 < (l.name.length : Int) then 60 else (l.name.length : Int), pureVal_run _ (by kernel_rfl), ⟨by omega, by split <;> omega, by split <;> omega⟩, ?_⟩
   have hcut : (l.name.drop 0).take ((if 60 < (l.name.length : Int) then 60 else (l.name.length : Int)).toNat - 0) = l.name.take 60 := by
    rw [List.drop_zero, Nat.sub_zero]
    split
    · rfl
    · rw [Int.toNat_natCast, List.take_length, List.take_of_length_le (by omega)]
   rw [hcut]
   intro b2 hb2 h2 hh2
   refine Raw.mono (LM.push und30 elem89 rfl rfl rfl rfl rfl hx hM hb2 hh2 rfl rfl (by omega)) ?_
   rintro _ h3 ⟨b3, cap, rfl, x3, hM3, _⟩
   refine ⟨_, _, _, rfl, m - 1, by omega, ⟨j + 1, by rw [wrap64 (by omega) (by omega)]; omega, by omega, by omega, rfl, x3, ?_⟩, rfl, rfl, trivial⟩
   rw [← htk, List.map_append, List.map_append]
   exact hM3
 · have : 12 ≤ j := by have := of_decide_eq_false e1; omega
   rw [show j = 12 by omega]
 · have : p.labels.length ≤ j := by have := of_decide_eq_false e; omega
   rw [List.take_of_length_le this, List.take_of_length_le (by omega)]
theorem to_t {a1 : OA} {k1 : Nat} {a2 : OA} {k2 : Nat} {p : Pg} (hI : InAt h a1 p.code) (hL : LbAt h a2 p.labels) (hn : p.code.length ≤ 1000000) (hls : p.labels.length ≤ 1000000) :
 Tri Tryz.prog 20 [PV a1 k1 a2 k2 p] h fun v h' => Ext h h' ∧ ∃ a3 k3 a4 k4, v = PV a3 k3 a4 k4 p ∧ PgAt h' a3 k3 a4 k4 p := by
 refine T20 ?_
 unfold R20
 refine ⟨fun m i a n k l z e a' n' k' h' => ∃ j : Nat, i = (j : Int) ∧ j + m = p.code.length ∧ n = j ∧ l = p.data ∧ z = p.zero ∧ e = p.entry ∧ a' = none ∧ n' = 0 ∧ k' = 0 ∧ Ext h h' ∧ LM 58 4 h h' a n k (inL (p.code.take j)), ⟨p.code.length, 0, rfl, by omega, rfl, rfl, rfl, rfl, rfl, rfl, rfl, Ext.refl _, LM.nil⟩, ?_⟩
 rintro m _ a j k _ _ _ _ _ _ h1 ⟨_, rfl, hjm, rfl, rfl, rfl, rfl, rfl, rfl, rfl, hx, hM⟩
 refine br_split (fun e => ?_) fun e => ?_
 · have hlt : j < p.code.length := by have := of_decide_eq_true e; omega
   have hg : p.code[j]? = some p.code[j] := by simp [hlt]
   have htk := List.take_append_getElem hlt
   generalize p.code[j] = x at *
   obtain ⟨bb, o, ha, hr⟩ := (hI.ext hx).get hg
   refine ⟨bb, o, ha, ⟨by omega, by omega⟩, _, _, _, _, (by rw [Int.toNat_natCast]; exact hr), ?_⟩
   intro b2 hb2 h2 hh2
   refine Raw.mono (LM.push und22 elem58 rfl rfl rfl rfl rfl hx hM hb2 hh2 rfl rfl (by omega)) ?_
   rintro _ h3 ⟨b3, cap, rfl, x3, hM3, _⟩
   refine ⟨_, _, _, rfl, m - 1, by omega, ⟨j + 1, by rw [wrap64 (by omega) (by omega)]; omega, by omega, rfl, rfl, rfl, rfl, rfl, rfl, rfl, x3, ?_⟩, rfl, rfl, trivial⟩
   rw [← htk]
   unfold inL at hM3 ⊢
   rw [List.map_append]
   exact hM3
 · have hj : j = p.code.length := by have := of_decide_eq_false e; omega
   subst hj
   rw [List.take_length] at hM
   refine ⟨fun m i a' n' k' l z e a'' n'' k'' h' => ∃ j : Nat, i = (j : Int) ∧ j + m = p.labels.length ∧ a' = a ∧ n' = p.code.length ∧ k' = k ∧ l = p.data ∧ z = p.zero ∧ e = p.entry ∧ n'' = j ∧ Ext h1 h' ∧ LM 80 3 h1 h' a'' n'' k'' ((p.labels.take j).map lbC), ⟨p.labels.length, 0, rfl, by omega, rfl, rfl, rfl, rfl, rfl, rfl, rfl, Ext.refl _, LM.nil⟩, ?_⟩
   rintro m _ _ _ _ _ _ _ a'' j k'' h2 ⟨_, rfl, hjm, rfl, rfl, rfl, rfl, rfl, rfl, rfl, hx2, hM2⟩
   refine br_split (fun e => ?_) fun e => ?_
   · have hlt : j < p.labels.length := by have := of_decide_eq_true e; omega
     have hg : p.labels[j]? = some p.labels[j] := by simp [hlt]
     have htk := List.take_append_getElem hlt
     generalize p.labels[j] = l at *
     obtain ⟨bb, o, ha, hr⟩ := (hL.ext (hx.trans hx2)).get hg
     refine ⟨bb, o, ha, ⟨by omega, by omega⟩, _, _, _, (by rw [Int.toNat_natCast]; exact hr), ?_⟩
     intro b2 hb2 h3 hh3
     refine Raw.mono (LM.push und23 elem80 rfl rfl rfl rfl rfl hx2 hM2 hb2 hh3 rfl rfl (by omega)) ?_
     rintro _ h4 ⟨b3, cap, rfl, x4, hM4, _⟩
     refine ⟨_, _, _, rfl, m - 1, by omega, ⟨j + 1, by rw [wrap64 (by omega) (by omega)]; omega, by omega, rfl, rfl, rfl, rfl, rfl, rfl, rfl, x4, ?_⟩, rfl, rfl, trivial⟩
     rw [← htk, List.map_append]
     exact hM4
   · have hj : j = p.labels.length := by have := of_decide_eq_false e; omega
     subst hj
     rw [List.take_length] at hM2
     exact ⟨hx.trans hx2, _, _, _, _, rfl, hM.ins.ext hx2, hM2.lbs, hM.okN, hM2.okN⟩
end
end Go.Proofs.D
namespace Go.Proofs.D
open Go Go.Den
set_option maxRecDepth 100000
set_option maxHeartbeats 4000000
abbrev ejk1 : List CK := [.slice, .str, qi, qi, .slice]
noncomputable def d21 : DCode := up ⟨[(8, .l ejk1), (9, .c (.one false [qi])), (12, .l [.slice]), (17, .l [.str, .bool, qi]), (19, .l [.str]), (22, .l ejk1), (23, .l [.str, .bool, qi]), (24, .c (.one false [qi]))], [], [(15, 15, [(14, qi)], [])]⟩ (low Tryz.prog (fun _ => false) (Tryz.f21.body.getD .skip))
theorem low21 : low Tryz.prog (fun _ => false) (Tryz.f21.body.getD .skip) = some (eC d21) := by kernel_rfl
def R21 (a1 : OA) (n1 : Nat) (ejk1 : Nat) (l1 : Bs) (i1 : Int) (i2 : Int) (a2 : OA) (n2 : Nat) (k2 : Nat) (l2 : Bs) (h : PHeap) (Q : Value → PHeap → Prop) : Prop :=
 Tri Tryz.prog 24 [vA [vL a1 n1 ejk1, vS l1, vI i1, vI i2, vL a2 n2 k2]] h fun v_1 h_1 =>
 ∃ (i3 : Int), v_1 = vI i3 ∧
 br (i3 != 0)
 (Q (vT [vI 0, vB false]) h_1)
 (∃ (I_1 : Nat → Int → PHeap → Prop), (∃ (m2 : Nat), I_1 m2 (0 : Int) h_1) ∧
 ∀ (m1 : Nat) (i4 : Int) (h_2 : PHeap), I_1 m1 i4 h_2 →
 br (decide (i4 < ((n2 : Nat) : Int)))
 (∃ (b1 o1 : Nat), a2 = some ⟨b1, o1, none⟩ ∧ (0 ≤ i4 ∧ i4 < n2) ∧
 ∃ (l3 : Bs) (c1 : Bool) (i5 : Int), h_2.row b1 (o1 + (i4).toNat * 3) [vS l3, vB c1, vI i5] ∧
 br (l3 == l2)
 (Tri Tryz.prog 44 [vA [vL a1 n1 ejk1, vS l1, vI i1, vI i2, vL a2 n2 k2], vA [vS l3, vB c1, vI i5]] h_2 fun v_2 h_3 =>
 ∃ (i6 : Int), v_2 = vI i6 ∧
 Q (vT [vI i6, vB true]) h_3)
 (∃ (m3 : Nat), m3 < m1 ∧ I_1 m3 (IntKind.i64.wrap (i4 + 1)) h_2 ∧
 tv [vL a1 n1 ejk1, vS l1, vI i1, vI i2, vL a2 n2 k2] ∧ True))
 (Q (vT [vI 0, vB false]) h_2))
theorem T21 {a1 : OA} {n1 : Nat} {ejk1 : Nat} {l1 : Bs} {i1 : Int} {i2 : Int} {a2 : OA} {n2 : Nat} {k2 : Nat} {l2 : Bs} {h : PHeap} {Q : Value → PHeap → Prop} (hR : R21 a1 n1 ejk1 l1 i1 i2 a2 n2 k2 l2 h Q) : Tri Tryz.prog 21 [vA [vL a1 n1 ejk1, vS l1, vI i1, vI i2, vL a2 n2 k2], vS l2] h Q :=
 tri_of_dn mixed Tryz.func21 rfl (by kernel_rfl) low21 (rs := [.tmp 4, .tmp 5]) (by kernel_rfl) rfl (Eq.mpr (by kernel_rfl : dnF Tryz.prog Tryz.f21.ntmps d21 [.tmp 4, .tmp 5] [vA [vL a1 n1 ejk1, vS l1, vI i1, vI i2, vL a2 n2 k2], vS l2] h Q = R21 a1 n1 ejk1 l1 i1 i2 a2 n2 k2 l2 h Q) hR)
abbrev o6_0 : Op := .call { callee := (.builtin .min), args := #[(.tmp 12), (.const (vI 60))], argTypes := #[3, 3] }
noncomputable def d6 : DCode := up ⟨[(13, .c (.one false [qi])), (15, .c (.one false [.bool])), (19, .c (.one false [.bool])), (21, .c (.one false [.bool])), (68, .c (.one false [.bool])), (73, .c (.tup [(true, ejk1), (false, [qi]), (false, [qi])])), (82, .c (.one false [.bool])), (87, .l ejk1), (89, .c (.tup [(false, [qi]), (false, [.bool])]))], [], [(24, 49, [(3, qi)], [])]⟩ (low Tryz.prog (fun _ => false) (Tryz.f6.body.getD .skip))
theorem low6 : low Tryz.prog (fun _ => false) (Tryz.f6.body.getD .skip) = some (eC d6) := by kernel_rfl
def R6 (l1 : Bs) (h : PHeap) (Q : Value → PHeap → Prop) : Prop :=
 ∃ (i1 : Int), PureRun Tryz.prog (execOp (rho [(12, vI (l1.length : Int))]) (mkO o6_0 3)) (vI i1) ∧
 (0 ≤ (0 : Int) ∧ (0 : Int) ≤ i1 ∧ i1 ≤ (l1.length : Int)) ∧
 Tri Tryz.prog 15 [] h fun v_1 h_1 =>
 ∃ (c1 : Bool), v_1 = vB c1 ∧
 br (!c1)
 (Q (vB false) h_1)
 (Tri Tryz.prog 27 [vS ((l1.drop 0).take ((i1).toNat - 0))] h_1 fun v_2 h_2 =>
 ∃ (c2 : Bool), v_2 = vB c2 ∧
 Tri Tryz.prog 28 [vS ((l1.drop 0).take ((i1).toNat - 0))] h_2 fun v_3 h_3 =>
 ∃ (c3 : Bool), v_3 = vB c3 ∧
 br (!(c2 == c3))
 (Q (vB false) h_3)
 (∃ (I_1 : Nat → Int → PHeap → Prop), (∃ (m2 : Nat), I_1 m2 (0 : Int) h_3) ∧
 ∀ (m1 : Nat) (i2 : Int) (h_4 : PHeap), I_1 m1 i2 h_4 →
 br (decide (i2 < ((((l1.drop 0).take ((i1).toNat - 0))).length : Int)))
 (0 ≤ i2 ∧ ∃ (c4 : UInt8), (((l1.drop 0).take ((i1).toNat - 0)))[(i2).toNat]? = some c4 ∧
 br (decide ((c4.toNat : Int) < 97))
 (br (decide ((c4.toNat : Int) < 65))
 (br (decide ((c4.toNat : Int) < 48))
 (br ((c4.toNat : Int) != 95)
 (br ((c4.toNat : Int) != 46)
 (br ((c4.toNat : Int) != 45)
 (Tri Tryz.prog 27 [vS ((l1.drop 0).take ((i1).toNat - 0))] h_4 fun v_4 h_5 =>
 ∃ (c5 : Bool), v_4 = vB c5 ∧
 Q (vB (!c5)) h_5)
 (∃ (m3 : Nat), m3 < m1 ∧ I_1 m3 (IntKind.i64.wrap (i2 + 1)) h_4 ∧
 True))
 (∃ (m4 : Nat), m4 < m1 ∧ I_1 m4 (IntKind.i64.wrap (i2 + 1)) h_4 ∧
 True))
 (∃ (m5 : Nat), m5 < m1 ∧ I_1 m5 (IntKind.i64.wrap (i2 + 1)) h_4 ∧
 True))
 (br (decide ((c4.toNat : Int) > 57))
 (br ((c4.toNat : Int) != 95)
 (br ((c4.toNat : Int) != 46)
 (br ((c4.toNat : Int) != 45)
 (Tri Tryz.prog 27 [vS ((l1.drop 0).take ((i1).toNat - 0))] h_4 fun v_5 h_6 =>
 ∃ (c6 : Bool), v_5 = vB c6 ∧
 Q (vB (!c6)) h_6)
 (∃ (m6 : Nat), m6 < m1 ∧ I_1 m6 (IntKind.i64.wrap (i2 + 1)) h_4 ∧
 True))
 (∃ (m7 : Nat), m7 < m1 ∧ I_1 m7 (IntKind.i64.wrap (i2 + 1)) h_4 ∧
 True))
 (∃ (m8 : Nat), m8 < m1 ∧ I_1 m8 (IntKind.i64.wrap (i2 + 1)) h_4 ∧
 True))
 (∃ (m9 : Nat), m9 < m1 ∧ I_1 m9 (IntKind.i64.wrap (i2 + 1)) h_4 ∧
 True)))
 (br (decide ((c4.toNat : Int) > 90))
 (br (decide ((c4.toNat : Int) < 48))
 (br ((c4.toNat : Int) != 95)
 (br ((c4.toNat : Int) != 46)
 (br ((c4.toNat : Int) != 45)
 (Tri Tryz.prog 27 [vS ((l1.drop 0).take ((i1).toNat - 0))] h_4 fun v_6 h_7 =>
 ∃ (c7 : Bool), v_6 = vB c7 ∧
 Q (vB (!c7)) h_7)
 (∃ (m10 : Nat), m10 < m1 ∧ I_1 m10 (IntKind.i64.wrap (i2 + 1)) h_4 ∧
 True))
 (∃ (m11 : Nat), m11 < m1 ∧ I_1 m11 (IntKind.i64.wrap (i2 + 1)) h_4 ∧
 True))
 (∃ (m12 : Nat), m12 < m1 ∧ I_1 m12 (IntKind.i64.wrap (i2 + 1)) h_4 ∧
 True))
 (br (decide ((c4.toNat : Int) > 57))
 (br ((c4.toNat : Int) != 95)
 (br ((c4.toNat : Int) != 46)
 (br ((c4.toNat : Int) != 45)
 (Tri Tryz.prog 27 [vS ((l1.drop 0).take ((i1).toNat - 0))] h_4 fun v_7 h_8 =>
 ∃ (c8 : Bool), v_7 = vB c8 ∧
 Q (vB (!c8)) h_8)
 (∃ (m13 : Nat), m13 < m1 ∧ I_1 m13 (IntKind.i64.wrap (i2 + 1)) h_4 ∧
 True))
 (∃ (m14 : Nat), m14 < m1 ∧ I_1 m14 (IntKind.i64.wrap (i2 + 1)) h_4 ∧
 True))
 (∃ (m15 : Nat), m15 < m1 ∧ I_1 m15 (IntKind.i64.wrap (i2 + 1)) h_4 ∧
 True))
 (∃ (m16 : Nat), m16 < m1 ∧ I_1 m16 (IntKind.i64.wrap (i2 + 1)) h_4 ∧
 True)))
 (∃ (m17 : Nat), m17 < m1 ∧ I_1 m17 (IntKind.i64.wrap (i2 + 1)) h_4 ∧
 True)))
 (br (decide ((c4.toNat : Int) > 122))
 (br (decide ((c4.toNat : Int) < 65))
 (br (decide ((c4.toNat : Int) < 48))
 (br ((c4.toNat : Int) != 95)
 (br ((c4.toNat : Int) != 46)
 (br ((c4.toNat : Int) != 45)
 (Tri Tryz.prog 27 [vS ((l1.drop 0).take ((i1).toNat - 0))] h_4 fun v_8 h_9 =>
 ∃ (c9 : Bool), v_8 = vB c9 ∧
 Q (vB (!c9)) h_9)
 (∃ (m18 : Nat), m18 < m1 ∧ I_1 m18 (IntKind.i64.wrap (i2 + 1)) h_4 ∧
 True))
 (∃ (m19 : Nat), m19 < m1 ∧ I_1 m19 (IntKind.i64.wrap (i2 + 1)) h_4 ∧
 True))
 (∃ (m20 : Nat), m20 < m1 ∧ I_1 m20 (IntKind.i64.wrap (i2 + 1)) h_4 ∧
 True))
 (br (decide ((c4.toNat : Int) > 57))
 (br ((c4.toNat : Int) != 95)
 (br ((c4.toNat : Int) != 46)
 (br ((c4.toNat : Int) != 45)
 (Tri Tryz.prog 27 [vS ((l1.drop 0).take ((i1).toNat - 0))] h_4 fun v_9 h_10 =>
 ∃ (c10 : Bool), v_9 = vB c10 ∧
 Q (vB (!c10)) h_10)
 (∃ (m21 : Nat), m21 < m1 ∧ I_1 m21 (IntKind.i64.wrap (i2 + 1)) h_4 ∧
 True))
 (∃ (m22 : Nat), m22 < m1 ∧ I_1 m22 (IntKind.i64.wrap (i2 + 1)) h_4 ∧
 True))
 (∃ (m23 : Nat), m23 < m1 ∧ I_1 m23 (IntKind.i64.wrap (i2 + 1)) h_4 ∧
 True))
 (∃ (m24 : Nat), m24 < m1 ∧ I_1 m24 (IntKind.i64.wrap (i2 + 1)) h_4 ∧
 True)))
 (br (decide ((c4.toNat : Int) > 90))
 (br (decide ((c4.toNat : Int) < 48))
 (br ((c4.toNat : Int) != 95)
 (br ((c4.toNat : Int) != 46)
 (br ((c4.toNat : Int) != 45)
 (Tri Tryz.prog 27 [vS ((l1.drop 0).take ((i1).toNat - 0))] h_4 fun v_10 h_11 =>
 ∃ (c11 : Bool), v_10 = vB c11 ∧
 Q (vB (!c11)) h_11)
 (∃ (m25 : Nat), m25 < m1 ∧ I_1 m25 (IntKind.i64.wrap (i2 + 1)) h_4 ∧
 True))
 (∃ (m26 : Nat), m26 < m1 ∧ I_1 m26 (IntKind.i64.wrap (i2 + 1)) h_4 ∧
 True))
 (∃ (m27 : Nat), m27 < m1 ∧ I_1 m27 (IntKind.i64.wrap (i2 + 1)) h_4 ∧
 True))
 (br (decide ((c4.toNat : Int) > 57))
 (br ((c4.toNat : Int) != 95)
 (br ((c4.toNat : Int) != 46)
 (br ((c4.toNat : Int) != 45)
 (Tri Tryz.prog 27 [vS ((l1.drop 0).take ((i1).toNat - 0))] h_4 fun v_11 h_12 =>
 ∃ (c12 : Bool), v_11 = vB c12 ∧
 Q (vB (!c12)) h_12)
 (∃ (m28 : Nat), m28 < m1 ∧ I_1 m28 (IntKind.i64.wrap (i2 + 1)) h_4 ∧
 True))
 (∃ (m29 : Nat), m29 < m1 ∧ I_1 m29 (IntKind.i64.wrap (i2 + 1)) h_4 ∧
 True))
 (∃ (m30 : Nat), m30 < m1 ∧ I_1 m30 (IntKind.i64.wrap (i2 + 1)) h_4 ∧
 True))
 (∃ (m31 : Nat), m31 < m1 ∧ I_1 m31 (IntKind.i64.wrap (i2 + 1)) h_4 ∧
 True)))
 (∃ (m32 : Nat), m32 < m1 ∧ I_1 m32 (IntKind.i64.wrap (i2 + 1)) h_4 ∧
 True)))
 (∃ (m33 : Nat), m33 < m1 ∧ I_1 m33 (IntKind.i64.wrap (i2 + 1)) h_4 ∧
 True)))
 (((l1.drop 0).take ((i1).toNat - 0)).length + ([58, 104, 97, 108, 116] : Bs).length ≤ 9223372036854775807 ∧
 Tri Tryz.prog 13 [vS (((l1.drop 0).take ((i1).toNat - 0)) ++ ([58, 104, 97, 108, 116] : Bs))] h_4 fun v_12 h_13 =>
 ∃ (a1 : OA) (n1 ejk1 : Nat) (l2 : Bs) (i3 i4 : Int) (a2 : OA) (n2 k2 : Nat) (i5 i6 : Int), v_12 = vT [vA [vL a1 n1 ejk1, vS l2, vI i3, vI i4, vL a2 n2 k2], vI i5, vI i6] ∧
 br (((l1.drop 0).take ((i1).toNat - 0)) == [])
 (Q (vB (i6 == 30)) h_13)
 (Tri Tryz.prog 27 [vS ((l1.drop 0).take ((i1).toNat - 0))] h_13 fun v_13 h_14 =>
 ∃ (c13 : Bool), v_13 = vB c13 ∧
 br (!c13)
 (Q (vB (i6 == 12)) h_14)
 (Tri Tryz.prog 21 [vA [vL a1 n1 ejk1, vS l2, vI i3, vI i4, vL a2 n2 k2], vS ((l1.drop 0).take ((i1).toNat - 0))] h_14 fun v_14 h_15 =>
 ∃ (i7 : Int) (c14 : Bool), v_14 = vT [vI i7, vB c14] ∧
 br (i6 == 0)
 (br c14
 (Q (vB (i7 == 0)) h_15)
 (Q (vB false) h_15))
 (Q (vB false) h_15))))))
theorem T6 {l1 : Bs} {h : PHeap} {Q : Value → PHeap → Prop} (hR : R6 l1 h Q) : Tri Tryz.prog 6 [vS l1] h Q :=
 tri_of_dn mixed Tryz.func6 rfl (by kernel_rfl) low6 (rs := [.tmp 2]) (by kernel_rfl) rfl (Eq.mpr (by kernel_rfl : dnF Tryz.prog Tryz.f6.ntmps d6 [.tmp 2] [vS l1] h Q = R6 l1 h Q) hR)
end Go.Proofs.D
namespace Go.As
theorem word_tab : ∀ n : Fin 256, wordB (UInt8.ofNat n.val) = decide ((97 ≤ n.val ∧ n.val ≤ 122) ∨ (65 ≤ n.val ∧ n.val ≤ 90) ∨ (48 ≤ n.val ∧ n.val ≤ 57) ∨ n.val = 95 ∨ n.val = 46 ∨ n.val = 45) := by decide +kernel
theorem word_iff (c : UInt8) : wordB c = decide ((97 ≤ c.toNat ∧ c.toNat ≤ 122) ∨ (65 ≤ c.toNat ∧ c.toNat ≤ 90) ∨ (48 ≤ c.toNat ∧ c.toNat ≤ 57) ∨ c.toNat = 95 ∨ c.toNat = 46 ∨ c.toNat = 45) := by
 have := word_tab ⟨c.toNat, c.toNat_lt⟩
 simpa using this
def hlt : Bytes := [58, 104, 97, 108, 116]
theorem word10 {c : UInt8} (h : wordB c = true) : c ≠ 10 := by rintro rfl; exact absurd h (by decide)
theorem split_none : ∀ (s : Bytes), (∀ c ∈ s, c ≠ 10) → splitAt10 s = [s]
 | [], _ => rfl
 | c :: r, h => by
   rw [splitAt10, if_neg (h c (List.mem_cons_self ..)), split_none r fun x hx => h x (List.mem_cons_of_mem _ hx)]
theorem hlt_stop : Stop hlt := stop_cons (by decide) _
theorem name_split {s : Bytes} (hs : s.all wordB = true) : splitAt10 (s ++ hlt) = [s ++ hlt] := by
 refine split_none _ fun c hc => ?_
 rcases List.mem_append.1 hc with h | h
 · exact word10 (List.all_eq_true.1 hs c h)
 · revert c
   intro c _ h
   have : ∀ c ∈ hlt, c ≠ 10 := by decide
   exact this c h
theorem name_tok {s : Bytes} (hs : s.all wordB = true) (hn : s ≠ []) : tokensL (s ++ hlt) = some [⟨1, s⟩, ⟨4, [58]⟩, ⟨1, [104, 97, 108, 116]⟩] := by
 rw [tokL_word hs hn hlt_stop]
 rw [show tokensL hlt = some [⟨4, [58]⟩, ⟨1, [104, 97, 108, 116]⟩] by kernel_rfl]; rfl
theorem name_line {s : Bytes} (hs : s.all wordB = true) (hn : s ≠ []) : lineS st0 (s ++ hlt) = (defineS st0 [s] >>= fun a => stmtS a [104, 97, 108, 116] []) := by
 unfold lineS
 rw [name_tok hs hn]
 rfl
def nameP (s : Bytes) : Pg := ⟨[⟨0, 0, 0, 0⟩], [], 0, 0, [⟨s, false, 0⟩]⟩
theorem name_bad {s : Bytes} (hs : s.all wordB = true) (hn : s ≠ []) (hb : s.length ≤ 60) (hl : isLabel s = false) : assembleS (s ++ hlt) = .error (1, 12) := by
 unfold assembleS
 rw [if_neg (by rw [List.length_append]; show ¬ 65536 < s.length + 5; omega), name_split hs]
 rw [linesS, name_line hs hn, defineS, if_pos hl]; rfl
theorem name_check {s : Bytes} (hl : isLabel s = true) : checkP (nameP s) = 0 := by
 have h1 : labelsErr (nameP s) none [⟨s, false, 0⟩] = 0 := by
  rw [labelsErr, if_neg (by rw [hl]; decide), if_neg (by simp [nameP]), if_neg (by simp)]; rfl
 unfold checkP
 rw [show ((nameP s).code.map checkI).find? (· ≠ 0) = none from by kernel_rfl]
 simp only
 rw [if_neg (by simp [nameP, dataAt]), if_neg (by simp [nameP])]
 rw [show (nameP s).labels = [⟨s, false, 0⟩] from rfl, h1]
 simp [twice]
theorem name_good {s : Bytes} (hs : s.all wordB = true) (hn : s ≠ []) (hb : s.length ≤ 60) (hl : isLabel s = true) : assembleS (s ++ hlt) = .ok (nameP s) := by
 unfold assembleS
 rw [if_neg (by rw [List.length_append]; show ¬ 65536 < s.length + 5; omega), name_split hs]
 rw [linesS, name_line hs hn, defineS, if_neg (by rw [hl]; decide), if_neg (by simp [st0]), if_neg (by simp [st0])]
 have h2 : (defineS { st0 with p := { st0.p with labels := st0.p.labels ++ [⟨s, st0.inData, if st0.inData then (st0.p.data.length : Int) else (4 * st0.p.code.length : Nat)⟩] } } [] >>= fun a => stmtS a [104, 97, 108, 116] []) = .ok { st0 with p := nameP s } := by kernel_rfl
 rw [h2]
 have h3 : linesS { ({ st0 with p := nameP s } : St) with line := st0.line + 1 } [] = .ok { ({ st0 with p := nameP s } : St) with line := 2 } := rfl
 simp only [h3]
 have h4 : resolveS (nameP s) st0.uses = .ok (nameP s) := rfl
 simp only [h4]
 have h5 : sortL (nameP s).labels = (nameP s).labels := rfl
 rw [h5]
 have h6 : ({ nameP s with labels := (nameP s).labels } : Pg) = nameP s := rfl
 rw [h6, name_check hl]; rfl
end Go.As
namespace Go.Proofs.D
open Go Go.Den Go.As
set_option maxRecDepth 100000
attribute [local irreducible] IntKind.wrap Tri
section
variable {h : PHeap}
def adrV (p : Pg) (n : Bytes) : Value := if checkP p ≠ 0 then vT [vI 0, vB false] else match address p n with
 | none => vT [vI 0, vB false]
 | some i => vT [vI i, vB true]
theorem address21_t (hO : OpTab h) {a1 : OA} {k1 : Nat} {a2 : OA} {k2 : Nat} {p : Pg} {n : Bytes} (hI : InAt h a1 p.code) (hL : LbAt h a2 p.labels) (hn : p.code.length ≤ 1000000) (hd : p.data.length ≤ 1000000) (hls : p.labels.length ≤ 1000000) (ho : ∀ l ∈ p.labels, -9223372036854775808 ≤ l.off ∧ l.off ≤ 9223372036854775807) (he : -9223372036854775808 ≤ p.entry ∧ p.entry ≤ 9223372036854775807) :
 Tri Tryz.prog 21 [vA [vL a1 p.code.length k1, vS p.data, vI p.zero, vI p.entry, vL a2 p.labels.length k2], vS n] h fun v h' => v = adrV p n ∧ Ext h h' := by
 refine T21 ?_
 unfold R21
 refine Tri.mono (check_t hO hI hL hn hd hls ho he) ?_
 rintro _ h1 ⟨rfl, x1⟩
 refine ⟨_, rfl, br_split (fun e => ?_) fun e => ?_⟩
 · have e : checkP p ≠ 0 := by simpa using e
   unfold adrV; rw [if_pos e]
   exact ⟨rfl, x1⟩
 have e : checkP p = 0 := by simpa using e
 have hok := check_ok e
 have hadr : adrV p n = match address p n with
  | none => vT [vI 0, vB false]
  | some i => vT [vI i, vB true] := by unfold adrV; rw [if_neg (by simp [e])]
 refine ⟨fun m i h' => ∃ j : Nat, i = (j : Int) ∧ j + m = p.labels.length ∧ h' = h1 ∧ (p.labels.find? fun l => l.name == n) = ((p.labels.drop j).find? fun l => l.name == n), ⟨p.labels.length, 0, rfl, by omega, rfl, rfl⟩, ?_⟩
 rintro m _ h2 ⟨j, rfl, hjm, rfl, hf⟩
 refine br_split (fun e1 => ?_) fun e1 => ?_
 · have hlt : j < p.labels.length := by have := of_decide_eq_true e1; omega
   have hg : p.labels[j]? = some p.labels[j] := by simp [hlt]
   have hdr := List.drop_eq_getElem_cons hlt
   have hmem := List.getElem_mem hlt
   rw [hdr, List.find?_cons] at hf
   generalize p.labels[j] = l at *
   obtain ⟨b, o, ha, hr⟩ := (hL.ext x1).get hg
   refine ⟨b, o, ha, ⟨by omega, by omega⟩, _, _, _, (by rw [Int.toNat_natCast]; exact hr), br_split (fun e2 => ?_) fun e2 => ?_⟩
   · rw [e2] at hf
     have hlo := hok.each l hmem
     have hb : -1000000000 ≤ l.off ∧ l.off ≤ 1000000000 := by
      have h1 := hlo.lo
      have h2 := hok.zero
      have h3 := hok.codeLen
      cases hd : l.data with
      | true => have := hlo.dat hd; omega
      | false => have := hlo.code hd; omega
     refine Tri.mono (address_t (p := p) hn hb) ?_
     rintro _ h2 ⟨rfl, rfl⟩
     refine ⟨_, rfl, ?_, x1⟩
     rw [hadr]
     unfold address
     rw [hf]; rfl
   · rw [e2] at hf
     refine ⟨m - 1, by omega, ⟨j + 1, ?_, by omega, rfl, hf⟩, rfl, trivial⟩
     rw [wrap64 (by omega) (by omega)]; omega
 · have hj : j = p.labels.length := by have := of_decide_eq_false e1; omega
   subst hj
   rw [List.drop_length] at hf
   refine ⟨?_, x1⟩
   rw [hadr]
   unfold address
   rw [hf]; rfl
def N6 (c : UInt8) (A B : Prop) : Prop := br ((c.toNat : Int) != 95) (br ((c.toNat : Int) != 46) (br ((c.toNat : Int) != 45) A B) B) B
def D6 (c : UInt8) (A B : Prop) : Prop := br (decide ((c.toNat : Int) < 48)) (N6 c A B) (br (decide ((c.toNat : Int) > 57)) (N6 c A B) B)
def U6 (c : UInt8) (A B : Prop) : Prop := br (decide ((c.toNat : Int) < 65)) (D6 c A B) (br (decide ((c.toNat : Int) > 90)) (D6 c A B) B)
def T6r (c : UInt8) (A B : Prop) : Prop := br (decide ((c.toNat : Int) < 97)) (U6 c A B) (br (decide ((c.toNat : Int) > 122)) (U6 c A B) B)
theorem tree_6 {c : UInt8} {A B : Prop} (hA : wordB c = false → A) (hB : wordB c = true → B) : T6r c A B := by
 have key := word_iff c
 have bb : (97 ≤ c.toNat ∧ c.toNat ≤ 122) ∨ (65 ≤ c.toNat ∧ c.toNat ≤ 90) ∨ (48 ≤ c.toNat ∧ c.toNat ≤ 57) ∨ c.toNat = 95 ∨ c.toNat = 46 ∨ c.toNat = 45 → B := fun h => hB (by rw [key]; exact decide_eq_true h)
 have aa : ¬ ((97 ≤ c.toNat ∧ c.toNat ≤ 122) ∨ (65 ≤ c.toNat ∧ c.toNat ≤ 90) ∨ (48 ≤ c.toNat ∧ c.toNat ≤ 57) ∨ c.toNat = 95 ∨ c.toNat = 46 ∨ c.toNat = 45) → A := fun h => hA (by rw [key]; exact decide_eq_false h)
 have n6 : ¬ ((97 ≤ c.toNat ∧ c.toNat ≤ 122) ∨ (65 ≤ c.toNat ∧ c.toNat ≤ 90) ∨ (48 ≤ c.toNat ∧ c.toNat ≤ 57)) → N6 c A B := fun h => by
  refine br_split (fun e => br_split (fun e1 => br_split (fun e2 => aa ?_) fun e2 => bb ?_) fun e1 => bb ?_) fun e => bb ?_
  all_goals simp at *; omega
 have d6 : ¬ ((97 ≤ c.toNat ∧ c.toNat ≤ 122) ∨ (65 ≤ c.toNat ∧ c.toNat ≤ 90)) → D6 c A B := fun h => by
  refine br_split (fun e => n6 ?_) fun e => br_split (fun e1 => n6 ?_) fun e1 => bb ?_
  all_goals simp at *; omega
 have u6 : ¬ (97 ≤ c.toNat ∧ c.toNat ≤ 122) → U6 c A B := fun h => by
  refine br_split (fun e => d6 ?_) fun e => br_split (fun e1 => d6 ?_) fun e1 => bb ?_
  all_goals simp at *; omega
 refine br_split (fun e => u6 ?_) fun e => br_split (fun e1 => u6 ?_) fun e1 => bb ?_
 all_goals simp at *; omega
end
theorem names_tri {h : PHeap} (hO : OpTab h) (hM : MaxLen h) (l1 : Bs) : Tri Tryz.prog 6 [vS l1] h fun v h' => v = vB true ∧ ∀ k o, h k = some o → h' k = some o := by
 refine T6 ?_
 unfold R6
 refine ⟨if 60 < (l1.length : Int) then 60 else (l1.length : Int), pureVal_run _ (by kernel_rfl), by split <;> omega, ?_⟩
 have hcut : (l1.drop 0).take ((if 60 < (l1.length : Int) then 60 else (l1.length : Int)).toNat - 0) = l1.take 60 := by
  rw [List.drop_zero, Nat.sub_zero]
  split
  · rfl
  · rw [Int.toNat_natCast, List.take_length, List.take_of_length_le (by omega)]
 rw [hcut]
 have hb : (l1.take 60).length ≤ 60 := by rw [List.length_take]; omega
 generalize l1.take 60 = s at *
 refine Tri.mono (known_t hO hM) ?_
 rintro _ h1 ⟨rfl, x1⟩
 refine ⟨_, rfl, br_neg rfl ?_⟩
 refine Tri.mono (label_t h1 s) ?_
 rintro _ h1 ⟨rfl, rfl⟩
 refine ⟨_, rfl, ?_⟩
 refine Tri.mono (rlabel_t h1 s) ?_
 rintro _ h1 ⟨rfl, rfl⟩
 refine ⟨_, rfl, br_neg (by simp) ?_⟩
 refine ⟨fun m i h' => ∃ j : Nat, i = (j : Int) ∧ j + m = s.length ∧ h' = h1 ∧ (s.take j).all wordB = true, ⟨s.length, 0, rfl, by omega, rfl, by simp⟩, ?_⟩
 rintro m _ h2 ⟨j, rfl, hjm, rfl, hall⟩
 refine br_split (fun e => ?_) fun e => ?_
 · have hlt : j < s.length := by have := of_decide_eq_true e; omega
   have hg : s[j]? = some s[j] := by simp [hlt]
   have htk := List.take_append_getElem hlt
   have hmem := List.getElem_mem hlt
   generalize s[j] = c at *
   refine ⟨by omega, c, (by rw [Int.toNat_natCast]; exact hg), ?_⟩
   refine tree_6 (fun hw => ?_) fun hw => ?_
   · refine Tri.mono (label_t h2 s) ?_
     rintro _ h3 ⟨rfl, rfl⟩
     have : isLabel s = false := by
      cases hl : isLabel s with
      | false => rfl
      | true =>
        have := List.all_eq_true.1 (As.label_word hl).1 c hmem
        rw [hw] at this; cases this
     exact ⟨_, rfl, by rw [this]; rfl, x1⟩
   · refine ⟨m - 1, by omega, ⟨j + 1, ?_, by omega, rfl, ?_⟩, trivial⟩
     · rw [wrap64 (by omega) (by omega)]; omega
     · rw [← htk, List.all_append, hall]; simp [hw]
 · have hj : j = s.length := by have := of_decide_eq_false e; omega
   subst hj
   rw [List.take_length] at hall
   refine ⟨by show s.length + 5 ≤ _; omega, ?_⟩
   refine Tri.mono (asm_t (s ++ hlt) (hO.ext x1) (hM.ext x1)) ?_
   rintro v h3 ⟨x3, hr⟩
   have x13 := x1.trans x3
   by_cases hn : s = []
   · subst hn
     rw [show assembleS ([] ++ hlt) = .error (1, 30) by kernel_rfl] at hr
     obtain ⟨_, rfl⟩ := hr
     exact ⟨_, _, _, _, _, _, _, _, _, _, _, rfl, br_pos rfl ⟨rfl, x13⟩⟩
   · have hne : (s == []) = false := by simpa using hn
     cases hl : isLabel s with
     | false =>
       rw [name_bad hall hn hb hl] at hr
       obtain ⟨_, rfl⟩ := hr
       refine ⟨_, _, _, _, _, _, _, _, _, _, _, rfl, br_neg hne (Tri.mono (label_t h3 s) ?_)⟩
       rintro _ h4 ⟨rfl, rfl⟩
       exact ⟨_, rfl, br_pos (by rw [hl]; rfl) ⟨rfl, x13⟩⟩
     | true =>
       rw [name_good hall hn hb hl] at hr
       obtain ⟨a1, k1, a2, k2, rfl, hI, hL, _, _⟩ := hr
       refine ⟨_, _, _, _, _, _, _, _, _, _, _, rfl, br_neg hne (Tri.mono (label_t h3 s) ?_)⟩
       rintro _ h4 ⟨rfl, rfl⟩
       refine ⟨_, rfl, br_neg (by rw [hl]; rfl) ?_⟩
       refine Tri.mono (address21_t (p := nameP s) (hO.ext x13) hI hL (by show 1 ≤ 1000000; decide) (by show 0 ≤ 1000000; decide) (by show 1 ≤ 1000000; decide) (fun l hm => by rw [List.mem_singleton.1 hm]; show _ ≤ (0 : Int) ∧ (0 : Int) ≤ _; decide) (by show _ ≤ (0 : Int) ∧ (0 : Int) ≤ _; decide)) ?_
       rintro _ h5 ⟨rfl, x5⟩
       have hv : adrV (nameP s) s = vT [vI 0, vB true] := by
        unfold adrV
        rw [if_neg (by rw [name_check hl]; decide)]
        have : address (nameP s) s = some 0 := by
         unfold address nameP
         simp [placeOf]
        rw [this]
       exact ⟨_, _, hv, br_pos rfl (br_pos rfl ⟨rfl, x13.trans x5⟩)⟩
end Go.Proofs.D
namespace Go.Proofs.D
open Go Go.Den Go.As
set_option maxRecDepth 100000
attribute [local irreducible] IntKind.wrap Tri
structure PRange (p : Pg) : Prop where
 ent : -9223372036854775808 ≤ p.entry ∧ p.entry ≤ 9223372036854775807
 off : ∀ l ∈ p.labels, -9223372036854775808 ≤ l.off ∧ l.off ≤ 9223372036854775807
theorem PRange.short {p : Pg} (h : PRange p) : PRange (shortP p) := by
 refine ⟨h.ent, fun l hl => ?_⟩
 obtain ⟨x, hx, rfl⟩ := List.mem_map.1 hl
 exact h.off x (List.mem_of_mem_take hx)
theorem short_len (p : Pg) : (shortP p).code.length ≤ 24 ∧ (shortP p).data.length ≤ 200 ∧ (shortP p).labels.length ≤ 12 := by
 unfold shortP
 simp only [List.length_take, List.length_map]
 omega
theorem checks_tri {h : PHeap} (hO : OpTab h) (hM : MaxLen h) {a1 a2 : OA} {k1 k2 : Nat} {p : Pg} (hp : PIn h a1 k1 a2 k2 p) (hr : PRange p) (l2 : Bs) : Tri Tryz.prog 5 [PV a1 k1 a2 k2 p, vS l2] h fun v h' => v = vB true ∧ ∀ k o, h k = some o → h' k = some o := by
 refine T5 ?_
 unfold R5
 refine Tri.mono (short_t hp) ?_
 rintro v h1 ⟨x1, a3, k3, a4, k4, rfl, hI, hL⟩
 obtain ⟨s1, s2, s3⟩ := short_len p
 have hr := hr.short
 generalize shortP p = q at *
 refine ⟨_, _, _, _, _, _, _, _, _, rfl, if 60 < (l2.length : Int) then 60 else (l2.length : Int), pureVal_run _ (by kernel_rfl), ⟨by omega, by split <;> omega, by split <;> omega⟩, ?_⟩
 generalize (l2.drop 0).take ((if 60 < (l2.length : Int) then 60 else (l2.length : Int)).toNat - 0) = n
 refine Tri.mono (to_t hI hL (by omega) (by omega)) ?_
 rintro v h2 ⟨x2, a5, k5, a6, k6, rfl, hG⟩
 have x12 := x1.trans x2
 refine ⟨_, _, _, _, _, _, _, _, _, rfl, ?_⟩
 refine Tri.mono (address21_t (n := n) (hO.ext x12) hG.ins hG.lbs (by omega) (by omega) (by omega) hr.off hr.ent) ?_
 rintro v h3 ⟨hv, x3⟩
 have x13 := x12.trans x3
 have hI3 := hI.ext (x2.trans x3)
 have hL3 := hL.ext (x2.trans x3)
 have rest : ∀ (i8 : Int) (c1 : Bool) (i10 : Int) (h5 : PHeap), Ext h3 h5 → c1 = decide (i10 ≥ 0) → i8 = (if i10 < 0 then 0 else i10) →
  Tri Tryz.prog 15 [] h5 fun v_6 h_6 =>
  ∃ (c2 : Bool), v_6 = vB c2 ∧
  br c2
  (Tri Tryz.prog 24 [PV a5 k5 a6 k6 q] h_6 fun v_7 h_7 =>
  ∃ (i11 : Int), v_7 = vI i11 ∧
  (tv [vL a3 q.code.length k3, vS q.data, vI q.zero, vI q.entry, vL a4 q.labels.length k4]) ∧
  Tri Tryz.prog 22 [PV a3 k3 a4 k4 q] h_7 fun v_8 h_8 =>
  ∃ (i12 : Int), v_8 = vI i12 ∧
  br (i11 == i12)
  (Tri Tryz.prog 25 [PV a5 k5 a6 k6 q] h_8 fun v_9 h_9 =>
  ∃ (i13 : Int), v_9 = vI i13 ∧
  (tv [vL a3 q.code.length k3, vS q.data, vI q.zero, vI q.entry, vL a4 q.labels.length k4]) ∧
  Tri Tryz.prog 26 [PV a3 k3 a4 k4 q] h_9 fun v_10 h_10 =>
  ∃ (i14 : Int), v_10 = vI i14 ∧
  br (i13 == i14)
  (br (c1 == (decide (i10 ≥ 0)))
  (∃ (i15 : Int), PureRun Tryz.prog (execOp (rho [(53, vI i10)]) (mkO o5_8 3)) (vI i15) ∧
  (vB (i8 == i15) = vB true ∧ ∀ k o, h k = some o → h_10 k = some o))
  (vB false = vB true ∧ ∀ k o, h k = some o → h_10 k = some o))
  (vB false = vB true ∧ ∀ k o, h k = some o → h_10 k = some o))
  (vB false = vB true ∧ ∀ k o, h k = some o → h_8 k = some o))
  (vB false = vB true ∧ ∀ k o, h k = some o → h_6 k = some o) := fun i8 c1 i10 h5 x5 hc1 hi8 => by
  have x15 := x13.trans x5
  refine Tri.mono (known_t (hO.ext x15) (hM.ext x15)) ?_
  rintro _ h6 ⟨rfl, x6⟩
  have x36 := x5.trans x6
  refine ⟨_, rfl, br_pos rfl ?_⟩
  refine Tri.mono (check_t (hO.ext (x15.trans x6)) (hG.ins.ext (x3.trans x36)) (hG.lbs.ext (x3.trans x36)) (by omega) (by omega) (by omega) hr.off hr.ent) ?_
  rintro _ h7 ⟨rfl, x7⟩
  refine ⟨_, rfl, rfl, ?_⟩
  refine Tri.mono (rcheckP_t (hI3.ext (x36.trans x7)) (hL3.ext (x36.trans x7)) (by omega) (by omega) (by omega)) ?_
  rintro _ h8 ⟨rfl, rfl⟩
  refine ⟨_, rfl, br_pos (by simp) ?_⟩
  refine Tri.mono (dataAt_t (p := q) (by omega)) ?_
  rintro _ h8 ⟨rfl, rfl⟩
  refine ⟨_, rfl, rfl, ?_⟩
  refine Tri.mono (rdataAt_t (p := q) (by omega)) ?_
  rintro _ h8 ⟨rfl, rfl⟩
  exact ⟨_, rfl, br_pos (by simp) (br_pos (by rw [hc1]; simp) ⟨if i10 < 0 then 0 else i10, pureVal_run _ (by kernel_rfl), by rw [hi8]; simp, (x15.trans x6).trans x7⟩)⟩
 have hck := rcheckP_t (h := h3) (k1 := k3) (k2 := k4) hI3 hL3 (by omega) (by omega) (by omega)
 by_cases e : checkP q = 0
 · have hok := check_ok e
   have hoff : ∀ l ∈ q.labels, 0 ≤ l.off ∧ l.off ≤ 1000000000 := fun l hl => by
    have hlo := hok.each l hl
    have h1 := hlo.lo
    have h2 := hok.zero
    cases hd : l.data with
    | true => have := hlo.dat hd; omega
    | false => have := hlo.code hd; omega
   have hadr : ∃ (i8 : Int) (c1 : Bool), v = vT [vI i8, vB c1] ∧ c1 = decide ((address q n).getD (-1) ≥ 0) ∧ i8 = (if (address q n).getD (-1) < 0 then 0 else (address q n).getD (-1)) := by
    rw [hv]
    unfold adrV
    rw [if_neg (by simp [e])]
    cases had : address q n with
    | none => exact ⟨0, false, rfl, rfl, rfl⟩
    | some i =>
      have hi : 0 ≤ i := by
       unfold address at had
       simp only [Option.map_eq_some_iff] at had
       obtain ⟨l, g1, rfl⟩ := had
       have := hoff l (List.mem_of_find?_eq_some g1)
       unfold placeOf dataAt
       split <;> omega
      refine ⟨i, true, rfl, ?_, ?_⟩
      · simp [hi]
      · simp only [Option.getD_some]; rw [if_neg (by omega)]
   obtain ⟨i8, c1, rfl, hc1, hi8⟩ := hadr
   refine ⟨i8, c1, rfl, ?_⟩
   refine Tri.mono hck ?_
   rintro _ h4 ⟨rfl, rfl⟩
   refine ⟨_, rfl, br_pos (by simp [e]) ?_⟩
   refine Tri.mono (raddr_t (n := n) hL3 (by omega) (by omega) hoff) ?_
   rintro _ h4 ⟨rfl, rfl⟩
   exact ⟨_, rfl, rest i8 c1 _ _ (Ext.refl _) hc1 hi8⟩
 · have hvv : v = vT [vI 0, vB false] := by rw [hv]; unfold adrV; rw [if_pos e]
   subst hvv
   refine ⟨0, false, rfl, ?_⟩
   refine Tri.mono hck ?_
   rintro _ h4 ⟨rfl, rfl⟩
   refine ⟨_, rfl, br_neg (by simp; omega) ?_⟩
   exact rest 0 false (-1) _ (Ext.refl _) rfl rfl
end Go.Proofs.D
namespace Go.Proofs.D
open Go Go.Den
set_option maxRecDepth 100000
set_option maxHeartbeats 4000000
abbrev esk1 : List CK := [qi, qi, qi, qi]
abbrev esk2 : List CK := [.slice, .str, qi, qi, .slice]
abbrev o16_5 : Op := .binOp .neq 57 (.tmp 55) (.tmp 60) 57
abbrev o16_8 : Op := .binOp .neq 89 (.tmp 73) (.tmp 78) 89
noncomputable def d16 : DCode := up ⟨[(8, .l [.str]), (10, .l [.str]), (14, .l [qi]), (16, .l [qi]), (21, .l [qi]), (23, .l [qi]), (28, .l [.slice]), (31, .l [.slice]), (37, .l [.slice]), (40, .l [.slice]), (46, .l [.slice]), (52, .l [.slice]), (55, .l esk1), (57, .l [.slice]), (60, .l esk1), (61, .c (.one false [.bool])), (64, .l [.slice]), (70, .l [.slice]), (73, .l [.str, .bool, qi]), (75, .l [.slice]), (78, .l [.str, .bool, qi]), (79, .c (.one false [.bool]))], [], [(44, 20, [(5, qi)], []), (62, 20, [(6, qi)], [])]⟩ (low Tryz.prog (fun _ => false) (Tryz.f16.body.getD .skip))
theorem low16 : low Tryz.prog (fun _ => false) (Tryz.f16.body.getD .skip) = some (eC d16) := by kernel_rfl
def R16 (a1 : OA) (n1 : Nat) (esk1 : Nat) (l1 : Bs) (i1 : Int) (i2 : Int) (a2 : OA) (n2 : Nat) (esk2 : Nat) (a3 : OA) (n3 : Nat) (k3 : Nat) (l2 : Bs) (i3 : Int) (i4 : Int) (a4 : OA) (n4 : Nat) (k4 : Nat) (h : PHeap) (Q : Value → PHeap → Prop) : Prop :=
 br (!(l1 == l2))
 (Q (vB false) h)
 (br (i1 != i3)
 (Q (vB false) h)
 (br (i2 != i4)
 (Q (vB false) h)
 (br (((n1 : Nat) : Int) != ((n3 : Nat) : Int))
 (Q (vB false) h)
 (br (((n2 : Nat) : Int) != ((n4 : Nat) : Int))
 (Q (vB false) h)
 (∃ (I_1 : Nat → Int → PHeap → Prop), (∃ (m2 : Nat), I_1 m2 (0 : Int) h) ∧
 ∀ (m1 : Nat) (i5 : Int) (h_1 : PHeap), I_1 m1 i5 h_1 →
 br (decide (i5 < ((n1 : Nat) : Int)))
 (∃ (b1 o1 : Nat), a1 = some ⟨b1, o1, none⟩ ∧ (0 ≤ i5 ∧ i5 < n1) ∧
 ∃ (i6 i7 i8 i9 : Int), h_1.row b1 (o1 + (i5).toNat * 4) [vI i6, vI i7, vI i8, vI i9] ∧
 ∃ (b2 o2 : Nat), a3 = some ⟨b2, o2, none⟩ ∧ (0 ≤ i5 ∧ i5 < n3) ∧
 ∃ (i10 i11 i12 i13 : Int), h_1.row b2 (o2 + (i5).toNat * 4) [vI i10, vI i11, vI i12, vI i13] ∧
 ∃ (c1 : Bool), PureRun Tryz.prog (execOp (rho [(55, vA [vI i6, vI i7, vI i8, vI i9]), (60, vA [vI i10, vI i11, vI i12, vI i13])]) (mkO o16_5 4)) (vB c1) ∧
 br c1
 (Q (vB false) h_1)
 (∃ (m3 : Nat), m3 < m1 ∧ I_1 m3 (IntKind.i64.wrap (i5 + 1)) h_1 ∧
 tv [vL a3 n3 k3, vS l2, vI i3, vI i4, vL a4 n4 k4] ∧ tv [vL a1 n1 esk1, vS l1, vI i1, vI i2, vL a2 n2 esk2] ∧ True))
 (∃ (I_2 : Nat → Int → PHeap → Prop), (∃ (m5 : Nat), I_2 m5 (0 : Int) h_1) ∧
 ∀ (m4 : Nat) (i14 : Int) (h_2 : PHeap), I_2 m4 i14 h_2 →
 br (decide (i14 < ((n2 : Nat) : Int)))
 (∃ (b3 o3 : Nat), a2 = some ⟨b3, o3, none⟩ ∧ (0 ≤ i14 ∧ i14 < n2) ∧
 ∃ (l3 : Bs) (c2 : Bool) (i15 : Int), h_2.row b3 (o3 + (i14).toNat * 3) [vS l3, vB c2, vI i15] ∧
 ∃ (b4 o4 : Nat), a4 = some ⟨b4, o4, none⟩ ∧ (0 ≤ i14 ∧ i14 < n4) ∧
 ∃ (l4 : Bs) (c3 : Bool) (i16 : Int), h_2.row b4 (o4 + (i14).toNat * 3) [vS l4, vB c3, vI i16] ∧
 ∃ (c4 : Bool), PureRun Tryz.prog (execOp (rho [(73, vA [vS l3, vB c2, vI i15]), (78, vA [vS l4, vB c3, vI i16])]) (mkO o16_8 4)) (vB c4) ∧
 br c4
 (Q (vB false) h_2)
 (∃ (m6 : Nat), m6 < m4 ∧ I_2 m6 (IntKind.i64.wrap (i14 + 1)) h_2 ∧
 tv [vL a3 n3 k3, vS l2, vI i3, vI i4, vL a4 n4 k4] ∧ tv [vL a1 n1 esk1, vS l1, vI i1, vI i2, vL a2 n2 esk2] ∧ True))
 (Q (vB true) h_2)))))))
theorem T16 {a1 : OA} {n1 : Nat} {esk1 : Nat} {l1 : Bs} {i1 : Int} {i2 : Int} {a2 : OA} {n2 : Nat} {esk2 : Nat} {a3 : OA} {n3 : Nat} {k3 : Nat} {l2 : Bs} {i3 : Int} {i4 : Int} {a4 : OA} {n4 : Nat} {k4 : Nat} {h : PHeap} {Q : Value → PHeap → Prop} (hR : R16 a1 n1 esk1 l1 i1 i2 a2 n2 esk2 a3 n3 k3 l2 i3 i4 a4 n4 k4 h Q) : Tri Tryz.prog 16 [vA [vL a1 n1 esk1, vS l1, vI i1, vI i2, vL a2 n2 esk2], vA [vL a3 n3 k3, vS l2, vI i3, vI i4, vL a4 n4 k4]] h Q :=
 tri_of_dn mixed Tryz.func16 rfl (by kernel_rfl) low16 (rs := [.tmp 4]) (by kernel_rfl) rfl (Eq.mpr (by kernel_rfl : dnF Tryz.prog Tryz.f16.ntmps d16 [.tmp 4] [vA [vL a1 n1 esk1, vS l1, vI i1, vI i2, vL a2 n2 esk2], vA [vL a3 n3 k3, vS l2, vI i3, vI i4, vL a4 n4 k4]] h Q = R16 a1 n1 esk1 l1 i1 i2 a2 n2 esk2 a3 n3 k3 l2 i3 i4 a4 n4 k4 h Q) hR)
noncomputable def d8 : DCode := up ⟨[(5, .l esk2), (6, .c (.one true esk2)), (7, .l esk2), (8, .c (.one true esk2)), (9, .c (.one false [.bool])), (11, .l esk2), (12, .c (.one true esk2)), (13, .l esk2), (14, .c (.one true esk2)), (15, .c (.one false [.bool])), (16, .l esk2), (17, .l esk2), (18, .c (.one false [.bool])), (22, .l esk2), (23, .c (.one true esk2)), (24, .l esk2), (25, .c (.one true esk2)), (26, .c (.one false [.bool]))], [], []⟩ (low Tryz.prog (fun _ => false) (Tryz.f8.body.getD .skip))
theorem low8 : low Tryz.prog (fun _ => false) (Tryz.f8.body.getD .skip) = some (eC d8) := by kernel_rfl
def R8 (a1 : OA) (n1 : Nat) (esk1 : Nat) (l1 : Bs) (i1 : Int) (i2 : Int) (a2 : OA) (n2 : Nat) (esk2 : Nat) (a3 : OA) (n3 : Nat) (k3 : Nat) (l2 : Bs) (i3 : Int) (i4 : Int) (a4 : OA) (n4 : Nat) (k4 : Nat) (h : PHeap) (Q : Value → PHeap → Prop) : Prop :=
 Tri Tryz.prog 19 [vA [vL a1 n1 esk1, vS l1, vI i1, vI i2, vL a2 n2 esk2]] h fun v_1 h_1 =>
 ∃ (a5 : OA) (n5 k5 : Nat) (l3 : Bs) (i5 i6 : Int) (a6 : OA) (n6 k6 : Nat), v_1 = vA [vL a5 n5 k5, vS l3, vI i5, vI i6, vL a6 n6 k6] ∧
 (tv [vL a3 n3 k3, vS l2, vI i3, vI i4, vL a4 n4 k4]) ∧
 Tri Tryz.prog 19 [vA [vL a3 n3 k3, vS l2, vI i3, vI i4, vL a4 n4 k4]] h_1 fun v_2 h_2 =>
 ∃ (a7 : OA) (n7 k7 : Nat) (l4 : Bs) (i7 i8 : Int) (a8 : OA) (n8 k8 : Nat), v_2 = vA [vL a7 n7 k7, vS l4, vI i7, vI i8, vL a8 n8 k8] ∧
 Tri Tryz.prog 15 [] h_2 fun v_3 h_3 =>
 ∃ (c1 : Bool), v_3 = vB c1 ∧
 br c1
 (Tri Tryz.prog 20 [vA [vL a5 n5 k5, vS l3, vI i5, vI i6, vL a6 n6 k6]] h_3 fun v_4 h_4 =>
 ∃ (a9 : OA) (n9 k9 : Nat) (l5 : Bs) (i9 i10 : Int) (a10 : OA) (n10 k10 : Nat), v_4 = vA [vL a9 n9 k9, vS l5, vI i9, vI i10, vL a10 n10 k10] ∧
 (tv [vL a7 n7 k7, vS l4, vI i7, vI i8, vL a8 n8 k8]) ∧
 (tv [vL a5 n5 k5, vS l3, vI i5, vI i6, vL a6 n6 k6]) ∧
 (tv [vL a7 n7 k7, vS l4, vI i7, vI i8, vL a8 n8 k8]) ∧
 Tri Tryz.prog 20 [vA [vL a7 n7 k7, vS l4, vI i7, vI i8, vL a8 n8 k8]] h_4 fun v_5 h_5 =>
 ∃ (a11 : OA) (n11 k11 : Nat) (l6 : Bs) (i11 i12 : Int) (a12 : OA) (n12 k12 : Nat), v_5 = vA [vL a11 n11 k11, vS l6, vI i11, vI i12, vL a12 n12 k12] ∧
 (tv [vL a7 n7 k7, vS l4, vI i7, vI i8, vL a8 n8 k8]) ∧
 (tv [vL a5 n5 k5, vS l3, vI i5, vI i6, vL a6 n6 k6]) ∧
 Tri Tryz.prog 29 [vA [vL a9 n9 k9, vS l5, vI i9, vI i10, vL a10 n10 k10], vA [vL a11 n11 k11, vS l6, vI i11, vI i12, vL a12 n12 k12]] h_5 fun v_6 h_6 =>
 ∃ (c2 : Bool), v_6 = vB c2 ∧
 (tv [vL a7 n7 k7, vS l4, vI i7, vI i8, vL a8 n8 k8]) ∧
 (tv [vL a5 n5 k5, vS l3, vI i5, vI i6, vL a6 n6 k6]) ∧
 Tri Tryz.prog 16 [vA [vL a5 n5 k5, vS l3, vI i5, vI i6, vL a6 n6 k6], vA [vL a7 n7 k7, vS l4, vI i7, vI i8, vL a8 n8 k8]] h_6 fun v_7 h_7 =>
 ∃ (c3 : Bool), v_7 = vB c3 ∧
 br (c2 == c3)
 (Tri Tryz.prog 20 [vA [vL a5 n5 k5, vS l3, vI i5, vI i6, vL a6 n6 k6]] h_7 fun v_8 h_8 =>
 ∃ (a13 : OA) (n13 k13 : Nat) (l7 : Bs) (i13 i14 : Int) (a14 : OA) (n14 k14 : Nat), v_8 = vA [vL a13 n13 k13, vS l7, vI i13, vI i14, vL a14 n14 k14] ∧
 (tv [vL a5 n5 k5, vS l3, vI i5, vI i6, vL a6 n6 k6]) ∧
 Tri Tryz.prog 20 [vA [vL a5 n5 k5, vS l3, vI i5, vI i6, vL a6 n6 k6]] h_8 fun v_9 h_9 =>
 ∃ (a15 : OA) (n15 k15 : Nat) (l8 : Bs) (i15 i16 : Int) (a16 : OA) (n16 k16 : Nat), v_9 = vA [vL a15 n15 k15, vS l8, vI i15, vI i16, vL a16 n16 k16] ∧
 Tri Tryz.prog 29 [vA [vL a13 n13 k13, vS l7, vI i13, vI i14, vL a14 n14 k14], vA [vL a15 n15 k15, vS l8, vI i15, vI i16, vL a16 n16 k16]] h_9 fun v_10 h_10 =>
 ∃ (c4 : Bool), v_10 = vB c4 ∧
 Q (vB c4) h_10)
 (Q (vB false) h_7))
 (Q (vB false) h_3)
theorem T8 {a1 : OA} {n1 : Nat} {esk1 : Nat} {l1 : Bs} {i1 : Int} {i2 : Int} {a2 : OA} {n2 : Nat} {esk2 : Nat} {a3 : OA} {n3 : Nat} {k3 : Nat} {l2 : Bs} {i3 : Int} {i4 : Int} {a4 : OA} {n4 : Nat} {k4 : Nat} {h : PHeap} {Q : Value → PHeap → Prop} (hR : R8 a1 n1 esk1 l1 i1 i2 a2 n2 esk2 a3 n3 k3 l2 i3 i4 a4 n4 k4 h Q) : Tri Tryz.prog 8 [vA [vL a1 n1 esk1, vS l1, vI i1, vI i2, vL a2 n2 esk2], vA [vL a3 n3 k3, vS l2, vI i3, vI i4, vL a4 n4 k4]] h Q :=
 tri_of_dn mixed Tryz.func8 rfl (by kernel_rfl) low8 (rs := [.tmp 4]) (by kernel_rfl) rfl (Eq.mpr (by kernel_rfl : dnF Tryz.prog Tryz.f8.ntmps d8 [.tmp 4] [vA [vL a1 n1 esk1, vS l1, vI i1, vI i2, vL a2 n2 esk2], vA [vL a3 n3 k3, vS l2, vI i3, vI i4, vL a4 n4 k4]] h Q = R8 a1 n1 esk1 l1 i1 i2 a2 n2 esk2 a3 n3 k3 l2 i3 i4 a4 n4 k4 h Q) hR)
end Go.Proofs.D
namespace Go.Proofs.D
open Go Go.Den Go.As
set_option maxRecDepth 100000
theorem eq_ins57 (x y : Ins) (w : World) : (Op.equalIn 10000 57 (vA (insC x)) (vA (insC y))).run Tryz.prog w = .ok (decide (x = y)) w := by
 have h1 : Tryz.prog.underlying 57 = some (.struct (Tryz.prog.fieldsOf 57)) := by unfold Program.fieldsOf; rw [Tryz.underlying57]
 have h2 : Tryz.prog.stoodInHeld 57 = false := by kernel_rfl
 have := run_equalIn_struct w (P := Tryz.prog) 9999 57 ⟨insC x⟩ ⟨insC y⟩ h1 h2
 rw [show (Op.equalIn 10000 57 (vA (insC x)) (vA (insC y))) = Op.equalIn (9999 + 1) 57 (.agg ⟨insC x⟩) (.agg ⟨insC y⟩) from rfl, this]
 have p : ∀ (x : Ins) (k : Nat) (v : Value), (insC x)[k]? = some v → (part 3 ⟨insC x⟩ k).run Tryz.prog w = .ok v w := fun x k v h => run_part1 w (Tryz.isAgg3 w) h
 simp only [Program.fieldsOf, Tryz.underlying57, Op.eqFields, ne_eq, Sem.run_bind, Sem.run_ite, p _ 0 _ rfl, p _ 1 _ rfl, p _ 2 _ rfl, p _ 3 _ rfl, Result.andThen_ok, run_int3, Sem.run_pure]
 obtain ⟨x1, x2, x3, x4⟩ := x
 obtain ⟨y1, y2, y3, y4⟩ := y
 by_cases e1 : x1 = y1 <;> by_cases e2 : x2 = y2 <;> by_cases e3 : x3 = y3 <;> by_cases e4 : x4 = y4 <;> simp [e1, e2, e3, e4]
theorem eq_lb89 (x y : Lb) (w : World) : (Op.equalIn 10000 89 (vA (lbC x)) (vA (lbC y))).run Tryz.prog w = .ok (decide (x = y)) w := by
 have h1 : Tryz.prog.underlying 89 = some (.struct (Tryz.prog.fieldsOf 89)) := by unfold Program.fieldsOf; rw [Tryz.underlying89]
 have h2 : Tryz.prog.stoodInHeld 89 = false := by kernel_rfl
 have := run_equalIn_struct w (P := Tryz.prog) 9999 89 ⟨lbC x⟩ ⟨lbC y⟩ h1 h2
 rw [show (Op.equalIn 10000 89 (vA (lbC x)) (vA (lbC y))) = Op.equalIn (9999 + 1) 89 (.agg ⟨lbC x⟩) (.agg ⟨lbC y⟩) from rfl, this]
 have p0 : ∀ (x : Lb), (part 9 ⟨lbC x⟩ 0).run Tryz.prog w = .ok (vS x.name) w := fun x => run_part1 w (Tryz.isAgg9 w) rfl
 have p1 : ∀ (x : Lb), (part 4 ⟨lbC x⟩ 1).run Tryz.prog w = .ok (vB x.data) w := fun x => run_part1 w (Tryz.isAgg4 w) rfl
 have p2 : ∀ (x : Lb), (part 3 ⟨lbC x⟩ 2).run Tryz.prog w = .ok (vI x.off) w := fun x => run_part1 w (Tryz.isAgg3 w) rfl
 simp only [Program.fieldsOf, Tryz.underlying89, Op.eqFields, ne_eq, Sem.run_bind, Sem.run_ite, p0, p1, p2, Result.andThen_ok, run_int3, run_str9, run_bool4, Sem.run_pure]
 obtain ⟨x1, x2, x3⟩ := x
 obtain ⟨y1, y2, y3⟩ := y
 by_cases e1 : x1 = y1 <;> by_cases e2 : x2 = y2 <;> by_cases e3 : x3 = y3 <;> simp [e1, e2, e3]
attribute [local irreducible] IntKind.wrap Tri
theorem rsame_t {h : PHeap} {a1 a2 a3 a4 : OA} {k1 k2 k3 k4 : Nat} {p q : Pg} (i1 : InAt h a1 p.code) (l1 : LbAt h a2 p.labels) (i2 : InAt h a3 q.code) (l2 : LbAt h a4 q.labels) (hn : p.code.length ≤ 1000000) (hm : p.labels.length ≤ 1000000) :
 Tri Tryz.prog 16 [PV a1 k1 a2 k2 p, PV a3 k3 a4 k4 q] h fun v h' => v = vB (decide (p = q)) ∧ h' = h := by
 refine T16 ?_
 unfold R16
 refine br_split (fun e => ?_) fun g1 => br_split (fun e => ?_) fun g2 => br_split (fun e => ?_) fun g3 => br_split (fun e => ?_) fun g4 => br_split (fun e => ?_) fun g5 => ?_
 · exact ⟨by congr 1; symm; apply decide_eq_false; rintro rfl; simp at e, rfl⟩
 · exact ⟨by congr 1; symm; apply decide_eq_false; rintro rfl; simp at e, rfl⟩
 · exact ⟨by congr 1; symm; apply decide_eq_false; rintro rfl; simp at e, rfl⟩
 · exact ⟨by congr 1; symm; apply decide_eq_false; rintro rfl; simp at e, rfl⟩
 · exact ⟨by congr 1; symm; apply decide_eq_false; rintro rfl; simp at e, rfl⟩
 have g1 : p.data = q.data := by simpa using g1
 have g2 : p.zero = q.zero := by simpa using g2
 have g3 : p.entry = q.entry := by simpa using g3
 have g4 : p.code.length = q.code.length := by
  have : (p.code.length : Int) = (q.code.length : Int) := by simpa using g4
  omega
 have g5 : p.labels.length = q.labels.length := by
  have : (p.labels.length : Int) = (q.labels.length : Int) := by simpa using g5
  omega
 refine ⟨fun n i h' => ∃ j : Nat, i = (j : Int) ∧ j + n = p.code.length ∧ h' = h ∧ p.code.take j = q.code.take j, ⟨p.code.length, 0, rfl, by omega, rfl, rfl⟩, ?_⟩
 rintro n _ h3 ⟨j, rfl, hjn, rfl, ht⟩
 refine br_split (fun e => ?_) fun e => ?_
 · have hlt : j < p.code.length := by have := of_decide_eq_true e; omega
   have e1 : p.code[j]? = some p.code[j] := by simp [hlt]
   have hlt2 : j < q.code.length := by omega
   have e2 : q.code[j]? = some q.code[j] := by simp [hlt2]
   have hiff := take_eq_iff e1 e2
   generalize p.code[j] = x at *
   generalize q.code[j] = y at *
   obtain ⟨b1, o1, ha1, r1⟩ := i1.get e1
   obtain ⟨b2, o2, ha2, r2⟩ := i2.get e2
   refine ⟨b1, o1, ha1, ⟨by omega, by omega⟩, _, _, _, _, (by rw [Int.toNat_natCast]; exact r1), b2, o2, ha2, ⟨by omega, by omega⟩, _, _, _, _, (by rw [Int.toNat_natCast]; exact r2), !decide (x = y), pure_neq (xs := insC x) (ys := insC y) rfl rfl (by kernel_rfl) (eq_ins57 x y), br_split (fun c => ?_) fun c => ?_⟩
   · have hxy : x ≠ y := by simpa using c
     exact ⟨by congr 1; symm; apply decide_eq_false; rintro rfl; rw [e1] at e2; injection e2 with e2; exact hxy e2, rfl⟩
   · have hxy : x = y := by simpa using c
     exact ⟨n - 1, by omega, ⟨j + 1, by rw [wrap64 (by omega) (by omega)]; omega, by omega, rfl, hiff.2 ⟨ht, hxy⟩⟩, rfl, rfl, trivial⟩
 have hj : j = p.code.length := by have := of_decide_eq_false e; omega
 subst hj
 rw [List.take_length, g4, List.take_length] at ht
 refine ⟨fun n i h' => ∃ j : Nat, i = (j : Int) ∧ j + n = p.labels.length ∧ h' = h3 ∧ p.labels.take j = q.labels.take j, ⟨p.labels.length, 0, rfl, by omega, rfl, rfl⟩, ?_⟩
 rintro n _ h3 ⟨j, rfl, hjn, rfl, ht2⟩
 refine br_split (fun e => ?_) fun e => ?_
 · have hlt : j < p.labels.length := by have := of_decide_eq_true e; omega
   have e1 : p.labels[j]? = some p.labels[j] := by simp [hlt]
   have hlt2 : j < q.labels.length := by omega
   have e2 : q.labels[j]? = some q.labels[j] := by simp [hlt2]
   have hiff := take_eq_iff e1 e2
   generalize p.labels[j] = x at *
   generalize q.labels[j] = y at *
   obtain ⟨b1, o1, ha1, r1⟩ := l1.get e1
   obtain ⟨b2, o2, ha2, r2⟩ := l2.get e2
   refine ⟨b1, o1, ha1, ⟨by omega, by omega⟩, _, _, _, (by rw [Int.toNat_natCast]; exact r1), b2, o2, ha2, ⟨by omega, by omega⟩, _, _, _, (by rw [Int.toNat_natCast]; exact r2), !decide (x = y), pure_neq (xs := lbC x) (ys := lbC y) rfl rfl (by kernel_rfl) (eq_lb89 x y), br_split (fun c => ?_) fun c => ?_⟩
   · have hxy : x ≠ y := by simpa using c
     exact ⟨by congr 1; symm; apply decide_eq_false; rintro rfl; rw [e1] at e2; injection e2 with e2; exact hxy e2, rfl⟩
   · have hxy : x = y := by simpa using c
     exact ⟨n - 1, by omega, ⟨j + 1, by rw [wrap64 (by omega) (by omega)]; omega, by omega, rfl, hiff.2 ⟨ht2, hxy⟩⟩, rfl, rfl, trivial⟩
 · have hj : j = p.labels.length := by have := of_decide_eq_false e; omega
   subst hj
   rw [List.take_length, g5, List.take_length] at ht2
   refine ⟨?_, rfl⟩
   congr 1; symm; apply decide_eq_true
   obtain ⟨c1, d1, z1, t1, m1⟩ := p
   obtain ⟨c2, d2, z2, t2, m2⟩ := q
   rw [Pg.mk.injEq]
   exact ⟨ht, g1, g2, g3, ht2⟩
theorem PIn.ext {h h' : PHeap} {a1 : OA} {k1 : Nat} {a2 : OA} {k2 : Nat} {p : Pg} (x : Ext h h') (hp : PIn h a1 k1 a2 k2 p) : PIn h' a1 k1 a2 k2 p := ⟨hp.ins.ext x, hp.lbs.ext x, hp.ok, hp.le⟩
theorem equals_tri {h : PHeap} (hO : OpTab h) (hM : MaxLen h) {a1 a2 b1 b2 : OA} {k1 k2 j1 j2 : Nat} {p q : Pg} (hp : PIn h a1 k1 a2 k2 p) (hq : PIn h b1 j1 b2 j2 q) : Tri Tryz.prog 8 [PV a1 k1 a2 k2 p, PV b1 j1 b2 j2 q] h fun v h' => v = vB true ∧ ∀ k o, h k = some o → h' k = some o := by
 refine T8 ?_
 unfold R8
 refine Tri.mono (short_t hp) ?_
 rintro v h1 ⟨x1, a3, k3, a4, k4, rfl, hI, hL⟩
 obtain ⟨s1, s2, s3⟩ := short_len p
 refine ⟨_, _, _, _, _, _, _, _, _, rfl, rfl, ?_⟩
 refine Tri.mono (short_t (hq.ext x1)) ?_
 rintro v h2 ⟨x2, b3, j3, b4, j4, rfl, hI2, hL2⟩
 obtain ⟨r1, r2, r3⟩ := short_len q
 have x12 := x1.trans x2
 refine ⟨_, _, _, _, _, _, _, _, _, rfl, ?_⟩
 generalize shortP p = u at *
 generalize shortP q = w at *
 refine Tri.mono (known_t (hO.ext x12) (hM.ext x12)) ?_
 rintro _ h3 ⟨rfl, x3⟩
 refine ⟨_, rfl, br_pos rfl ?_⟩
 have hI := hI.ext (x2.trans x3)
 have hL := hL.ext (x2.trans x3)
 have hI2 := hI2.ext x3
 have hL2 := hL2.ext x3
 refine Tri.mono (to_t hI hL (by omega) (by omega)) ?_
 rintro v h4 ⟨x4, a5, k5, a6, k6, rfl, hG⟩
 refine ⟨_, _, _, _, _, _, _, _, _, rfl, rfl, rfl, rfl, ?_⟩
 refine Tri.mono (to_t (hI2.ext x4) (hL2.ext x4) (by omega) (by omega)) ?_
 rintro v h5 ⟨x5, b5, j5, b6, j6, rfl, hG2⟩
 refine ⟨_, _, _, _, _, _, _, _, _, rfl, rfl, rfl, ?_⟩
 refine Tri.mono (equal_t (hG.ext x5) hG2 (by omega) (by omega)) ?_
 rintro _ h6 ⟨rfl, rfl⟩
 refine ⟨_, rfl, rfl, rfl, ?_⟩
 have x45 := x4.trans x5
 refine Tri.mono (rsame_t (hI.ext x45) (hL.ext x45) (hI2.ext x45) (hL2.ext x45) (by omega) (by omega)) ?_
 rintro _ h6 ⟨rfl, rfl⟩
 refine ⟨_, rfl, br_pos (by simp) ?_⟩
 refine Tri.mono (to_t (hI.ext x45) (hL.ext x45) (by omega) (by omega)) ?_
 rintro v h7 ⟨x7, a7, k7, a8, k8, rfl, hG3⟩
 refine ⟨_, _, _, _, _, _, _, _, _, rfl, rfl, ?_⟩
 refine Tri.mono (to_t (hI.ext (x45.trans x7)) (hL.ext (x45.trans x7)) (by omega) (by omega)) ?_
 rintro v h8 ⟨x8, a9, k9, a10, k10, rfl, hG4⟩
 refine ⟨_, _, _, _, _, _, _, _, _, rfl, ?_⟩
 refine Tri.mono (equal_t (hG3.ext x8) hG4 (by omega) (by omega)) ?_
 rintro _ h9 ⟨rfl, rfl⟩
 exact ⟨_, rfl, by simp, ((x12.trans x3).trans x45).trans (x7.trans x8)⟩
end Go.Proofs.D
namespace Go.Fr
open Go Go.Den Go.ChangeShapes Go.WideShapes Go.RowKit Go.As Go.Proofs Go.ChangeAt Go.Joins
set_option maxRecDepth 100000
theorem pow_all {W : World} {rest : List (String × DataW Unit)} (h : laidMet Tryz.prog (("internal/strconv.uint64pow10", YteegmpghbhmekaaGreatDoor.Rows.laid_internal_strconv_uint64pow10) :: rest) W) : Go.Proofs.D.PowTab (all W) := by
 rw [show (YteegmpghbhmekaaGreatDoor.Rows.laid_internal_strconv_uint64pow10 : DataW Unit) = Lib.tabData .u64 Lib.pow10Tab by kernel_rfl] at h
 have h := Lib.tabIs_of_head (g := 2) (t := 217) (e := 178) (n := 20) (by kernel_rfl) (by kernel_rfl) (by kernel_rfl) (by kernel_rfl) (by kernel_rfl) (by kernel_rfl) h
 unfold Lib.TabIs World.var? at h
 rw [show Tryz.prog.globalNamed "internal/strconv.uint64pow10" = some 2 by kernel_rfl] at h
 simp only [Option.bind_some] at h
 unfold Go.Proofs.D.PowTab all
 cases hb : W.heap[2]? with
 | none => rw [hb] at h; simp at h
 | some o =>
   rw [hb] at h
   cases o with
   | cells c t z =>
     simp only [Option.some.injEq] at h
     exact ⟨t, z, by rw [h]⟩
   | _ => simp at h
section
variable {H : Type} {enc : TypeId × Value → H}
def insD (x : Ins) : DataW H := .agg [.lit (.int .i64 x.op), .lit (.int .i64 x.a), .lit (.int .i64 x.b), .lit (.int .i64 x.c)]
structure InsWf (x : Ins) : Prop where
 op : (Lit.int .i64 x.op).wf = true
 a : (Lit.int .i64 x.a).wf = true
 b : (Lit.int .i64 x.b).wf = true
 c : (Lit.int .i64 x.c).wf = true
theorem open_ins {W : World} {base : Nat} {r : Reach} {sp : Nat → Bool} {held : Bool} {v : Value} {d : DataW H} {p : List MemPlace} {b0 : Nat} (hv : Value.okWide Tryz.prog W r base 57 v) (h : DataW.Trod enc Tryz.prog W b0 sp held 57 v d p) :
 ∃ x : Ins, v = vA (Go.Proofs.D.insC x) ∧ d = insD x ∧ p = [] ∧ InsWf x := by
 have c3 : Tryz.prog.cellsOf 3 = 1 := by kernel_rfl
 have c57 : Tryz.prog.cellsOf 57 = 4 := by kernel_rfl
 obtain ⟨cs, rfl, hsz⟩ := okWide_struct Tryz.underlying57 hv
 obtain ⟨x0, x1, x2, x3, rfl⟩ := array4 (hsz.trans c57)
 obtain ⟨fuel, hf⟩ := h
 obtain ⟨y0, y1, y2, y3, n, hx, _, h0, h1, h2, h3⟩ := trod_struct4 Tryz.underlying57 hf
 simp only [c3] at h0 h1 h2 h3
 obtain ⟨n0, e0, rfl, w0⟩ := DataW.trod_int Tryz.underlying3 h0
 obtain ⟨n1, e1, rfl, w1⟩ := DataW.trod_int Tryz.underlying3 h1
 obtain ⟨n2, e2, rfl, w2⟩ := DataW.trod_int Tryz.underlying3 h2
 obtain ⟨n3, e3, rfl, w3⟩ := DataW.trod_int Tryz.underlying3 h3
 simp only [Value.cells, List.drop_zero, List.drop_succ_cons, List.take_succ_cons, List.take_zero, List.cons.injEq, and_true] at e0 e1 e2 e3
 subst e0; subst e1; subst e2; subst e3
 simp only [Prod.mk.injEq, List.append_nil] at hx
 exact ⟨⟨n0, n1, n2, n3⟩, rfl, hx.1, hx.2, w0, w1, w2, w3⟩
theorem shut_ins {W : World} {sp : Nat → Bool} {held : Bool} {b0 : Nat} {x : Ins} (hw : InsWf x) : DataW.Trod enc Tryz.prog W b0 sp held 57 (vA (Go.Proofs.D.insC x)) (insD x) [] := by
 have c3 : Tryz.prog.cellsOf 3 = 1 := by kernel_rfl
 have c57 : Tryz.prog.cellsOf 57 = 4 := by kernel_rfl
 have i : ∀ n : Int, (Lit.int .i64 n).wf = true → DataW.trod enc Tryz.prog W b0 sp held 1 3 [vI n] = some (.lit (.int .i64 n), []) := fun n hn => by
  simp [DataW.trod, Tryz.underlying3, hn]
 refine ⟨2, ?_⟩
 have := trod_struct4_mk (enc := enc) (w := W) (base := b0) (spare := sp) (held := held) (n := 1) (cs := Go.Proofs.D.insC x) Tryz.underlying57 (by rw [c57]; rfl) (y0 := (.lit (.int .i64 x.op), [])) (y1 := (.lit (.int .i64 x.a), [])) (y2 := (.lit (.int .i64 x.b), [])) (y3 := (.lit (.int .i64 x.c), []))
  (by rw [c3]; exact i x.op hw.op) (by rw [c3]; exact i x.a hw.a) (by rw [c3]; exact i x.b hw.b) (by rw [c3]; exact i x.c hw.c)
 exact this
end
end Go.Fr
namespace Go.Fr
open Go Go.Den Go.ChangeShapes Go.WideShapes Go.RowKit Go.ChangeAt
section
variable {H : Type} {enc : TypeId × Value → H} {P : Program}
theorem cell_kept {W W' : World} (hk : ∀ k, k < W.heap.size → W'.heap[k]? = W.heap[k]?) {a : Addr} {v : Value} (h : W.cell? a = some v) : W'.cell? a = some v := by
 have hlt : a.block < W.heap.size := by
  cases hb : W.heap[a.block]? with
  | none => unfold World.cell? at h; rw [hb] at h; split at h <;> first | (simp at h; done) | contradiction
  | some o => exact (Array.getElem?_eq_some_iff.1 hb).1
 unfold World.cell? at h ⊢
 rw [hk _ hlt]
 exact h
theorem open_u8s {W : World} {base : Nat} {t e : TypeId} {v : Value} {d : DataW H} {p : List MemPlace} (ht : P.underlying t = some (.slice e)) (he : P.underlying e = some (.int .u8)) (hc : P.cellsOf e = 1)
 (hval : Value.okWide P W .any base t v) (h : DataW.Trod enc P W 0 (fun _ => true) true t v d p) :
 ∃ (a : Option Addr) (c : Nat) (l : List Nat), v = .slice a l.length c ∧ (∀ x ∈ l, x < 256) ∧ (l = [] ∨ ∃ b o, a = some ⟨b, o, none⟩ ∧ ∀ (i x : Nat), l[i]? = some x → W.cell? ⟨b, o + i, none⟩ = some (.int .u8 x)) ∧
   ∀ (W' : World) (sp : Nat → Bool), (∀ k, k < W.heap.size → W'.heap[k]? = W.heap[k]?) → (∀ q ∈ p, sp q.block = true) → DataW.Trod enc P W' 0 sp true t v d p := by
 obtain ⟨a0, n0, c0, rfl⟩ := okWide_slice ht hval
 obtain ⟨fuel, hf⟩ := h
 rcases open_ints ht he hc hf with ⟨hcs, hx⟩ | ⟨a, len, cap, zs, hcs, hba, hl, hm, hz, hx, hcell, hwz⟩
 · simp [Value.cells] at hcs
   obtain ⟨rfl, rfl, rfl⟩ := hcs
   simp only [Prod.mk.injEq] at hx
   obtain ⟨rfl, rfl⟩ := hx
   exact ⟨none, 0, [], rfl, fun x hx => (by cases hx), .inl rfl, fun W' sp _ _ => shut_slice_nil ht⟩
 · simp [Value.cells] at hcs
   obtain ⟨rfl, rfl, rfl⟩ := hcs
   simp only [Prod.mk.injEq] at hx
   obtain ⟨rfl, rfl⟩ := hx
   simp only [if_true] at hz
   have hwf : ∀ n ∈ zs, 0 ≤ n ∧ n ≤ 255 := fun n hn => by simpa [Lit.wf, IntKind.min, IntKind.max, IntKind.signed, IntKind.bits] using hwz n hn
   have hlen : ((zs.take n0).map Int.toNat).length = n0 := by simp; omega
   refine ⟨some a, c0, (zs.take n0).map Int.toNat, by rw [hlen], fun x hx => ?_, ?_, fun W' sp hk hsp => ?_⟩
   · obtain ⟨n, hn, rfl⟩ := List.mem_map.1 hx
     have := hwf n (List.mem_of_mem_take hn)
     omega
   · by_cases h0 : n0 = 0
     · left; subst h0; simp
     right
     obtain ⟨ab, ao, spot⟩ := a
     have hspot : spot = none := by simpa [Addr.add] using World.cell?_spot (hcell 0 (by omega))
     subst hspot
     refine ⟨ab, ao, rfl, fun i x hx => ?_⟩
     have hi : i < n0 := by rw [← hlen]; exact (List.getElem?_eq_some_iff.1 hx).1
     have hci := hcell i (by omega)
     rw [Addr.add_lit] at hci
     rw [hci]
     have e1 : zs.getD i 0 = zs[i]'(by omega) := by simp [List.getD, List.getElem?_eq_getElem (show i < zs.length by omega)]
     have e2 : x = (zs[i]'(by omega)).toNat := by
      rw [List.getElem?_map, List.getElem?_take, if_pos hi, List.getElem?_eq_getElem (show i < zs.length by omega)] at hx
      simpa using hx.symm
     have := hwf (zs[i]'(by omega)) (List.getElem_mem _)
     rw [e1, e2]
     congr 2
     omega
   · refine ⟨2, ?_⟩
     have := shut_ints (enc := enc) (P := P) (w := W') (base := 0) (spare := sp) (held := true) 0 ht he hc (a := a) (len := n0) (cap := c0) (zs := zs) (Nat.zero_le _) hl hm (by
      by_cases h0 : c0 = 0
      · split <;> omega
      · have : sp a.block = true := hsp (.cell a.block (a.off + 0)) (by simp only [MemPlace.row, List.mem_map, List.mem_range]; exact ⟨0, by omega, rfl⟩)
        rw [if_pos this]; exact hz) (fun i hi => cell_kept hk (hcell i hi)) hwz
     exact this
end
def two (w : World) (b c : Nat) : PHeap := fun k => if k = b ∨ k = c then w.heap[k]? else none
theorem two_sub (w : World) (b c : Nat) : Sub w (two w b c) := fun k o hk => by
 unfold two at hk; split at hk
 · exact hk
 · cases hk
theorem two_one (w : World) (b c : Nat) : ∀ k o, one w b k = some o → two w b c k = some o := fun k o hk => by
 unfold one at hk; unfold two
 split at hk
 · rename_i e; subst e; rw [if_pos (.inl rfl)]; exact hk
 · cases hk
theorem two_cell {w : World} {b c i : Nat} {v : Value} (h : w.cell? ⟨c, i, none⟩ = some v) : (two w b c).cell c i = some v := by
 have := one_cell h
 unfold PHeap.cell at this ⊢
 have e : two w b c c = one w c c := by unfold two one; rw [if_pos (.inr rfl), if_pos rfl]
 rw [e]; exact this
end Go.Fr
namespace Go.Fr
open Go Go.Den Go.ChangeShapes Go.WideShapes Go.RowKit Go.ChangeAt
section
variable {H : Type} {enc : TypeId × Value → H} {P : Program} {W W' : World}
theorem same_kept (hk : ∀ k, k < W.heap.size → W'.heap[k]? = W.heap[k]?) {p : MemPlace} (hlt : p.block < W.heap.size) : W.sameAt W' p := by
 cases p with
 | cell b off =>
   have hb : W'.heap[b]? = W.heap[b]? := hk b hlt
   show W'.cell? ⟨b, off, none⟩ = W.cell? ⟨b, off, none⟩
   unfold World.cell?
   rw [hb]
 | map b => exact hk b hlt
theorem carryAll {sp : Nat → Bool} : ∀ {ts : List TypeId} {vs : List Value} {ds : List (DataW H)} {ps : List MemPlace}, DataW.TrodAll enc P W 0 sp true ts vs ds ps → (∀ p ∈ ps, W.sameAt W' p) → DataW.TrodAll enc P W' 0 sp true ts vs ds ps
 | [], [], [], _, h, _ => h
 | _ :: _, _ :: _, _ :: _, _, ⟨p, q, ⟨n, h1⟩, h2, e⟩, hs => ⟨p, q, ⟨n, DataW.trod_carry n _ _ _ h1 (fun x hx => hs x (by rw [e]; exact List.mem_append_left _ hx))⟩, carryAll h2 (fun x hx => hs x (by rw [e]; exact List.mem_append_right _ hx)), e⟩
theorem again (hl : laidOutB P = true) (hm : mapsRowed P = true) (hz : ∀ t e, t < P.types.size → P.underlying t = some (.slice e) → 0 < P.cellsOf e) {ts : List TypeId} (hT : ∀ t ∈ ts, t < P.types.size) {vs : List Value} {ds : List (DataW H)} {ps : List MemPlace}
 (hA : DataW.TrodAll enc P W 0 (fun _ => true) true ts vs ds ps) (hk : ∀ k, k < W.heap.size → W'.heap[k]? = W.heap[k]?) (hlt : ∀ p ∈ ps, p.block < W.heap.size) {sp : Nat → Bool} (hsp : ∀ p ∈ ps, sp p.block = true) :
 DataW.TrodAll enc P W' 0 sp true ts vs ds ps :=
 carryAll (hA.respare (kids_rows hl hm) hz hT hsp) fun p hp => same_kept hk (hlt p hp)
end
end Go.Fr
namespace Go.Fr
open Go Go.Den Go.ChangeShapes Go.WideShapes Go.RowKit Go.As Go.Proofs Go.ChangeAt Go.Joins Go.Deep
set_option maxRecDepth 100000
section
variable {H : Type} {enc : TypeId × Value → H} {P : Program} {W : World}
theorem cells_row {base b o n : Nat} {cs : List Value} (h : W.cells? base ⟨b, o, none⟩ n = some cs) : (all W).row b o cs ∧ cs.length = n := by
 obtain ⟨_, hlen, hcell⟩ := World.cells?_some h
 refine ⟨Go.Den.row_of cs o fun j v hj => ?_, hlen⟩
 have hlt : j < n := by rw [← hlen]; exact (List.getElem?_eq_some_iff.1 hj).1
 have := hcell j hlt
 rw [hj] at this
 refine all_cell (this.symm ▸ ?_)
 cases j <;> rfl
theorem open_rows {R : Type} {f : R → List Value} {good : R → Prop} {t e : TypeId} {k fuel : Nat} {a : Option Addr} {n c : Nat} {x : DataW H × List MemPlace} (ht : P.underlying t = some (.slice e)) (hc : P.cellsOf e = k)
 (hs : ∀ q, a = some q → q.spot = none) (hnil : a = none → n = 0 ∧ c = 0) (h : DataW.trod enc P W 0 (fun _ => true) true fuel t [.slice a n c] = some x)
 (hrow : ∀ m cs y, cs.length = k → DataW.trod enc P W 0 (fun _ => true) true m e cs = some y → ∃ r, cs = f r ∧ good r) :
 ∃ L : List R, n = L.length ∧ okA a n c ∧ n ≤ c ∧ (L = [] ∨ ∃ b o, a = some ⟨b, o, none⟩ ∧ ∀ j r, L[j]? = some r → (all W).row b (o + j * k) (f r)) ∧ ∀ r ∈ L, good r := by
 rcases open_slice ht h with ⟨hcs, _⟩ | ⟨q, len, cap, m, fu, D, Pl, hcs, _, hl, _, hm, _, hcell⟩
 · simp only [List.cons.injEq, Value.slice.injEq, and_true] at hcs
   obtain ⟨rfl, rfl, rfl⟩ := hcs
   exact ⟨[], rfl, .inr ⟨rfl, rfl, rfl⟩, Nat.le_refl _, .inl rfl, fun r hr => by cases hr⟩
 · simp only [List.cons.injEq, Value.slice.injEq, and_true] at hcs
   obtain ⟨rfl, rfl, rfl⟩ := hcs
   obtain ⟨b, o, sp⟩ := q
   obtain rfl : sp = none := hs _ rfl
   simp only [if_true] at hm
   subst hm
   have key : ∀ i, i < n → ∃ r, (all W).row b (o + i * k) (f r) ∧ good r := fun i hi => by
    obtain ⟨cs', h1, h2⟩ := hcell i (by omega)
    rw [hc] at h1
    have ha : (Addr.add ⟨b, o, none⟩ (i * k)) = ⟨b, o + i * k, none⟩ := by unfold Addr.add; split <;> simp_all
    rw [ha] at h1
    obtain ⟨g1, g2⟩ := cells_row h1
    obtain ⟨r, rfl, hg⟩ := hrow _ _ _ g2 h2
    exact ⟨r, g1, hg⟩
   have hL : ∀ m, m ≤ n → ∃ L : List R, L.length = m ∧ (∀ j r, L[j]? = some r → (all W).row b (o + j * k) (f r)) ∧ ∀ r ∈ L, good r := fun m => by
    induction m with
    | zero => exact fun _ => ⟨[], rfl, fun j r hj => by simp at hj, fun r hr => by cases hr⟩
    | succ m ih =>
      intro hm
      obtain ⟨L, h1, h2, h3⟩ := ih (by omega)
      obtain ⟨r, g1, g2⟩ := key m (by omega)
      refine ⟨L ++ [r], by simp [h1], fun j r' hj => ?_, fun r' hr' => ?_⟩
      · rw [List.getElem?_append] at hj
        split at hj
        · exact h2 j r' hj
        · rename_i hlt
          have : j = L.length := by
           have := (List.getElem?_eq_some_iff.1 hj).1
           simp at this; omega
          subst this
          simp at hj
          subst hj
          rw [h1]; exact g1
      · rcases List.mem_append.1 hr' with h | h
        · exact h3 r' h
        · simp at h; subst h; exact g2
   obtain ⟨L, h1, h2, h3⟩ := hL n (Nat.le_refl _)
   exact ⟨L, h1.symm, .inl ⟨b, o, rfl⟩, hl, .inr ⟨b, o, rfl, h2⟩, h3⟩
end
section
variable {H : Type} {enc : TypeId × Value → H} {W : World}
theorem slice_ok {P : Program} {r : Reach} {base : Nat} {t e : TypeId} {v : Value} (ht : P.underlying t = some (.slice e)) (h : Cell.okWide P W r base t v) :
 ∃ a n c, v = .slice a n c ∧ (∀ q, a = some q → q.spot = none) ∧ (a = none → n = 0 ∧ c = 0) := by
 unfold Cell.okWide at h
 rw [ht] at h
 unfold Cell.ok at h
 rw [ht] at h
 cases v with
 | slice a n c =>
   refine ⟨a, n, c, rfl, ?_, ?_⟩
   · rintro q rfl
     exact h.2.2.2.1
   · rintro rfl
     cases n with
     | zero => cases c with
       | zero => exact ⟨rfl, rfl⟩
       | succ c => exact h.elim
     | succ n => exact h.elim
 | _ => exact h.elim
theorem row_ins {base : Nat} {sp : Nat → Bool} {held : Bool} {m : Nat} {cs : List Value} {y : DataW H × List MemPlace} (hl : cs.length = 4) (h : DataW.trod enc Tryz.prog W base sp held m 57 cs = some y) : ∃ x : Ins, cs = Go.Proofs.D.insC x ∧ True := by
 have c3 : Tryz.prog.cellsOf 3 = 1 := by kernel_rfl
 match cs, hl with
 | [x0, x1, x2, x3], _ =>
   obtain ⟨y0, y1, y2, y3, n, hx, _, h0, h1, h2, h3⟩ := trod_struct4 Tryz.underlying57 h
   simp only [c3] at h0 h1 h2 h3
   obtain ⟨n0, e0, rfl, w0⟩ := DataW.trod_int Tryz.underlying3 h0
   obtain ⟨n1, e1, rfl, w1⟩ := DataW.trod_int Tryz.underlying3 h1
   obtain ⟨n2, e2, rfl, w2⟩ := DataW.trod_int Tryz.underlying3 h2
   obtain ⟨n3, e3, rfl, w3⟩ := DataW.trod_int Tryz.underlying3 h3
   simp only [List.drop_zero, List.drop_succ_cons, List.take_succ_cons, List.take_zero, List.cons.injEq, and_true] at e0 e1 e2 e3
   subst e0; subst e1; subst e2; subst e3
   exact ⟨⟨n0, n1, n2, n3⟩, rfl, trivial⟩
theorem wf64 {n : Int} (h : (Lit.int .i64 n).wf = true) : -9223372036854775808 ≤ n ∧ n ≤ 9223372036854775807 := by
 simpa [Lit.wf, IntKind.min, IntKind.max, IntKind.signed, IntKind.bits] using h
theorem row_lb {base : Nat} {sp : Nat → Bool} {held : Bool} {m : Nat} {cs : List Value} {y : DataW H × List MemPlace} (hl : cs.length = 3) (h : DataW.trod enc Tryz.prog W base sp held m 89 cs = some y) : ∃ x : Lb, cs = Go.Proofs.D.lbC x ∧ (-9223372036854775808 ≤ x.off ∧ x.off ≤ 9223372036854775807) := by
 have c3 : Tryz.prog.cellsOf 3 = 1 := by kernel_rfl
 have c4 : Tryz.prog.cellsOf 4 = 1 := by kernel_rfl
 have c9 : Tryz.prog.cellsOf 9 = 1 := by kernel_rfl
 match cs, hl with
 | [x0, x1, x2], _ =>
   obtain ⟨y0, y1, y2, n, hx, _, h0, h1, h2⟩ := trod_struct3 Tryz.underlying89 h
   simp only [c3, c4, c9] at h0 h1 h2
   obtain ⟨s, e0, rfl, w0⟩ := DataW.trod_string Tryz.underlying9 h0
   obtain ⟨n1, e1, rfl⟩ := DataW.trod_bool Tryz.underlying4 h1
   obtain ⟨n2, e2, rfl, w2⟩ := DataW.trod_int Tryz.underlying3 h2
   simp only [List.drop_zero, List.drop_succ_cons, List.take_succ_cons, List.take_zero, List.cons.injEq, and_true] at e0 e1 e2
   subst e0; subst e1; subst e2
   exact ⟨⟨s.data.toList, n1, n2⟩, rfl, wf64 w2⟩
theorem open_prog {base : Nat} {v : Value} {d : DataW H} {p : List MemPlace} (hv : Value.okWide Tryz.prog W .any base 32 v) (h : DataW.Trod enc Tryz.prog W 0 (fun _ => true) true 32 v d p) :
 ∃ a1 k1 a2 k2 q, v = Go.Proofs.D.PV a1 k1 a2 k2 q ∧ Go.Proofs.D.PIn (all W) a1 k1 a2 k2 q ∧ Go.Proofs.D.PRange q := by
 have c3 : Tryz.prog.cellsOf 3 = 1 := by kernel_rfl
 have c9 : Tryz.prog.cellsOf 9 = 1 := by kernel_rfl
 have c29 : Tryz.prog.cellsOf 29 = 1 := by kernel_rfl
 have c30 : Tryz.prog.cellsOf 30 = 1 := by kernel_rfl
 have c57 : Tryz.prog.cellsOf 57 = 4 := by kernel_rfl
 have c89 : Tryz.prog.cellsOf 89 = 3 := by kernel_rfl
 unfold Value.okWide at hv
 rw [Tryz.underlying32] at hv
 obtain ⟨cs, rfl, hsz, ts, hts, _, hcell⟩ := hv
 have hts' : Tryz.prog.cellTypes Tryz.prog.depth 32 = some [29, 9, 3, 3, 30] := by kernel_rfl
 rw [hts'] at hts
 injection hts with hts
 subst hts
 have hsz : cs.size = 5 := hsz.trans (by kernel_rfl)
 obtain ⟨l⟩ := cs
 match l, hsz with
 | [x0, x1, x2, x3, x4], _ =>
   obtain ⟨u0, g0, k0⟩ := hcell 0 x0 rfl
   obtain ⟨u4, g4, k4⟩ := hcell 4 x4 rfl
   obtain rfl : u0 = 29 := by simpa using g0.symm
   obtain rfl : u4 = 30 := by simpa using g4.symm
   obtain ⟨a1, n1, k1, rfl, s1, z1⟩ := slice_ok Tryz.underlying29 k0
   obtain ⟨a2, n2, k2, rfl, s2, z2⟩ := slice_ok Tryz.underlying30 k4
   obtain ⟨fuel, hf⟩ := h
   obtain ⟨xs, n, _, _, _, hlen, hfl⟩ := DataW.trod_struct Tryz.underlying32 hf
   match xs, hlen with
   | [y0, y1, y2, y3, y4], _ =>
     have f0 : DataW.trod enc Tryz.prog W 0 (fun _ => true) true n 29 (([Value.slice a1 n1 k1, x1, x2, x3, Value.slice a2 n2 k2].drop 0).take (Tryz.prog.cellsOf 29)) = some y0 := hfl 0 _ rfl
     rw [c29] at f0
     replace f0 : DataW.trod enc Tryz.prog W 0 (fun _ => true) true n 29 [.slice a1 n1 k1] = some y0 := f0
     have f1 : DataW.trod enc Tryz.prog W 0 (fun _ => true) true n 9 (([Value.slice a1 n1 k1, x1, x2, x3, Value.slice a2 n2 k2].drop 1).take (Tryz.prog.cellsOf 9)) = some y1 := hfl 1 _ rfl
     rw [c9] at f1
     replace f1 : DataW.trod enc Tryz.prog W 0 (fun _ => true) true n 9 [x1] = some y1 := f1
     have f2 : DataW.trod enc Tryz.prog W 0 (fun _ => true) true n 3 (([Value.slice a1 n1 k1, x1, x2, x3, Value.slice a2 n2 k2].drop 2).take (Tryz.prog.cellsOf 3)) = some y2 := hfl 2 _ rfl
     rw [c3] at f2
     replace f2 : DataW.trod enc Tryz.prog W 0 (fun _ => true) true n 3 [x2] = some y2 := f2
     have f3 : DataW.trod enc Tryz.prog W 0 (fun _ => true) true n 3 (([Value.slice a1 n1 k1, x1, x2, x3, Value.slice a2 n2 k2].drop 3).take (Tryz.prog.cellsOf 3)) = some y3 := hfl 3 _ rfl
     rw [c3] at f3
     replace f3 : DataW.trod enc Tryz.prog W 0 (fun _ => true) true n 3 [x3] = some y3 := f3
     have f4 : DataW.trod enc Tryz.prog W 0 (fun _ => true) true n 30 (([Value.slice a1 n1 k1, x1, x2, x3, Value.slice a2 n2 k2].drop 4).take (Tryz.prog.cellsOf 30)) = some y4 := hfl 4 _ rfl
     rw [c30] at f4
     replace f4 : DataW.trod enc Tryz.prog W 0 (fun _ => true) true n 30 [.slice a2 n2 k2] = some y4 := f4
     obtain ⟨s, e1, _, _⟩ := DataW.trod_string Tryz.underlying9 f1
     obtain ⟨z, e2, _, wz⟩ := DataW.trod_int Tryz.underlying3 f2
     obtain ⟨en, e3, _, we⟩ := DataW.trod_int Tryz.underlying3 f3
     simp only [List.cons.injEq, and_true] at e1 e2 e3
     subst e1; subst e2; subst e3
     obtain ⟨C, rfl, ok1, le1, in1, _⟩ := open_rows (f := Go.Proofs.D.insC) (good := fun _ => True) Tryz.underlying29 c57 s1 z1 f0 (fun m cs y hl hh => row_ins hl hh)
     obtain ⟨L, rfl, ok2, le2, in2, gd2⟩ := open_rows (f := Go.Proofs.D.lbC) (good := fun x => -9223372036854775808 ≤ x.off ∧ x.off ≤ 9223372036854775807) Tryz.underlying30 c89 s2 z2 f4 (fun m cs y hl hh => row_lb hl hh)
     exact ⟨a1, k1, a2, k2, ⟨C, s.data.toList, z, en, L⟩, rfl, ⟨in1, in2, ok1, le1⟩, ⟨wf64 we, gd2⟩⟩
end
end Go.Fr
