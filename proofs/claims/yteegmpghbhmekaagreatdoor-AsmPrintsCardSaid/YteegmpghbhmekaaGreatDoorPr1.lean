import Derived.Test.YteegmpghbhmekaaGreatDoorB7
import Derived.Laws.StructEq
import Derived.Shelf.Strings.OnBuilder
import Derived.Shelf.Strconv.Itoa3
import Derived.Lib.AppendIntMem
import Derived.Lib.BufferMore
import Derived.Lib.UnsafeStr
import Derived.Laws.MakeOwn
namespace Go.Proofs.D
open Go Go.Den
set_option maxRecDepth 100000
set_option maxHeartbeats 4000000
abbrev emk1 : List CK := [qi, qi, qi, qi]
abbrev emk2 : List CK := [.slice, .str, qi, qi, .slice]
abbrev o57_2 : Op := .binOp .neq 58 (.tmp 19) (.tmp 23) 58
noncomputable def d57 : DCode := up ⟨[(19, .l emk1), (23, .l emk1), (24, .c (.one false [.bool]))], [], [(14, 15, [(13, qi)], [])]⟩ (low Tryz.prog (fun _ => false) (Tryz.f57.body.getD .skip))
theorem low57 : low Tryz.prog (fun _ => false) (Tryz.f57.body.getD .skip) = some (eC d57) := by kernel_rfl
def R57 (a1 : OA) (n1 : Nat) (emk1 : Nat) (a2 : OA) (n2 : Nat) (emk2 : Nat) (h : PHeap) (Q : Value → PHeap → Prop) : Prop :=
 br (((n1 : Nat) : Int) != ((n2 : Nat) : Int))
 (Q (vB false) h)
 (∃ (I_1 : Nat → Int → PHeap → Prop), (∃ (m2 : Nat), I_1 m2 (0 : Int) h) ∧
 ∀ (m1 : Nat) (i1 : Int) (h_1 : PHeap), I_1 m1 i1 h_1 →
 br (decide (i1 < ((n1 : Nat) : Int)))
 (∃ (b1 o1 : Nat), a1 = some ⟨b1, o1, none⟩ ∧ (0 ≤ i1 ∧ i1 < n1) ∧
 ∃ (i2 i3 i4 i5 : Int), h_1.row b1 (o1 + (i1).toNat * 4) [vI i2, vI i3, vI i4, vI i5] ∧
 ∃ (b2 o2 : Nat), a2 = some ⟨b2, o2, none⟩ ∧ (0 ≤ i1 ∧ i1 < n2) ∧
 ∃ (i6 i7 i8 i9 : Int), h_1.row b2 (o2 + (i1).toNat * 4) [vI i6, vI i7, vI i8, vI i9] ∧
 ∃ (c1 : Bool), PureRun Tryz.prog (execOp (rho [(19, vA [vI i2, vI i3, vI i4, vI i5]), (23, vA [vI i6, vI i7, vI i8, vI i9])]) (mkO o57_2 4)) (vB c1) ∧
 br c1
 (Q (vB false) h_1)
 (∃ (m3 : Nat), m3 < m1 ∧ I_1 m3 (IntKind.i64.wrap (i1 + 1)) h_1 ∧
 True))
 (Q (vB true) h_1))
theorem T57 {a1 : OA} {n1 : Nat} {emk1 : Nat} {a2 : OA} {n2 : Nat} {emk2 : Nat} {h : PHeap} {Q : Value → PHeap → Prop} (hR : R57 a1 n1 emk1 a2 n2 emk2 h Q) : Tri Tryz.prog 57 [vL a1 n1 emk1, vL a2 n2 emk2] h Q :=
 tri_of_dn mixed Tryz.func57 rfl (by kernel_rfl) low57 (rs := [.tmp 4]) (by kernel_rfl) rfl (Eq.mpr (by kernel_rfl : dnF Tryz.prog Tryz.f57.ntmps d57 [.tmp 4] [vL a1 n1 emk1, vL a2 n2 emk2] h Q = R57 a1 n1 emk1 a2 n2 emk2 h Q) hR)
abbrev o58_2 : Op := .binOp .neq 80 (.tmp 19) (.tmp 23) 80
noncomputable def d58 : DCode := up ⟨[(19, .l [.str, .bool, qi]), (23, .l [.str, .bool, qi]), (24, .c (.one false [.bool]))], [], [(14, 15, [(13, qi)], [])]⟩ (low Tryz.prog (fun _ => false) (Tryz.f58.body.getD .skip))
theorem low58 : low Tryz.prog (fun _ => false) (Tryz.f58.body.getD .skip) = some (eC d58) := by kernel_rfl
def R58 (a1 : OA) (n1 : Nat) (emk1 : Nat) (a2 : OA) (n2 : Nat) (emk2 : Nat) (h : PHeap) (Q : Value → PHeap → Prop) : Prop :=
 br (((n1 : Nat) : Int) != ((n2 : Nat) : Int))
 (Q (vB false) h)
 (∃ (I_1 : Nat → Int → PHeap → Prop), (∃ (m2 : Nat), I_1 m2 (0 : Int) h) ∧
 ∀ (m1 : Nat) (i1 : Int) (h_1 : PHeap), I_1 m1 i1 h_1 →
 br (decide (i1 < ((n1 : Nat) : Int)))
 (∃ (b1 o1 : Nat), a1 = some ⟨b1, o1, none⟩ ∧ (0 ≤ i1 ∧ i1 < n1) ∧
 ∃ (l1 : Bs) (c1 : Bool) (i2 : Int), h_1.row b1 (o1 + (i1).toNat * 3) [vS l1, vB c1, vI i2] ∧
 ∃ (b2 o2 : Nat), a2 = some ⟨b2, o2, none⟩ ∧ (0 ≤ i1 ∧ i1 < n2) ∧
 ∃ (l2 : Bs) (c2 : Bool) (i3 : Int), h_1.row b2 (o2 + (i1).toNat * 3) [vS l2, vB c2, vI i3] ∧
 ∃ (c3 : Bool), PureRun Tryz.prog (execOp (rho [(19, vA [vS l1, vB c1, vI i2]), (23, vA [vS l2, vB c2, vI i3])]) (mkO o58_2 4)) (vB c3) ∧
 br c3
 (Q (vB false) h_1)
 (∃ (m3 : Nat), m3 < m1 ∧ I_1 m3 (IntKind.i64.wrap (i1 + 1)) h_1 ∧
 True))
 (Q (vB true) h_1))
theorem T58 {a1 : OA} {n1 : Nat} {emk1 : Nat} {a2 : OA} {n2 : Nat} {emk2 : Nat} {h : PHeap} {Q : Value → PHeap → Prop} (hR : R58 a1 n1 emk1 a2 n2 emk2 h Q) : Tri Tryz.prog 58 [vL a1 n1 emk1, vL a2 n2 emk2] h Q :=
 tri_of_dn mixed Tryz.func58 rfl (by kernel_rfl) low58 (rs := [.tmp 4]) (by kernel_rfl) rfl (Eq.mpr (by kernel_rfl : dnF Tryz.prog Tryz.f58.ntmps d58 [.tmp 4] [vL a1 n1 emk1, vL a2 n2 emk2] h Q = R58 a1 n1 emk1 a2 n2 emk2 h Q) hR)
noncomputable def d29 : DCode := up ⟨[(6, .l [.slice]), (8, .l [.slice]), (9, .c (.one false [.bool])), (12, .l [.str]), (14, .l [.str]), (19, .l [qi]), (21, .l [qi]), (26, .l [qi]), (28, .l [qi]), (33, .l [.slice]), (35, .l [.slice]), (36, .c (.one false [.bool]))], [], []⟩ (low Tryz.prog (fun _ => false) (Tryz.f29.body.getD .skip))
theorem low29 : low Tryz.prog (fun _ => false) (Tryz.f29.body.getD .skip) = some (eC d29) := by kernel_rfl
def R29 (a1 : OA) (n1 : Nat) (emk1 : Nat) (l1 : Bs) (i1 : Int) (i2 : Int) (a2 : OA) (n2 : Nat) (emk2 : Nat) (a3 : OA) (n3 : Nat) (k3 : Nat) (l2 : Bs) (i3 : Int) (i4 : Int) (a4 : OA) (n4 : Nat) (k4 : Nat) (h : PHeap) (Q : Value → PHeap → Prop) : Prop :=
 Tri Tryz.prog 57 [vL a1 n1 emk1, vL a3 n3 k3] h fun v_1 h_1 =>
 ∃ (c1 : Bool), v_1 = vB c1 ∧
 br c1
 (br (l1 == l2)
 (br (i1 == i3)
 (br (i2 == i4)
 (Tri Tryz.prog 58 [vL a2 n2 emk2, vL a4 n4 k4] h_1 fun v_2 h_2 =>
 ∃ (c2 : Bool), v_2 = vB c2 ∧
 Q (vB c2) h_2)
 (Q (vB false) h_1))
 (Q (vB false) h_1))
 (Q (vB false) h_1))
 (Q (vB false) h_1)
theorem T29 {a1 : OA} {n1 : Nat} {emk1 : Nat} {l1 : Bs} {i1 : Int} {i2 : Int} {a2 : OA} {n2 : Nat} {emk2 : Nat} {a3 : OA} {n3 : Nat} {k3 : Nat} {l2 : Bs} {i3 : Int} {i4 : Int} {a4 : OA} {n4 : Nat} {k4 : Nat} {h : PHeap} {Q : Value → PHeap → Prop} (hR : R29 a1 n1 emk1 l1 i1 i2 a2 n2 emk2 a3 n3 k3 l2 i3 i4 a4 n4 k4 h Q) : Tri Tryz.prog 29 [vA [vL a1 n1 emk1, vS l1, vI i1, vI i2, vL a2 n2 emk2], vA [vL a3 n3 k3, vS l2, vI i3, vI i4, vL a4 n4 k4]] h Q :=
 tri_of_dn mixed Tryz.func29 rfl (by kernel_rfl) low29 (rs := [.tmp 4]) (by kernel_rfl) rfl (Eq.mpr (by kernel_rfl : dnF Tryz.prog Tryz.f29.ntmps d29 [.tmp 4] [vA [vL a1 n1 emk1, vS l1, vI i1, vI i2, vL a2 n2 emk2], vA [vL a3 n3 k3, vS l2, vI i3, vI i4, vL a4 n4 k4]] h Q = R29 a1 n1 emk1 l1 i1 i2 a2 n2 emk2 a3 n3 k3 l2 i3 i4 a4 n4 k4 h Q) hR)
abbrev o7_0 : Op := .call { callee := (.builtin .min), args := #[(.tmp 16), (.const (vI 1500))], argTypes := #[3, 3] }
noncomputable def d7 : DCode := up ⟨[(17, .c (.one false [qi])), (23, .l [.str]), (40, .c (.one false [.bool])), (58, .c (.tup [(true, emk2), (false, [qi]), (false, [qi])])), (68, .c (.tup [(true, emk2), (false, [qi]), (false, [qi])])), (72, .c (.one false [.bool])), (84, .l emk2), (85, .l emk2), (86, .c (.one false [.bool]))], [], [(24, 35, [(5, .str), (7, qi)], [])]⟩ (low Tryz.prog (fun _ => false) (Tryz.f7.body.getD .skip))
theorem low7 : low Tryz.prog (fun _ => false) (Tryz.f7.body.getD .skip) = some (eC d7) := by kernel_rfl
def R7 (l1 : Bs) (i1 : Int) (h : PHeap) (Q : Value → PHeap → Prop) : Prop :=
 ∃ (i2 : Int), PureRun Tryz.prog (execOp (rho [(16, vI (l1.length : Int))]) (mkO o7_0 3)) (vI i2) ∧
 (0 ≤ (0 : Int) ∧ (0 : Int) ≤ i2 ∧ i2 ≤ (l1.length : Int)) ∧
 ∀ (b1 : Nat), h b1 = none → ∀ (h_1 : PHeap), h_1 = h.put b1 (.cells ⟨[vS [32], vS [9, 59, 32, 120, 58, 32, 34], vS [32, 32, 9], vS [59, 44, 58]]⟩ 9) →
 ∃ (b2 o1 : Nat), (ad b1 0) = some ⟨b2, o1, none⟩ ∧ (0 ≤ (Int.tmod i1 4) ∧ (Int.tmod i1 4) < (4 : Nat)) ∧
 ∃ (l2 : Bs), h_1.cell b2 (o1 + (Int.tmod i1 4).toNat * 1) = some (vS l2) ∧
 ∃ (I_1 : Nat → Bs → Int → PHeap → Prop), (∃ (m2 : Nat), I_1 m2 [] (0 : Int) h_1) ∧
 ∀ (m1 : Nat) (l3 : Bs) (i3 : Int) (h_2 : PHeap), I_1 m1 l3 i3 h_2 →
 br (decide (i3 < ((((l1.drop 0).take ((i2).toNat - 0))).length : Int)))
 (0 ≤ i3 ∧ ∃ (c1 : UInt8), (((l1.drop 0).take ((i2).toNat - 0)))[(i3).toNat]? = some c1 ∧
 br ((c1.toNat : Int) == 34)
 (Tri Tryz.prog 15 [] h_2 fun v_1 h_3 =>
 ∃ (c2 : Bool), v_1 = vB c2 ∧
 Q (vB c2) h_3)
 (0 ≤ i3 ∧ ∃ (c3 : UInt8), (((l1.drop 0).take ((i2).toNat - 0)))[(i3).toNat]? = some c3 ∧
 br ((c3.toNat : Int) == 59)
 (Tri Tryz.prog 15 [] h_2 fun v_2 h_4 =>
 ∃ (c4 : Bool), v_2 = vB c4 ∧
 Q (vB c4) h_4)
 (0 ≤ i3 ∧ ∃ (c5 : UInt8), (((l1.drop 0).take ((i2).toNat - 0)))[(i3).toNat]? = some c5 ∧
 br ((c5.toNat : Int) == 10)
 (l3.length + l2.length ≤ 9223372036854775807 ∧
 (l3 ++ l2).length + ([10, 9, 32] : Bs).length ≤ 9223372036854775807 ∧
 ∃ (m3 : Nat), m3 < m1 ∧ I_1 m3 ((l3 ++ l2) ++ ([10, 9, 32] : Bs)) (IntKind.i64.wrap (i3 + 1)) h_2 ∧
 True)
 ((0 ≤ i3 ∧ i3 ≤ (IntKind.i64.wrap (i3 + 1)) ∧ (IntKind.i64.wrap (i3 + 1)) ≤ (((l1.drop 0).take ((i2).toNat - 0)).length : Int)) ∧
 l3.length + ((((l1.drop 0).take ((i2).toNat - 0)).drop (i3).toNat).take ((IntKind.i64.wrap (i3 + 1)).toNat - (i3).toNat)).length ≤ 9223372036854775807 ∧
 ∃ (m4 : Nat), m4 < m1 ∧ I_1 m4 (l3 ++ ((((l1.drop 0).take ((i2).toNat - 0)).drop (i3).toNat).take ((IntKind.i64.wrap (i3 + 1)).toNat - (i3).toNat))) (IntKind.i64.wrap (i3 + 1)) h_2 ∧
 True))))
 (Tri Tryz.prog 13 [vS ((l1.drop 0).take ((i2).toNat - 0))] h_2 fun v_3 h_5 =>
 ∃ (a1 : OA) (n1 emk1 : Nat) (l4 : Bs) (i4 i5 : Int) (a2 : OA) (n2 emk2 : Nat) (i6 i7 : Int), v_3 = vT [vA [vL a1 n1 emk1, vS l4, vI i4, vI i5, vL a2 n2 emk2], vI i6, vI i7] ∧
 ([32] : Bs).length + l3.length ≤ 9223372036854775807 ∧
 (([32] : Bs) ++ l3).length + l2.length ≤ 9223372036854775807 ∧
 ((([32] : Bs) ++ l3) ++ l2).length + ([10, 10, 32, 59, 32, 101, 110, 100] : Bs).length ≤ 9223372036854775807 ∧
 Tri Tryz.prog 13 [vS (((([32] : Bs) ++ l3) ++ l2) ++ ([10, 10, 32, 59, 32, 101, 110, 100] : Bs))] h_5 fun v_4 h_6 =>
 ∃ (a3 : OA) (n3 k3 : Nat) (l5 : Bs) (i8 i9 : Int) (a4 : OA) (n4 k4 : Nat) (i10 i11 : Int), v_4 = vT [vA [vL a3 n3 k3, vS l5, vI i8, vI i9, vL a4 n4 k4], vI i10, vI i11] ∧
 Tri Tryz.prog 15 [] h_6 fun v_5 h_7 =>
 ∃ (c6 : Bool), v_5 = vB c6 ∧
 br c6
 (br (i7 == i11)
 (br (i6 == i10)
 (Tri Tryz.prog 29 [vA [vL a1 n1 emk1, vS l4, vI i4, vI i5, vL a2 n2 emk2], vA [vL a3 n3 k3, vS l5, vI i8, vI i9, vL a4 n4 k4]] h_7 fun v_6 h_8 =>
 ∃ (c7 : Bool), v_6 = vB c7 ∧
 Q (vB c7) h_8)
 (Q (vB false) h_7))
 (Q (vB false) h_7))
 (Q (vB false) h_7))
theorem T7 {l1 : Bs} {i1 : Int} {h : PHeap} {Q : Value → PHeap → Prop} (hR : R7 l1 i1 h Q) : Tri Tryz.prog 7 [vS l1, vU i1] h Q :=
 tri_of_dn mixed Tryz.func7 rfl (by kernel_rfl) low7 (rs := [.tmp 4]) (by kernel_rfl) rfl (Eq.mpr (by kernel_rfl : dnF Tryz.prog Tryz.f7.ntmps d7 [.tmp 4] [vS l1, vU i1] h Q = R7 l1 i1 h Q) hR)
end Go.Proofs.D
namespace Go.Proofs.D
open Go Go.Den Go.As
set_option maxRecDepth 100000
theorem run_part1 {t : TypeId} {l : List Value} {k : Nat} {v : Value} (w : World) (h2 : (isAgg t).run Tryz.prog w = .ok false w) (h3 : l[k]? = some v) : (part t ⟨l⟩ k).run Tryz.prog w = .ok v w := by
 simp [part, h2, h3]
theorem run_int3 (w : World) (a b : Int) : (Op.equalIn 9999 3 (vI a) (vI b)).run Tryz.prog w = .ok (a == b) w := run_equalIn_int w 9998 3 .i64 .i64 a b Tryz.underlying3
theorem run_str9 (w : World) (a b : Bytes) : (Op.equalIn 9999 9 (vS a) (vS b)).run Tryz.prog w = .ok (a == b) w := by
 have := run_equalIn_string w (P := Tryz.prog) 9998 9 ⟨⟨a⟩⟩ ⟨⟨b⟩⟩ Tryz.underlying9
 rw [show (Op.equalIn 9999 9 (vS a) (vS b)) = Op.equalIn (9998 + 1) 9 (.string ⟨⟨a⟩⟩) (.string ⟨⟨b⟩⟩) from rfl, this, ByteArray.toList_eq, ByteArray.toList_eq]
theorem run_bool4 (w : World) (a b : Bool) : (Op.equalIn 9999 4 (vB a) (vB b)).run Tryz.prog w = .ok (a == b) w := run_equalIn_bool' w 9998 4 a b Tryz.underlying4
theorem eq_ins (x y : Ins) (w : World) : (Op.equalIn 10000 58 (vA (insC x)) (vA (insC y))).run Tryz.prog w = .ok (decide (x = y)) w := by
 have h1 : Tryz.prog.underlying 58 = some (.struct (Tryz.prog.fieldsOf 58)) := by unfold Program.fieldsOf; rw [Tryz.underlying58]
 have h2 : Tryz.prog.stoodInHeld 58 = false := by kernel_rfl
 have := run_equalIn_struct w (P := Tryz.prog) 9999 58 ⟨insC x⟩ ⟨insC y⟩ h1 h2
 rw [show (Op.equalIn 10000 58 (vA (insC x)) (vA (insC y))) = Op.equalIn (9999 + 1) 58 (.agg ⟨insC x⟩) (.agg ⟨insC y⟩) from rfl, this]
 have p : ∀ (x : Ins) (k : Nat) (v : Value), (insC x)[k]? = some v → (part 3 ⟨insC x⟩ k).run Tryz.prog w = .ok v w := fun x k v h => run_part1 w (Tryz.isAgg3 w) h
 simp only [Program.fieldsOf, Tryz.underlying58, Op.eqFields, ne_eq, Sem.run_bind, Sem.run_ite, p _ 0 _ rfl, p _ 1 _ rfl, p _ 2 _ rfl, p _ 3 _ rfl, Result.andThen_ok, run_int3, Sem.run_pure]
 obtain ⟨x1, x2, x3, x4⟩ := x
 obtain ⟨y1, y2, y3, y4⟩ := y
 by_cases e1 : x1 = y1 <;> by_cases e2 : x2 = y2 <;> by_cases e3 : x3 = y3 <;> by_cases e4 : x4 = y4 <;> simp [e1, e2, e3, e4]
theorem eq_lb (x y : Lb) (w : World) : (Op.equalIn 10000 80 (vA (lbC x)) (vA (lbC y))).run Tryz.prog w = .ok (decide (x = y)) w := by
 have h1 : Tryz.prog.underlying 80 = some (.struct (Tryz.prog.fieldsOf 80)) := by unfold Program.fieldsOf; rw [Tryz.underlying80]
 have h2 : Tryz.prog.stoodInHeld 80 = false := by kernel_rfl
 have := run_equalIn_struct w (P := Tryz.prog) 9999 80 ⟨lbC x⟩ ⟨lbC y⟩ h1 h2
 rw [show (Op.equalIn 10000 80 (vA (lbC x)) (vA (lbC y))) = Op.equalIn (9999 + 1) 80 (.agg ⟨lbC x⟩) (.agg ⟨lbC y⟩) from rfl, this]
 have p0 : ∀ (x : Lb), (part 9 ⟨lbC x⟩ 0).run Tryz.prog w = .ok (vS x.name) w := fun x => run_part1 w (Tryz.isAgg9 w) rfl
 have p1 : ∀ (x : Lb), (part 4 ⟨lbC x⟩ 1).run Tryz.prog w = .ok (vB x.data) w := fun x => run_part1 w (Tryz.isAgg4 w) rfl
 have p2 : ∀ (x : Lb), (part 3 ⟨lbC x⟩ 2).run Tryz.prog w = .ok (vI x.off) w := fun x => run_part1 w (Tryz.isAgg3 w) rfl
 simp only [Program.fieldsOf, Tryz.underlying80, Op.eqFields, ne_eq, Sem.run_bind, Sem.run_ite, p0, p1, p2, Result.andThen_ok, run_int3, run_str9, run_bool4, Sem.run_pure]
 obtain ⟨x1, x2, x3⟩ := x
 obtain ⟨y1, y2, y3⟩ := y
 by_cases e1 : x1 = y1 <;> by_cases e2 : x2 = y2 <;> by_cases e3 : x3 = y3 <;> simp [e1, e2, e3]
theorem pure_neq {ρ : Operand → Value} {x y : Operand} {t t' ty : TypeId} {xs ys : List Value} {b : Bool} (hx : ρ x = vA xs) (hy : ρ y = vA ys) (hg : Tryz.prog.eqGuardType Tryz.prog.depth t = false) (h : ∀ w, (Op.equalIn 10000 t (vA xs) (vA ys)).run Tryz.prog w = .ok b w) :
 PureRun Tryz.prog (execOp ρ (mkO (.binOp .neq t x y t') ty)) (vB (!b)) := by
 intro w
 have h1 := h w
 have h2 : (binOp .neq t (vA xs) (vA ys)).run Tryz.prog w = .ok (vB (!b)) w := by
  rw [run_neq_struct, h1]; rfl
 have h3 : (eqGuard .neq t x y (vA xs) (vA ys)).run Tryz.prog w = .ok () w := run_eqGuard_agg (P := Tryz.prog) w .neq t x y ⟨xs⟩ ⟨ys⟩ hg
 simp only [execOp, mkO, hx, hy, Sem.run_bind, h3, h2, Result.andThen_ok, Sem.run_pure]
theorem pure_eql {ρ : Operand → Value} {x y : Operand} {t t' ty : TypeId} {xs ys : List Value} {b : Bool} (hx : ρ x = vA xs) (hy : ρ y = vA ys) (hg : Tryz.prog.eqGuardType Tryz.prog.depth t = false) (h : ∀ w, (Op.equalIn 10000 t (vA xs) (vA ys)).run Tryz.prog w = .ok b w) :
 PureRun Tryz.prog (execOp ρ (mkO (.binOp .eql t x y t') ty)) (vB b) := by
 intro w
 have h1 := h w
 have h2 : (binOp .eql t (vA xs) (vA ys)).run Tryz.prog w = .ok (vB b) w := by
  rw [run_eql_struct, h1]; rfl
 have h3 : (eqGuard .eql t x y (vA xs) (vA ys)).run Tryz.prog w = .ok () w := run_eqGuard_agg (P := Tryz.prog) w .eql t x y ⟨xs⟩ ⟨ys⟩ hg
 simp only [execOp, mkO, hx, hy, Sem.run_bind, h3, h2, Result.andThen_ok, Sem.run_pure]
attribute [local irreducible] IntKind.wrap Tri
section
variable {h : PHeap}
theorem take_eq_iff {α : Type} {l m : List α} {j : Nat} {x y : α} (hl : l[j]? = some x) (hm : m[j]? = some y) : l.take (j + 1) = m.take (j + 1) ↔ l.take j = m.take j ∧ x = y := by
 obtain ⟨h1, rfl⟩ := List.getElem?_eq_some_iff.1 hl
 obtain ⟨h2, rfl⟩ := List.getElem?_eq_some_iff.1 hm
 rw [← List.take_append_getElem h1, ← List.take_append_getElem h2]
 constructor
 · intro h
   have := List.append_inj h (by simp; omega)
   exact ⟨this.1, by simpa using this.2⟩
 · rintro ⟨h, e⟩; rw [h, e]
theorem eqIns_t {a1 a2 : OA} {k1 k2 : Nat} {l m : List Ins} (h1 : InAt h a1 l) (h2 : InAt h a2 m) (hl : l.length ≤ 1000000) : Tri Tryz.prog 57 [vL a1 l.length k1, vL a2 m.length k2] h fun v h' => v = vB (decide (l = m)) ∧ h' = h := by
 refine T57 ?_
 unfold R57
 refine br_split (fun e => ?_) fun e => ?_
 · have : l ≠ m := fun hh => by subst hh; simp at e
   exact ⟨by simp [this], rfl⟩
 have hlen : l.length = m.length := by
  have : (l.length : Int) = (m.length : Int) := by simpa using e
  omega
 refine ⟨fun n i h' => ∃ j : Nat, i = (j : Int) ∧ j + n = l.length ∧ h' = h ∧ l.take j = m.take j, ⟨l.length, 0, rfl, by omega, rfl, rfl⟩, ?_⟩
 rintro n _ h3 ⟨j, rfl, hjn, rfl, ht⟩
 refine br_split (fun e => ?_) fun e => ?_
 · have hlt : j < l.length := by have := of_decide_eq_true e; omega
   have g1 : l[j]? = some l[j] := by simp [hlt]
   have hlt2 : j < m.length := by omega
   have g2 : m[j]? = some m[j] := by simp [hlt2]
   have hiff := take_eq_iff g1 g2
   generalize l[j] = x at *
   generalize m[j] = y at *
   obtain ⟨b1, o1, ha1, r1⟩ := h1.get g1
   obtain ⟨b2, o2, ha2, r2⟩ := h2.get g2
   refine ⟨b1, o1, ha1, ⟨by omega, by omega⟩, _, _, _, _, (by rw [Int.toNat_natCast]; exact r1), b2, o2, ha2, ⟨by omega, by omega⟩, _, _, _, _, (by rw [Int.toNat_natCast]; exact r2), !decide (x = y), pure_neq (xs := insC x) (ys := insC y) rfl rfl (by kernel_rfl) (eq_ins x y), br_split (fun e1 => ?_) fun e1 => ?_⟩
   · have hxy : x ≠ y := by simpa using e1
     have : l ≠ m := fun hh => by subst hh; rw [g1] at g2; injection g2 with g2; exact hxy g2
     exact ⟨by simp [this], rfl⟩
   · have hxy : x = y := by simpa using e1
     exact ⟨n - 1, by omega, ⟨j + 1, by rw [wrap64 (by omega) (by omega)]; omega, by omega, rfl, hiff.2 ⟨ht, hxy⟩⟩, trivial⟩
 · have hj : j = l.length := by have := of_decide_eq_false e; omega
   subst hj
   rw [List.take_length, hlen, List.take_length] at ht
   exact ⟨by simp [ht], rfl⟩
theorem eqLbs_t {a1 a2 : OA} {k1 k2 : Nat} {l m : List Lb} (h1 : LbAt h a1 l) (h2 : LbAt h a2 m) (hl : l.length ≤ 1000000) : Tri Tryz.prog 58 [vL a1 l.length k1, vL a2 m.length k2] h fun v h' => v = vB (decide (l = m)) ∧ h' = h := by
 refine T58 ?_
 unfold R58
 refine br_split (fun e => ?_) fun e => ?_
 · have : l ≠ m := fun hh => by subst hh; simp at e
   exact ⟨by simp [this], rfl⟩
 have hlen : l.length = m.length := by
  have : (l.length : Int) = (m.length : Int) := by simpa using e
  omega
 refine ⟨fun n i h' => ∃ j : Nat, i = (j : Int) ∧ j + n = l.length ∧ h' = h ∧ l.take j = m.take j, ⟨l.length, 0, rfl, by omega, rfl, rfl⟩, ?_⟩
 rintro n _ h3 ⟨j, rfl, hjn, rfl, ht⟩
 refine br_split (fun e => ?_) fun e => ?_
 · have hlt : j < l.length := by have := of_decide_eq_true e; omega
   have g1 : l[j]? = some l[j] := by simp [hlt]
   have hlt2 : j < m.length := by omega
   have g2 : m[j]? = some m[j] := by simp [hlt2]
   have hiff := take_eq_iff g1 g2
   generalize l[j] = x at *
   generalize m[j] = y at *
   obtain ⟨b1, o1, ha1, r1⟩ := h1.get g1
   obtain ⟨b2, o2, ha2, r2⟩ := h2.get g2
   refine ⟨b1, o1, ha1, ⟨by omega, by omega⟩, _, _, _, (by rw [Int.toNat_natCast]; exact r1), b2, o2, ha2, ⟨by omega, by omega⟩, _, _, _, (by rw [Int.toNat_natCast]; exact r2), !decide (x = y), pure_neq (xs := lbC x) (ys := lbC y) rfl rfl (by kernel_rfl) (eq_lb x y), br_split (fun e1 => ?_) fun e1 => ?_⟩
   · have hxy : x ≠ y := by simpa using e1
     have : l ≠ m := fun hh => by subst hh; rw [g1] at g2; injection g2 with g2; exact hxy g2
     exact ⟨by simp [this], rfl⟩
   · have hxy : x = y := by simpa using e1
     exact ⟨n - 1, by omega, ⟨j + 1, by rw [wrap64 (by omega) (by omega)]; omega, by omega, rfl, hiff.2 ⟨ht, hxy⟩⟩, trivial⟩
 · have hj : j = l.length := by have := of_decide_eq_false e; omega
   subst hj
   rw [List.take_length, hlen, List.take_length] at ht
   exact ⟨by simp [ht], rfl⟩
def PV (a1 : OA) (k1 : Nat) (a2 : OA) (k2 : Nat) (q : Pg) : Value := vA [vL a1 q.code.length k1, vS q.data, vI q.zero, vI q.entry, vL a2 q.labels.length k2]
structure PgAt (h : PHeap) (a1 : OA) (k1 : Nat) (a2 : OA) (k2 : Nat) (q : Pg) : Prop where
 ins : InAt h a1 q.code
 lbs : LbAt h a2 q.labels
 ok1 : okN a1 q.code.length k1
 ok2 : okN a2 q.labels.length k2
theorem PgAt.ext {h h' : PHeap} {a1 : OA} {k1 : Nat} {a2 : OA} {k2 : Nat} {q : Pg} (x : Ext h h') (hp : PgAt h a1 k1 a2 k2 q) : PgAt h' a1 k1 a2 k2 q := ⟨hp.ins.ext x, hp.lbs.ext x, hp.ok1, hp.ok2⟩
theorem equal_t {a1 a2 a3 a4 : OA} {k1 k2 k3 k4 : Nat} {p q : Pg} (hp : PgAt h a1 k1 a2 k2 p) (hq : PgAt h a3 k3 a4 k4 q) (h1 : p.code.length ≤ 1000000) (h2 : p.labels.length ≤ 1000000) :
 Tri Tryz.prog 29 [PV a1 k1 a2 k2 p, PV a3 k3 a4 k4 q] h fun v h' => v = vB (decide (p = q)) ∧ h' = h := by
 refine T29 ?_
 unfold R29
 obtain ⟨c1, d1, z1, e1, l1⟩ := p
 obtain ⟨c2, d2, z2, e2, l2⟩ := q
 refine Tri.mono (eqIns_t hp.ins hq.ins h1) ?_
 rintro _ h3 ⟨rfl, rfl⟩
 refine ⟨_, rfl, br_split (fun g1 => br_split (fun g2 => br_split (fun g3 => br_split (fun g4 => ?_) fun g4 => ?_) fun g3 => ?_) fun g2 => ?_) fun g1 => ?_⟩
 · refine Tri.mono (eqLbs_t hp.lbs hq.lbs h2) ?_
   rintro _ h4 ⟨rfl, rfl⟩
   refine ⟨_, rfl, ?_, rfl⟩
   have q1 : c1 = c2 := of_decide_eq_true g1
   have q2 : d1 = d2 := by simpa using g2
   have q3 : z1 = z2 := by simpa using g3
   have q4 : e1 = e2 := by simpa using g4
   clear g1 g2 g3 g4
   subst q1; subst q2; subst q3; subst q4
   simp
 · have g4 : e1 ≠ e2 := by simpa using g4
   exact ⟨by simp [g4], rfl⟩
 · have g3 : z1 ≠ z2 := by simpa using g3
   exact ⟨by simp [g3], rfl⟩
 · have g2 : d1 ≠ d2 := by simpa using g2
   exact ⟨by simp [g2], rfl⟩
 · have g1 : c1 ≠ c2 := of_decide_eq_false g1
   exact ⟨by simp [g1], rfl⟩
end
end Go.Proofs.D
namespace Go.Proofs.D
open Go Go.Den
set_option maxRecDepth 100000
set_option maxHeartbeats 4000000
abbrev enk1 : List CK := [qi, qi, qi, qi]
abbrev enk2 : List CK := [.slice, .str, qi, qi, .slice]
noncomputable def d32 : DCode := up ⟨[(11, .l enk1), (12, .c (.one false [qi])), (18, .l [qi]), (19, .c (.tup [(false, [qi]), (false, [qi])])), (23, .l [qi]), (24, .c (.one false [.str])), (27, .l [qi]), (28, .c (.one false [.str])), (31, .l [qi]), (32, .c (.one false [.str])), (69, .l [qi]), (70, .c (.one false [.str])), (72, .l [qi]), (73, .c (.one false [.str])), (76, .c (.one false [.str]))], [], []⟩ (low Tryz.prog (fun _ => false) (Tryz.f32.body.getD .skip))
theorem low32 : low Tryz.prog (fun _ => false) (Tryz.f32.body.getD .skip) = some (eC d32) := by kernel_rfl
def R32 (i1 : Int) (i2 : Int) (i3 : Int) (i4 : Int) (h : PHeap) (Q : Value → PHeap → Prop) : Prop :=
 Tri Tryz.prog 46 [vA [vI i1, vI i2, vI i3, vI i4]] h fun v_1 h_1 =>
 ∃ (i5 : Int), v_1 = vI i5 ∧
 br (i5 != 0)
 (Q (vT [vS [], vI i5]) h_1)
 (Tri Tryz.prog 59 [vI i1] h_1 fun v_2 h_2 =>
 ∃ (i6 i7 : Int), v_2 = vT [vI i6, vI i7] ∧
 Tri Tryz.prog 60 [vI i2] h_2 fun v_3 h_3 =>
 ∃ (l1 : Bs), v_3 = vS l1 ∧
 (tv [vI i4]) ∧
 (tv [vI i3]) ∧
 ([114] : Bs).length + l1.length ≤ 9223372036854775807 ∧
 Tri Tryz.prog 60 [vI i3] h_3 fun v_4 h_4 =>
 ∃ (l2 : Bs), v_4 = vS l2 ∧
 (tv [vI i4]) ∧
 ([114] : Bs).length + l2.length ≤ 9223372036854775807 ∧
 Tri Tryz.prog 60 [vI i4] h_4 fun v_5 h_5 =>
 ∃ (l3 : Bs), v_5 = vS l3 ∧
 br (i6 == 1)
 (∀ (b1 : Nat), h_5 b1 = none → ∀ (h_6 : PHeap), h_6 = h_5.put b1 (.cells ⟨[vS (([114] : Bs) ++ l1)]⟩ 9) →
 Tri Tryz.prog 61 [vI i1] h_6 fun v_6 h_7 =>
 ∃ (l4 : Bs), v_6 = vS l4 ∧
 l4.length + ([32] : Bs).length ≤ 9223372036854775807 ∧
 Tri Tryz.prog 62 [vL (ad b1 0) 1 1, vS [44, 32]] h_7 fun v_7 h_8 =>
 ∃ (l5 : Bs), v_7 = vS l5 ∧
 (l4 ++ ([32] : Bs)).length + l5.length ≤ 9223372036854775807 ∧
 Q (vT [vS ((l4 ++ ([32] : Bs)) ++ l5), vI 0]) h_8)
 (br (i6 == 2)
 (∀ (b2 : Nat), h_5 b2 = none → ∀ (h_9 : PHeap), h_9 = h_5.put b2 (.cells ⟨[vS (([114] : Bs) ++ l1), vS (([114] : Bs) ++ l2)]⟩ 9) →
 Tri Tryz.prog 61 [vI i1] h_9 fun v_8 h_10 =>
 ∃ (l6 : Bs), v_8 = vS l6 ∧
 l6.length + ([32] : Bs).length ≤ 9223372036854775807 ∧
 Tri Tryz.prog 62 [vL (ad b2 0) 2 2, vS [44, 32]] h_10 fun v_9 h_11 =>
 ∃ (l7 : Bs), v_9 = vS l7 ∧
 (l6 ++ ([32] : Bs)).length + l7.length ≤ 9223372036854775807 ∧
 Q (vT [vS ((l6 ++ ([32] : Bs)) ++ l7), vI 0]) h_11)
 (br (i6 == 3)
 (([114] : Bs).length + l3.length ≤ 9223372036854775807 ∧
 ∀ (b3 : Nat), h_5 b3 = none → ∀ (h_12 : PHeap), h_12 = h_5.put b3 (.cells ⟨[vS (([114] : Bs) ++ l1), vS (([114] : Bs) ++ l2), vS (([114] : Bs) ++ l3)]⟩ 9) →
 Tri Tryz.prog 61 [vI i1] h_12 fun v_10 h_13 =>
 ∃ (l8 : Bs), v_10 = vS l8 ∧
 l8.length + ([32] : Bs).length ≤ 9223372036854775807 ∧
 Tri Tryz.prog 62 [vL (ad b3 0) 3 3, vS [44, 32]] h_13 fun v_11 h_14 =>
 ∃ (l9 : Bs), v_11 = vS l9 ∧
 (l8 ++ ([32] : Bs)).length + l9.length ≤ 9223372036854775807 ∧
 Q (vT [vS ((l8 ++ ([32] : Bs)) ++ l9), vI 0]) h_14)
 (br (i6 == 4)
 (∀ (b4 : Nat), h_5 b4 = none → ∀ (h_15 : PHeap), h_15 = h_5.put b4 (.cells ⟨[vS (([114] : Bs) ++ l1), vS l3]⟩ 9) →
 Tri Tryz.prog 61 [vI i1] h_15 fun v_12 h_16 =>
 ∃ (l10 : Bs), v_12 = vS l10 ∧
 l10.length + ([32] : Bs).length ≤ 9223372036854775807 ∧
 Tri Tryz.prog 62 [vL (ad b4 0) 2 2, vS [44, 32]] h_16 fun v_13 h_17 =>
 ∃ (l11 : Bs), v_13 = vS l11 ∧
 (l10 ++ ([32] : Bs)).length + l11.length ≤ 9223372036854775807 ∧
 Q (vT [vS ((l10 ++ ([32] : Bs)) ++ l11), vI 0]) h_17)
 (br (i6 == 5)
 (∀ (b5 : Nat), h_5 b5 = none → ∀ (h_18 : PHeap), h_18 = h_5.put b5 (.cells ⟨[vS (([114] : Bs) ++ l1), vS (([114] : Bs) ++ l2), vS l3]⟩ 9) →
 Tri Tryz.prog 61 [vI i1] h_18 fun v_14 h_19 =>
 ∃ (l12 : Bs), v_14 = vS l12 ∧
 l12.length + ([32] : Bs).length ≤ 9223372036854775807 ∧
 Tri Tryz.prog 62 [vL (ad b5 0) 3 3, vS [44, 32]] h_19 fun v_15 h_20 =>
 ∃ (l13 : Bs), v_15 = vS l13 ∧
 (l12 ++ ([32] : Bs)).length + l13.length ≤ 9223372036854775807 ∧
 Q (vT [vS ((l12 ++ ([32] : Bs)) ++ l13), vI 0]) h_20)
 (br (i6 == 6)
 (∀ (b6 : Nat), h_5 b6 = none → ∀ (h_21 : PHeap), h_21 = h_5.put b6 (.cells ⟨[vS l3]⟩ 9) →
 Tri Tryz.prog 61 [vI i1] h_21 fun v_16 h_22 =>
 ∃ (l14 : Bs), v_16 = vS l14 ∧
 l14.length + ([32] : Bs).length ≤ 9223372036854775807 ∧
 Tri Tryz.prog 62 [vL (ad b6 0) 1 1, vS [44, 32]] h_22 fun v_17 h_23 =>
 ∃ (l15 : Bs), v_17 = vS l15 ∧
 (l14 ++ ([32] : Bs)).length + l15.length ≤ 9223372036854775807 ∧
 Q (vT [vS ((l14 ++ ([32] : Bs)) ++ l15), vI 0]) h_23)
 (Tri Tryz.prog 61 [vI i1] h_5 fun v_18 h_24 =>
 ∃ (l16 : Bs), v_18 = vS l16 ∧
 Q (vT [vS l16, vI 0]) h_24)))))))
theorem T32 {i1 : Int} {i2 : Int} {i3 : Int} {i4 : Int} {h : PHeap} {Q : Value → PHeap → Prop} (hR : R32 i1 i2 i3 i4 h Q) : Tri Tryz.prog 32 [vA [vI i1, vI i2, vI i3, vI i4]] h Q :=
 tri_of_dn mixed Tryz.func32 rfl (by kernel_rfl) low32 (rs := [.tmp 2, .tmp 3]) (by kernel_rfl) rfl (Eq.mpr (by kernel_rfl : dnF Tryz.prog Tryz.f32.ntmps d32 [.tmp 2, .tmp 3] [vA [vI i1, vI i2, vI i3, vI i4]] h Q = R32 i1 i2 i3 i4 h Q) hR)
noncomputable def d34 : DCode := up ⟨[(12, .l [qi]), (13, .c (.tup [(false, [qi]), (false, [qi])])), (17, .l [qi]), (18, .c (.one false [.str])), (20, .l [qi]), (21, .c (.one false [.str])), (24, .l [qi]), (25, .c (.one false [.str])), (28, .l [qi]), (29, .c (.one false [.str])), (32, .l [qi]), (33, .c (.one false [.str])), (68, .l [.str])], [], []⟩ (low Tryz.prog (fun _ => false) (Tryz.f34.body.getD .skip))
theorem low34 : low Tryz.prog (fun _ => false) (Tryz.f34.body.getD .skip) = some (eC d34) := by kernel_rfl
def R34 (i1 : Int) (i2 : Int) (i3 : Int) (i4 : Int) (h : PHeap) (Q : Value → PHeap → Prop) : Prop :=
 Tri Tryz.prog 63 [vI i1] h fun v_1 h_1 =>
 ∃ (i5 i6 : Int), v_1 = vT [vI i5, vI i6] ∧
 Tri Tryz.prog 68 [vI i1] h_1 fun v_2 h_2 =>
 ∃ (l1 : Bs), v_2 = vS l1 ∧
 Tri Tryz.prog 18 [vI i2] h_2 fun v_3 h_3 =>
 ∃ (l2 : Bs), v_3 = vS l2 ∧
 (tv [vI i4]) ∧
 (tv [vI i3]) ∧
 ([114] : Bs).length + l2.length ≤ 9223372036854775807 ∧
 Tri Tryz.prog 18 [vI i3] h_3 fun v_4 h_4 =>
 ∃ (l3 : Bs), v_4 = vS l3 ∧
 (tv [vI i4]) ∧
 ([114] : Bs).length + l3.length ≤ 9223372036854775807 ∧
 Tri Tryz.prog 18 [vI i4] h_4 fun v_5 h_5 =>
 ∃ (l4 : Bs), v_5 = vS l4 ∧
 ([114] : Bs).length + l4.length ≤ 9223372036854775807 ∧
 Tri Tryz.prog 18 [vI i4] h_5 fun v_6 h_6 =>
 ∃ (l5 : Bs), v_6 = vS l5 ∧
 ([32] : Bs).length + (([114] : Bs) ++ l2).length ≤ 9223372036854775807 ∧
 ([32] : Bs).length + (([114] : Bs) ++ l2).length ≤ 9223372036854775807 ∧
 (([32] : Bs) ++ (([114] : Bs) ++ l2)).length + ([44, 32] : Bs).length ≤ 9223372036854775807 ∧
 ((([32] : Bs) ++ (([114] : Bs) ++ l2)) ++ ([44, 32] : Bs)).length + (([114] : Bs) ++ l3).length ≤ 9223372036854775807 ∧
 ([32] : Bs).length + (([114] : Bs) ++ l2).length ≤ 9223372036854775807 ∧
 (([32] : Bs) ++ (([114] : Bs) ++ l2)).length + ([44, 32] : Bs).length ≤ 9223372036854775807 ∧
 ((([32] : Bs) ++ (([114] : Bs) ++ l2)) ++ ([44, 32] : Bs)).length + (([114] : Bs) ++ l3).length ≤ 9223372036854775807 ∧
 (((([32] : Bs) ++ (([114] : Bs) ++ l2)) ++ ([44, 32] : Bs)) ++ (([114] : Bs) ++ l3)).length + ([44, 32] : Bs).length ≤ 9223372036854775807 ∧
 ((((([32] : Bs) ++ (([114] : Bs) ++ l2)) ++ ([44, 32] : Bs)) ++ (([114] : Bs) ++ l3)) ++ ([44, 32] : Bs)).length + (([114] : Bs) ++ l4).length ≤ 9223372036854775807 ∧
 ([32] : Bs).length + (([114] : Bs) ++ l2).length ≤ 9223372036854775807 ∧
 (([32] : Bs) ++ (([114] : Bs) ++ l2)).length + ([44, 32] : Bs).length ≤ 9223372036854775807 ∧
 ((([32] : Bs) ++ (([114] : Bs) ++ l2)) ++ ([44, 32] : Bs)).length + l5.length ≤ 9223372036854775807 ∧
 ([32] : Bs).length + (([114] : Bs) ++ l2).length ≤ 9223372036854775807 ∧
 (([32] : Bs) ++ (([114] : Bs) ++ l2)).length + ([44, 32] : Bs).length ≤ 9223372036854775807 ∧
 ((([32] : Bs) ++ (([114] : Bs) ++ l2)) ++ ([44, 32] : Bs)).length + (([114] : Bs) ++ l3).length ≤ 9223372036854775807 ∧
 (((([32] : Bs) ++ (([114] : Bs) ++ l2)) ++ ([44, 32] : Bs)) ++ (([114] : Bs) ++ l3)).length + ([44, 32] : Bs).length ≤ 9223372036854775807 ∧
 ((((([32] : Bs) ++ (([114] : Bs) ++ l2)) ++ ([44, 32] : Bs)) ++ (([114] : Bs) ++ l3)) ++ ([44, 32] : Bs)).length + l5.length ≤ 9223372036854775807 ∧
 ([32] : Bs).length + l5.length ≤ 9223372036854775807 ∧
 ∀ (b1 : Nat), h_6 b1 = none → ∀ (h_7 : PHeap), h_7 = h_6.put b1 (.cells ⟨[vS [], vS (([32] : Bs) ++ (([114] : Bs) ++ l2)), vS (((([32] : Bs) ++ (([114] : Bs) ++ l2)) ++ ([44, 32] : Bs)) ++ (([114] : Bs) ++ l3)), vS (((((([32] : Bs) ++ (([114] : Bs) ++ l2)) ++ ([44, 32] : Bs)) ++ (([114] : Bs) ++ l3)) ++ ([44, 32] : Bs)) ++ (([114] : Bs) ++ l4)), vS (((([32] : Bs) ++ (([114] : Bs) ++ l2)) ++ ([44, 32] : Bs)) ++ l5), vS (((((([32] : Bs) ++ (([114] : Bs) ++ l2)) ++ ([44, 32] : Bs)) ++ (([114] : Bs) ++ l3)) ++ ([44, 32] : Bs)) ++ l5), vS (([32] : Bs) ++ l5)]⟩ 9) →
 ∃ (b2 o1 : Nat), (ad b1 0) = some ⟨b2, o1, none⟩ ∧ (0 ≤ i5 ∧ i5 < (7 : Nat)) ∧
 ∃ (l6 : Bs), h_7.cell b2 (o1 + (i5).toNat * 1) = some (vS l6) ∧
 l1.length + l6.length ≤ 9223372036854775807 ∧
 Q (vS (l1 ++ l6)) h_7
theorem T34 {i1 : Int} {i2 : Int} {i3 : Int} {i4 : Int} {h : PHeap} {Q : Value → PHeap → Prop} (hR : R34 i1 i2 i3 i4 h Q) : Tri Tryz.prog 34 [vA [vI i1, vI i2, vI i3, vI i4]] h Q :=
 tri_of_dn mixed Tryz.func34 rfl (by kernel_rfl) low34 (rs := [.tmp 2]) (by kernel_rfl) rfl (Eq.mpr (by kernel_rfl : dnF Tryz.prog Tryz.f34.ntmps d34 [.tmp 2] [vA [vI i1, vI i2, vI i3, vI i4]] h Q = R34 i1 i2 i3 i4 h Q) hR)
noncomputable def d33 : DCode := up ⟨[(9, .l [qi]), (10, .c (.tup [(false, [qi]), (false, [qi])])), (17, .c (.one false [.bool])), (21, .l [qi]), (26, .c (.one false [.bool])), (30, .l [qi]), (36, .c (.one false [.bool])), (40, .l [qi]), (48, .l [qi]), (49, .c (.tup [(false, [qi]), (false, [qi]), (false, [qi])])), (54, .l [qi]), (58, .l [qi]), (63, .l [qi]), (68, .l [qi]), (73, .c (.one false [.bool])), (76, .l [qi]), (81, .l [qi])], [], []⟩ (low Tryz.prog (fun _ => false) (Tryz.f33.body.getD .skip))
theorem low33 : low Tryz.prog (fun _ => false) (Tryz.f33.body.getD .skip) = some (eC d33) := by kernel_rfl
def R33 (i1 : Int) (i2 : Int) (i3 : Int) (i4 : Int) (h : PHeap) (Q : Value → PHeap → Prop) : Prop :=
 Tri Tryz.prog 63 [vI i1] h fun v_1 h_1 =>
 ∃ (i5 i6 : Int), v_1 = vT [vI i5, vI i6] ∧
 br (i6 != 0)
 (Q (vI i6) h_1)
 (Tri Tryz.prog 64 [vI i5] h_1 fun v_2 h_2 =>
 ∃ (c1 : Bool), v_2 = vB c1 ∧
 br (!c1)
 (br (i2 != 0)
 (Q (vI 1) h_2)
 (Tri Tryz.prog 65 [vI i5] h_2 fun v_3 h_3 =>
 ∃ (c2 : Bool), v_3 = vB c2 ∧
 br (!c2)
 (br (i3 != 0)
 (Q (vI 1) h_3)
 (Tri Tryz.prog 66 [vI i5] h_3 fun v_4 h_4 =>
 ∃ (c3 : Bool), v_4 = vB c3 ∧
 br (!c3)
 (br (i4 != 0)
 (Q (vI 1) h_4)
 (br (decide (i5 ≥ 4))
 (Tri Tryz.prog 67 [vI i1] h_4 fun v_5 h_5 =>
 ∃ (i7 i8 i9 : Int), v_5 = vT [vI i7, vI i8, vI i9] ∧
 br (decide (i2 < 0))
 (Q (vI 2) h_5)
 (br (decide (i2 > 7))
 (Q (vI 2) h_5)
 (br (decide (i3 < 0))
 (Q (vI 2) h_5)
 (br (decide (i3 > 7))
 (Q (vI 2) h_5)
 (Tri Tryz.prog 66 [vI i5] h_5 fun v_6 h_6 =>
 ∃ (c4 : Bool), v_6 = vB c4 ∧
 br c4
 (br (decide (i4 < i7))
 (Q (vI 2) h_6)
 (br (decide (i4 > i8))
 (Q (vI 2) h_6)
 (Q (vI 0) h_6)))
 (Q (vI 0) h_6))))))
 (br (decide (i2 < 0))
 (Q (vI 2) h_4)
 (br (decide (i2 > 7))
 (Q (vI 2) h_4)
 (br (decide (i3 < 0))
 (Q (vI 2) h_4)
 (br (decide (i3 > 7))
 (Q (vI 2) h_4)
 (Tri Tryz.prog 66 [vI i5] h_4 fun v_7 h_7 =>
 ∃ (c5 : Bool), v_7 = vB c5 ∧
 br c5
 (br (decide (i4 < 0))
 (Q (vI 2) h_7)
 (br (decide (i4 > 7))
 (Q (vI 2) h_7)
 (Q (vI 0) h_7)))
 (Q (vI 0) h_7))))))))
 (br (decide (i5 ≥ 4))
 (Tri Tryz.prog 67 [vI i1] h_4 fun v_8 h_8 =>
 ∃ (i10 i11 i12 : Int), v_8 = vT [vI i10, vI i11, vI i12] ∧
 br (decide (i2 < 0))
 (Q (vI 2) h_8)
 (br (decide (i2 > 7))
 (Q (vI 2) h_8)
 (br (decide (i3 < 0))
 (Q (vI 2) h_8)
 (br (decide (i3 > 7))
 (Q (vI 2) h_8)
 (Tri Tryz.prog 66 [vI i5] h_8 fun v_9 h_9 =>
 ∃ (c6 : Bool), v_9 = vB c6 ∧
 br c6
 (br (decide (i4 < i10))
 (Q (vI 2) h_9)
 (br (decide (i4 > i11))
 (Q (vI 2) h_9)
 (Q (vI 0) h_9)))
 (Q (vI 0) h_9))))))
 (br (decide (i2 < 0))
 (Q (vI 2) h_4)
 (br (decide (i2 > 7))
 (Q (vI 2) h_4)
 (br (decide (i3 < 0))
 (Q (vI 2) h_4)
 (br (decide (i3 > 7))
 (Q (vI 2) h_4)
 (Tri Tryz.prog 66 [vI i5] h_4 fun v_10 h_10 =>
 ∃ (c7 : Bool), v_10 = vB c7 ∧
 br c7
 (br (decide (i4 < 0))
 (Q (vI 2) h_10)
 (br (decide (i4 > 7))
 (Q (vI 2) h_10)
 (Q (vI 0) h_10)))
 (Q (vI 0) h_10)))))))))
 (Tri Tryz.prog 66 [vI i5] h_3 fun v_11 h_11 =>
 ∃ (c8 : Bool), v_11 = vB c8 ∧
 br (!c8)
 (br (i4 != 0)
 (Q (vI 1) h_11)
 (br (decide (i5 ≥ 4))
 (Tri Tryz.prog 67 [vI i1] h_11 fun v_12 h_12 =>
 ∃ (i13 i14 i15 : Int), v_12 = vT [vI i13, vI i14, vI i15] ∧
 br (decide (i2 < 0))
 (Q (vI 2) h_12)
 (br (decide (i2 > 7))
 (Q (vI 2) h_12)
 (br (decide (i3 < 0))
 (Q (vI 2) h_12)
 (br (decide (i3 > 7))
 (Q (vI 2) h_12)
 (Tri Tryz.prog 66 [vI i5] h_12 fun v_13 h_13 =>
 ∃ (c9 : Bool), v_13 = vB c9 ∧
 br c9
 (br (decide (i4 < i13))
 (Q (vI 2) h_13)
 (br (decide (i4 > i14))
 (Q (vI 2) h_13)
 (Q (vI 0) h_13)))
 (Q (vI 0) h_13))))))
 (br (decide (i2 < 0))
 (Q (vI 2) h_11)
 (br (decide (i2 > 7))
 (Q (vI 2) h_11)
 (br (decide (i3 < 0))
 (Q (vI 2) h_11)
 (br (decide (i3 > 7))
 (Q (vI 2) h_11)
 (Tri Tryz.prog 66 [vI i5] h_11 fun v_14 h_14 =>
 ∃ (c10 : Bool), v_14 = vB c10 ∧
 br c10
 (br (decide (i4 < 0))
 (Q (vI 2) h_14)
 (br (decide (i4 > 7))
 (Q (vI 2) h_14)
 (Q (vI 0) h_14)))
 (Q (vI 0) h_14))))))))
 (br (decide (i5 ≥ 4))
 (Tri Tryz.prog 67 [vI i1] h_11 fun v_15 h_15 =>
 ∃ (i16 i17 i18 : Int), v_15 = vT [vI i16, vI i17, vI i18] ∧
 br (decide (i2 < 0))
 (Q (vI 2) h_15)
 (br (decide (i2 > 7))
 (Q (vI 2) h_15)
 (br (decide (i3 < 0))
 (Q (vI 2) h_15)
 (br (decide (i3 > 7))
 (Q (vI 2) h_15)
 (Tri Tryz.prog 66 [vI i5] h_15 fun v_16 h_16 =>
 ∃ (c11 : Bool), v_16 = vB c11 ∧
 br c11
 (br (decide (i4 < i16))
 (Q (vI 2) h_16)
 (br (decide (i4 > i17))
 (Q (vI 2) h_16)
 (Q (vI 0) h_16)))
 (Q (vI 0) h_16))))))
 (br (decide (i2 < 0))
 (Q (vI 2) h_11)
 (br (decide (i2 > 7))
 (Q (vI 2) h_11)
 (br (decide (i3 < 0))
 (Q (vI 2) h_11)
 (br (decide (i3 > 7))
 (Q (vI 2) h_11)
 (Tri Tryz.prog 66 [vI i5] h_11 fun v_17 h_17 =>
 ∃ (c12 : Bool), v_17 = vB c12 ∧
 br c12
 (br (decide (i4 < 0))
 (Q (vI 2) h_17)
 (br (decide (i4 > 7))
 (Q (vI 2) h_17)
 (Q (vI 0) h_17)))
 (Q (vI 0) h_17))))))))))
 (Tri Tryz.prog 65 [vI i5] h_2 fun v_18 h_18 =>
 ∃ (c13 : Bool), v_18 = vB c13 ∧
 br (!c13)
 (br (i3 != 0)
 (Q (vI 1) h_18)
 (Tri Tryz.prog 66 [vI i5] h_18 fun v_19 h_19 =>
 ∃ (c14 : Bool), v_19 = vB c14 ∧
 br (!c14)
 (br (i4 != 0)
 (Q (vI 1) h_19)
 (br (decide (i5 ≥ 4))
 (Tri Tryz.prog 67 [vI i1] h_19 fun v_20 h_20 =>
 ∃ (i19 i20 i21 : Int), v_20 = vT [vI i19, vI i20, vI i21] ∧
 br (decide (i2 < 0))
 (Q (vI 2) h_20)
 (br (decide (i2 > 7))
 (Q (vI 2) h_20)
 (br (decide (i3 < 0))
 (Q (vI 2) h_20)
 (br (decide (i3 > 7))
 (Q (vI 2) h_20)
 (Tri Tryz.prog 66 [vI i5] h_20 fun v_21 h_21 =>
 ∃ (c15 : Bool), v_21 = vB c15 ∧
 br c15
 (br (decide (i4 < i19))
 (Q (vI 2) h_21)
 (br (decide (i4 > i20))
 (Q (vI 2) h_21)
 (Q (vI 0) h_21)))
 (Q (vI 0) h_21))))))
 (br (decide (i2 < 0))
 (Q (vI 2) h_19)
 (br (decide (i2 > 7))
 (Q (vI 2) h_19)
 (br (decide (i3 < 0))
 (Q (vI 2) h_19)
 (br (decide (i3 > 7))
 (Q (vI 2) h_19)
 (Tri Tryz.prog 66 [vI i5] h_19 fun v_22 h_22 =>
 ∃ (c16 : Bool), v_22 = vB c16 ∧
 br c16
 (br (decide (i4 < 0))
 (Q (vI 2) h_22)
 (br (decide (i4 > 7))
 (Q (vI 2) h_22)
 (Q (vI 0) h_22)))
 (Q (vI 0) h_22))))))))
 (br (decide (i5 ≥ 4))
 (Tri Tryz.prog 67 [vI i1] h_19 fun v_23 h_23 =>
 ∃ (i22 i23 i24 : Int), v_23 = vT [vI i22, vI i23, vI i24] ∧
 br (decide (i2 < 0))
 (Q (vI 2) h_23)
 (br (decide (i2 > 7))
 (Q (vI 2) h_23)
 (br (decide (i3 < 0))
 (Q (vI 2) h_23)
 (br (decide (i3 > 7))
 (Q (vI 2) h_23)
 (Tri Tryz.prog 66 [vI i5] h_23 fun v_24 h_24 =>
 ∃ (c17 : Bool), v_24 = vB c17 ∧
 br c17
 (br (decide (i4 < i22))
 (Q (vI 2) h_24)
 (br (decide (i4 > i23))
 (Q (vI 2) h_24)
 (Q (vI 0) h_24)))
 (Q (vI 0) h_24))))))
 (br (decide (i2 < 0))
 (Q (vI 2) h_19)
 (br (decide (i2 > 7))
 (Q (vI 2) h_19)
 (br (decide (i3 < 0))
 (Q (vI 2) h_19)
 (br (decide (i3 > 7))
 (Q (vI 2) h_19)
 (Tri Tryz.prog 66 [vI i5] h_19 fun v_25 h_25 =>
 ∃ (c18 : Bool), v_25 = vB c18 ∧
 br c18
 (br (decide (i4 < 0))
 (Q (vI 2) h_25)
 (br (decide (i4 > 7))
 (Q (vI 2) h_25)
 (Q (vI 0) h_25)))
 (Q (vI 0) h_25)))))))))
 (Tri Tryz.prog 66 [vI i5] h_18 fun v_26 h_26 =>
 ∃ (c19 : Bool), v_26 = vB c19 ∧
 br (!c19)
 (br (i4 != 0)
 (Q (vI 1) h_26)
 (br (decide (i5 ≥ 4))
 (Tri Tryz.prog 67 [vI i1] h_26 fun v_27 h_27 =>
 ∃ (i25 i26 i27 : Int), v_27 = vT [vI i25, vI i26, vI i27] ∧
 br (decide (i2 < 0))
 (Q (vI 2) h_27)
 (br (decide (i2 > 7))
 (Q (vI 2) h_27)
 (br (decide (i3 < 0))
 (Q (vI 2) h_27)
 (br (decide (i3 > 7))
 (Q (vI 2) h_27)
 (Tri Tryz.prog 66 [vI i5] h_27 fun v_28 h_28 =>
 ∃ (c20 : Bool), v_28 = vB c20 ∧
 br c20
 (br (decide (i4 < i25))
 (Q (vI 2) h_28)
 (br (decide (i4 > i26))
 (Q (vI 2) h_28)
 (Q (vI 0) h_28)))
 (Q (vI 0) h_28))))))
 (br (decide (i2 < 0))
 (Q (vI 2) h_26)
 (br (decide (i2 > 7))
 (Q (vI 2) h_26)
 (br (decide (i3 < 0))
 (Q (vI 2) h_26)
 (br (decide (i3 > 7))
 (Q (vI 2) h_26)
 (Tri Tryz.prog 66 [vI i5] h_26 fun v_29 h_29 =>
 ∃ (c21 : Bool), v_29 = vB c21 ∧
 br c21
 (br (decide (i4 < 0))
 (Q (vI 2) h_29)
 (br (decide (i4 > 7))
 (Q (vI 2) h_29)
 (Q (vI 0) h_29)))
 (Q (vI 0) h_29))))))))
 (br (decide (i5 ≥ 4))
 (Tri Tryz.prog 67 [vI i1] h_26 fun v_30 h_30 =>
 ∃ (i28 i29 i30 : Int), v_30 = vT [vI i28, vI i29, vI i30] ∧
 br (decide (i2 < 0))
 (Q (vI 2) h_30)
 (br (decide (i2 > 7))
 (Q (vI 2) h_30)
 (br (decide (i3 < 0))
 (Q (vI 2) h_30)
 (br (decide (i3 > 7))
 (Q (vI 2) h_30)
 (Tri Tryz.prog 66 [vI i5] h_30 fun v_31 h_31 =>
 ∃ (c22 : Bool), v_31 = vB c22 ∧
 br c22
 (br (decide (i4 < i28))
 (Q (vI 2) h_31)
 (br (decide (i4 > i29))
 (Q (vI 2) h_31)
 (Q (vI 0) h_31)))
 (Q (vI 0) h_31))))))
 (br (decide (i2 < 0))
 (Q (vI 2) h_26)
 (br (decide (i2 > 7))
 (Q (vI 2) h_26)
 (br (decide (i3 < 0))
 (Q (vI 2) h_26)
 (br (decide (i3 > 7))
 (Q (vI 2) h_26)
 (Tri Tryz.prog 66 [vI i5] h_26 fun v_32 h_32 =>
 ∃ (c23 : Bool), v_32 = vB c23 ∧
 br c23
 (br (decide (i4 < 0))
 (Q (vI 2) h_32)
 (br (decide (i4 > 7))
 (Q (vI 2) h_32)
 (Q (vI 0) h_32)))
 (Q (vI 0) h_32))))))))))
theorem T33 {i1 : Int} {i2 : Int} {i3 : Int} {i4 : Int} {h : PHeap} {Q : Value → PHeap → Prop} (hR : R33 i1 i2 i3 i4 h Q) : Tri Tryz.prog 33 [vA [vI i1, vI i2, vI i3, vI i4]] h Q :=
 tri_of_dn mixed Tryz.func33 rfl (by kernel_rfl) low33 (rs := [.tmp 2]) (by kernel_rfl) rfl (Eq.mpr (by kernel_rfl : dnF Tryz.prog Tryz.f33.ntmps d33 [.tmp 2] [vA [vI i1, vI i2, vI i3, vI i4]] h Q = R33 i1 i2 i3 i4 h Q) hR)
abbrev o10_10 : Op := .binOp .eql 58 (.tmp 59) (.tmp 60) 58
noncomputable def d10 : DCode := up ⟨[(10, .l [qi]), (12, .l [qi]), (14, .l [qi]), (16, .l [qi]), (19, .l enk1), (20, .c (.tup [(false, [.str]), (false, [qi])])), (23, .c (.one false [.bool])), (27, .l enk1), (28, .c (.one false [qi])), (37, .c (.tup [(true, enk2), (false, [qi]), (false, [qi])])), (42, .l enk1), (43, .c (.one false [.str])), (51, .l [.slice]), (57, .l [.slice]), (59, .l enk1), (60, .l enk1), (61, .c (.one false [.bool]))], [], []⟩ (low Tryz.prog (fun _ => false) (Tryz.f10.body.getD .skip))
theorem low10 : low Tryz.prog (fun _ => false) (Tryz.f10.body.getD .skip) = some (eC d10) := by kernel_rfl
def R10 (i1 : Int) (i2 : Int) (i3 : Int) (i4 : Int) (h : PHeap) (Q : Value → PHeap → Prop) : Prop :=
 Tri Tryz.prog 32 [vA [vI i1, vI i2, vI i3, vI i4]] h fun v_1 h_1 =>
 ∃ (l1 : Bs) (i5 : Int), v_1 = vT [vS l1, vI i5] ∧
 Tri Tryz.prog 15 [] h_1 fun v_2 h_2 =>
 ∃ (c1 : Bool), v_2 = vB c1 ∧
 br (!c1)
 (Q (vB false) h_2)
 (Tri Tryz.prog 33 [vA [vI i1, vI i2, vI i3, vI i4]] h_2 fun v_3 h_3 =>
 ∃ (i6 : Int), v_3 = vI i6 ∧
 br (i5 != i6)
 (Q (vB false) h_3)
 (br (i5 != 0)
 (Q (vB (l1 == [])) h_3)
 (Tri Tryz.prog 13 [vS l1] h_3 fun v_4 h_4 =>
 ∃ (a1 : OA) (n1 enk1 : Nat) (l2 : Bs) (i7 i8 : Int) (a2 : OA) (n2 enk2 : Nat) (i9 i10 : Int), v_4 = vT [vA [vL a1 n1 enk1, vS l2, vI i7, vI i8, vL a2 n2 enk2], vI i9, vI i10] ∧
 Tri Tryz.prog 34 [vA [vI i1, vI i2, vI i3, vI i4]] h_4 fun v_5 h_5 =>
 ∃ (l3 : Bs), v_5 = vS l3 ∧
 br (l1 == l3)
 (br (i10 == 0)
 (br (((n1 : Nat) : Int) == 1)
 (∃ (b1 o1 : Nat), a1 = some ⟨b1, o1, none⟩ ∧ (0 ≤ (0 : Int) ∧ (0 : Int) < n1) ∧
 ∃ (i11 i12 i13 i14 : Int), h_5.row b1 o1 [vI i11, vI i12, vI i13, vI i14] ∧
 ∃ (c2 : Bool), PureRun Tryz.prog (execOp (rho [(59, vA [vI i11, vI i12, vI i13, vI i14]), (60, vA [vI i1, vI i2, vI i3, vI i4])]) (mkO o10_10 4)) (vB c2) ∧
 Q (vB c2) h_5)
 (Q (vB false) h_5))
 (Q (vB false) h_5))
 (Q (vB false) h_5))))
theorem T10 {i1 : Int} {i2 : Int} {i3 : Int} {i4 : Int} {h : PHeap} {Q : Value → PHeap → Prop} (hR : R10 i1 i2 i3 i4 h Q) : Tri Tryz.prog 10 [vA [vI i1, vI i2, vI i3, vI i4]] h Q :=
 tri_of_dn mixed Tryz.func10 rfl (by kernel_rfl) low10 (rs := [.tmp 2]) (by kernel_rfl) rfl (Eq.mpr (by kernel_rfl : dnF Tryz.prog Tryz.f10.ntmps d10 [.tmp 2] [vA [vI i1, vI i2, vI i3, vI i4]] h Q = R10 i1 i2 i3 i4 h Q) hR)
end Go.Proofs.D
namespace Go.As
theorem decDigits_eq (n : Nat) : Lib.decDigits n = digs n := by
 induction n using Nat.strongRecOn with
 | ind n ih =>
   rw [Lib.decDigits, digs]
   split
   · rfl
   · rw [ih (n / 10) (by omega)]
theorem join_cons2 (x y : Bytes) (l : List Bytes) : Lib.join (x :: y :: l) [44, 32] = x ++ ([44, 32] ++ Lib.join (y :: l) [44, 32]) := by
 rw [Lib.join_cons, Lib.join_cons]
 unfold Lib.joinTail
 rw [List.map_cons, List.flatten_cons, List.append_assoc]
theorem join_comma : ∀ (l : List Bytes), Lib.join l [44, 32] = commaT l
 | [] => rfl
 | [x] => by rw [Lib.join_cons]; simp [Lib.joinTail, commaT]
 | x :: y :: l => by rw [join_cons2, join_comma (y :: l)]; rfl
end Go.As
namespace Go.Proofs.D
open Go Go.Den Go.As Go.Shelf
set_option maxRecDepth 100000
def layI_ren : Go.Shelf.Ren := ⟨fun | 171 => 60 | 243 => 103 | 246 => 138 | 283 => 156 | 284 => 157 | 285 => 158 | 286 => 159 | 129 => 130 | 317 => 174 | 318 => 175 | 319 => 176 | 320 => 177 | 337 => 184 | 338 => 185 | n => n, fun | 3 => 3 | 9 => 9 | 2 => 2 | 4 => 4 | 171 => 200 | 0 => 0 | 53 => 178 | 37 => 40 | 5 => 5 | 173 => 202 | 212 => 217 | 51 => 161 | 20 => 20 | 213 => 218 | 46 => 98 | 232 => 233 | 233 => 234 | n => n, fun | 17 => 2 | 18 => 5 | 19 => 6 | n => n⟩
theorem layI : Go.Proofs.LaysM.n171 Tryz.prog layI_ren where
 mixed := by kernel_rfl
 f129 := Tryz.func130.trans (congrArg some (by kernel_rfl))
 f171 := Tryz.func60.trans (congrArg some (by kernel_rfl))
 f243 := Tryz.func103.trans (congrArg some (by kernel_rfl))
 f246 := Tryz.func138.trans (congrArg some (by kernel_rfl))
 f283 := Tryz.func156.trans (congrArg some (by kernel_rfl))
 f284 := Tryz.func157.trans (congrArg some (by kernel_rfl))
 f285 := Tryz.func158.trans (congrArg some (by kernel_rfl))
 f286 := Tryz.func159.trans (congrArg some (by kernel_rfl))
 f317 := Tryz.func174.trans (congrArg some (by kernel_rfl))
 f318 := Tryz.func175.trans (congrArg some (by kernel_rfl))
 f319 := Tryz.func176.trans (congrArg some (by kernel_rfl))
 f320 := Tryz.func177.trans (congrArg some (by kernel_rfl))
 f337 := Tryz.func184.trans (congrArg some (by kernel_rfl))
 f338 := Tryz.func185.trans (congrArg some (by kernel_rfl))
 t0 := Tryz.underlying0
 a0 := Tryz.isAgg0
 z0 := Tryz.sizeOf0
 v0 := Tryz.zeroValue0
 t2 := Tryz.underlying2
 a2 := Tryz.isAgg2
 z2 := Tryz.sizeOf2
 v2 := Tryz.zeroValue2
 t3 := Tryz.underlying3
 a3 := Tryz.isAgg3
 z3 := Tryz.sizeOf3
 v3 := Tryz.zeroValue3
 t4 := Tryz.underlying4
 a4 := Tryz.isAgg4
 z4 := Tryz.sizeOf4
 v4 := Tryz.zeroValue4
 t5 := Tryz.underlying5
 a5 := Tryz.isAgg5
 z5 := Tryz.sizeOf5
 v5 := Tryz.zeroValue5
 t9 := Tryz.underlying9
 a9 := Tryz.isAgg9
 z9 := Tryz.sizeOf9
 v9 := Tryz.zeroValue9
 t20 := Tryz.underlying20
 a20 := Tryz.isAgg20
 z20 := Tryz.sizeOf20
 v20 := Tryz.zeroValue20
 t37 := Tryz.underlying40
 a37 := Tryz.isAgg40
 z37 := Tryz.sizeOf40
 v37 := Tryz.zeroValue40
 t46 := Tryz.underlying98
 a46 := Tryz.isAgg98
 z46 := Tryz.sizeOf98
 v46 := Tryz.zeroValue98
 t51 := Tryz.underlying161
 a51 := Tryz.isAgg161
 z51 := Tryz.sizeOf161
 v51 := Tryz.zeroValue161
 t53 := Tryz.underlying178
 a53 := Tryz.isAgg178
 z53 := Tryz.sizeOf178
 v53 := Tryz.zeroValue178
 t171 := Tryz.underlying200
 a171 := Tryz.isAgg200
 z171 := Tryz.sizeOf200
 v171 := Tryz.zeroValue200
 t173 := Tryz.underlying202
 a173 := Tryz.isAgg202
 z173 := Tryz.sizeOf202
 v173 := Tryz.zeroValue202
 t212 := Tryz.underlying217
 a212 := Tryz.isAgg217
 z212 := Tryz.sizeOf217
 v212 := Tryz.zeroValue217
 t213 := Tryz.underlying218
 a213 := Tryz.isAgg218
 z213 := Tryz.sizeOf218
 t232 := Tryz.underlying233
 a232 := Tryz.isAgg233
 z232 := Tryz.sizeOf233
 v232 := Tryz.zeroValue233
 t233 := Tryz.underlying234
 a233 := Tryz.isAgg234
 z233 := Tryz.sizeOf234
 v233 := Tryz.zeroValue234
 g17 := by kernel_rfl
 g18 := by kernel_rfl
 g19 := by kernel_rfl
 i0 := by kernel_rfl
 i2 := by kernel_rfl
 i3 := by kernel_rfl
 i4 := by kernel_rfl
 i5 := by kernel_rfl
 i9 := by kernel_rfl
 i20 := by kernel_rfl
 i37 := by kernel_rfl
 i46 := by kernel_rfl
 i51 := by kernel_rfl
 i53 := by kernel_rfl
 i171 := by kernel_rfl
 i173 := by kernel_rfl
 i212 := by kernel_rfl
 i232 := by kernel_rfl
 i233 := by kernel_rfl
 m17 := by kernel_rfl
 m18 := by kernel_rfl
 m19 := by kernel_rfl
def layJ_ren : Go.Shelf.Ren := ⟨fun | 156 => 62 | 165 => 104 | 166 => 105 | 169 => 74 | 240 => 139 | 241 => 140 | 276 => 160 | 277 => 161 | n => n, fun | 31 => 52 | 9 => 9 | 3 => 3 | 4 => 4 | 0 => 0 | 20 => 20 | 72 => 112 | 76 => 153 | 70 => 110 | 37 => 40 | 75 => 152 | 127 => 158 | 164 => 204 | 5 => 5 | 80 => 117 | n => n, fun | n => n⟩
theorem layJ : Go.Proofs.Lays.n156 Tryz.prog layJ_ren where
 mixed := by kernel_rfl
 f156 := Tryz.func62.trans (congrArg some (by kernel_rfl))
 f165 := Tryz.func104.trans (congrArg some (by kernel_rfl))
 f166 := Tryz.func105.trans (congrArg some (by kernel_rfl))
 f169 := Tryz.func74.trans (congrArg some (by kernel_rfl))
 f240 := Tryz.func139.trans (congrArg some (by kernel_rfl))
 f241 := Tryz.func140.trans (congrArg some (by kernel_rfl))
 f276 := Tryz.func160.trans (congrArg some (by kernel_rfl))
 f277 := Tryz.func161.trans (congrArg some (by kernel_rfl))
 t0 := Tryz.underlying0
 a0 := Tryz.isAgg0
 z0 := Tryz.sizeOf0
 v0 := Tryz.zeroValue0
 t3 := Tryz.underlying3
 a3 := Tryz.isAgg3
 z3 := Tryz.sizeOf3
 v3 := Tryz.zeroValue3
 t4 := Tryz.underlying4
 a4 := Tryz.isAgg4
 z4 := Tryz.sizeOf4
 v4 := Tryz.zeroValue4
 t9 := Tryz.underlying9
 a9 := Tryz.isAgg9
 z9 := Tryz.sizeOf9
 v9 := Tryz.zeroValue9
 t20 := Tryz.underlying20
 a20 := Tryz.isAgg20
 z20 := Tryz.sizeOf20
 v20 := Tryz.zeroValue20
 t31 := Tryz.underlying52
 a31 := Tryz.isAgg52
 z31 := Tryz.sizeOf52
 v31 := Tryz.zeroValue52
 t37 := Tryz.underlying40
 a37 := Tryz.isAgg40
 z37 := Tryz.sizeOf40
 v37 := Tryz.zeroValue40
 t70 := Tryz.underlying110
 a70 := Tryz.isAgg110
 z70 := Tryz.sizeOf110
 v70 := Tryz.zeroValue110
 t72 := Tryz.underlying112
 a72 := Tryz.isAgg112
 z72 := Tryz.sizeOf112
 v72 := Tryz.zeroValue112
 t75 := Tryz.underlying152
 a75 := Tryz.isAgg152
 z75 := Tryz.sizeOf152
 v75 := Tryz.zeroValue152
 t76 := Tryz.underlying153
 a76 := Tryz.isAgg153
 z76 := Tryz.sizeOf153
 v76 := Tryz.zeroValue153
 t127 := Tryz.underlying158
 a127 := Tryz.isAgg158
 z127 := Tryz.sizeOf158
 v127 := Tryz.zeroValue158
 t164 := Tryz.underlying204
 a164 := Tryz.isAgg204
 z164 := Tryz.sizeOf204
 v164 := Tryz.zeroValue204
theorem exJ : Go.Proofs.Builder.Extra Tryz.prog layJ_ren where
 sizeBuilder := by kernel_rfl
 liesBuilder := by kernel_rfl
 t5 := Tryz.underlying5
 a5 := Tryz.isAgg5
 z5 := Tryz.sizeOf5
 v5 := Tryz.zeroValue5
 infoByte := by kernel_rfl
 cellsByte := by kernel_rfl
 sizeByte := by kernel_rfl
 neB5 := by decide
theorem tri_below {f : FuncId} {fn : Func} {c : Code} {args : List Value} {h : PHeap} {Q : Value → Prop} (hf : Tryz.prog.funcs[f]? = some fn) (hname : (fn.name == "runtime.NumGoroutine") = false) (hb : fn.body = some c)
 (H : ∀ w, Sub w h → Calls Tryz.prog f args.toArray w fun e w' => ∃ v, e = .returned v ∧ Q v ∧ RowKit.Below w.heap.size w w') : Tri Tryz.prog f args h fun v h' => Q v ∧ h' = h := by
 refine tri_calls hf hname hb fun w hs => Calls.mono (H w hs) ?_
 rintro e w' ⟨v, rfl, hq, hb⟩
 refine ⟨v, h, rfl, ⟨hq, rfl⟩, fun k o hk => ?_, hb.os, hb.tape, hb.output, hb.size, fun k hk hn => ⟨hn, hb.block k hk⟩⟩
 have := hs k o hk
 rw [hb.block k (Array.getElem?_eq_some_iff.1 this).1]
 exact this
def PowTab (h : PHeap) : Prop := ∃ t z, h 2 = some (.cells ⟨Lib.pow10Tab.map fun z => Value.int .u64 z⟩ t z)
theorem PowTab.ext {h h' : PHeap} (x : Ext h h') (hp : PowTab h) : PowTab h' := by
 obtain ⟨t, z, hp⟩ := hp
 exact ⟨t, z, x _ _ hp⟩
theorem itoa_t (v : Int) (h1 : -9000000000000000000 ≤ v) (h2 : v ≤ 9000000000000000000) {h : PHeap} (hp : PowTab h) : Tri Tryz.prog 60 [vI v] h fun r h' => r = vS (decI v) ∧ h' = h := by
 refine tri_below Tryz.func60 (by kernel_rfl) rfl fun w hs => ?_
 obtain ⟨t, z, hp⟩ := hp
 have htab : Lib.TabIs Tryz.prog w "internal/strconv.uint64pow10" .u64 Lib.pow10Tab := by
  unfold Lib.TabIs World.var?
  rw [show Tryz.prog.globalNamed "internal/strconv.uint64pow10" = some 2 by kernel_rfl]
  simp only [Option.bind_some]
  rw [hs _ _ hp]
 refine Calls.mono (Any.strconv_Itoa layI v (by omega) (by omega) w htab) ?_
 rintro e w' ⟨rfl, k, os, rfl⟩
 refine ⟨_, rfl, ?_, Lib.below_grow _ w (Nat.le_refl _) k os⟩
 have : Lib.itoa v = decI v := by
  unfold Lib.itoa decI
  split
  · rw [decDigits_eq]
  · rw [decDigits_eq]
 rw [this]
theorem join_t {h : PHeap} {b : Nat} {L : List Bytes} {c : Nat} (hc2 : ∀ j l, L[j]? = some l → h.cell b j = some (vS l)) (hb : h b ≠ none) (hc : L.length ≤ c) (hN : L.length ≤ 1000) (hl : (commaT L).length ≤ 100000) :
 Tri Tryz.prog 62 [vL (ad b 0) L.length c, vS [44, 32]] h fun r h' => r = vS (commaT L) ∧ h' = h := by
 refine tri_below Tryz.func62 (by kernel_rfl) rfl fun w hsub => ?_
 have hmap : (L.map fun l => (⟨⟨l⟩⟩ : ByteArray)).map (fun x => x.data.toList) = L := by
  rw [List.map_map]
  exact List.map_id'' (fun _ => rfl) L
 have hbl : b < w.heap.size := by
  cases hh : h b with
  | none => exact absurd hh hb
  | some ob => exact (Array.getElem?_eq_some_iff.1 (hsub _ _ hh)).1
 have := Any.strings_Join layJ exJ b 0 c (L.map fun l => (⟨⟨l⟩⟩ : ByteArray)) ⟨⟨[44, 32]⟩⟩ w (fun j x hj => by
  rw [List.getElem?_map] at hj
  cases hL : L[j]? with
  | none => rw [hL] at hj; cases hj
  | some l =>
    rw [hL] at hj
    have hj : (⟨⟨l⟩⟩ : ByteArray) = x := by simpa using hj
    subst hj
    rw [Nat.zero_add]
    exact hsub.cell (hc2 j l hL)) hbl (by rw [List.length_map]; omega) (by rw [List.length_map]; exact hc) (by rw [hmap]; show (Lib.join L [44, 32]).length ≤ _; rw [join_comma]; omega)
 rw [hmap, List.length_map] at this
 refine Calls.mono this ?_
 rintro e w' ⟨rfl, hbe⟩
 refine ⟨_, rfl, ?_, hbe⟩
 show vS (Lib.join L [44, 32]) = vS (commaT L)
 rw [join_comma]
attribute [local irreducible] IntKind.wrap Tri
theorem regT_len {n : Int} (h : 0 ≤ n ∧ n ≤ 7) : (decI n).length ≤ 11 := decI_len (by omega) (by omega)
section
variable {h : PHeap}
def lineV (x : Ins) : Value := if checkI x ≠ 0 then vT [vS [], vI (checkI x : Int)] else vT [vS (lineT x), vI 0]
theorem line32_t (hO : OpTab h) (hP : PowTab h) (x : Ins) : Tri Tryz.prog 32 [vA (insC x)] h fun v h' => v = lineV x ∧ Ext h h' := by
 refine T32 ?_
 unfold R32
 refine Tri.mono (icheck_t h hO x) ?_
 rintro _ h1 ⟨rfl, rfl⟩
 refine ⟨_, rfl, br_split (fun e => ?_) fun e => ?_⟩
 · have e : checkI x ≠ 0 := by simpa using e
   unfold lineV; rw [if_pos e]; exact ⟨rfl, Ext.refl _⟩
 have e : checkI x = 0 := by simpa using e
 have hok := ins_ok e
 have hlv : lineV x = vT [vS (lineT x), vI 0] := by unfold lineV; rw [if_neg (by simp [e])]
 rw [hlv]
 have hll := line_len e
 obtain ⟨op, xa, xb, xc⟩ := x
 obtain ⟨k, hk⟩ : ∃ k : Nat, op = (k : Int) := ⟨op.toNat, by have := hok.op; simp only at this; omega⟩
 subst hk
 have hk27 : k < 27 := by have := hok.op; simp only at this; omega
 have ha := hok.a
 have hb := hok.b
 have hc : -100000 ≤ xc ∧ xc ≤ 100000 := by
  have h3 := hok.c3
  have h4 := hok.c4
  have h0 := hok.c0
  have hlim := limits_small k
  simp only [Int.toNat_natCast] at h3 h4 h0
  by_cases f3 : form k = 3
  · have := h3 f3; omega
  by_cases f4 : 4 ≤ form k
  · have := h4 f4; omega
  · have : xc = 0 := h0 (by unfold hasC; have := form_le k; simp; omega)
    omega
 simp only at ha hb
 have la := regT_len ha
 have lb := regT_len hb
 have lc : (decI xc).length ≤ 11 := decI_len (by omega) (by omega)
 refine Tri.mono (form_t h1 hO hk27) ?_
 rintro _ h1 ⟨rfl, rfl⟩
 refine ⟨_, _, rfl, ?_⟩
 refine Tri.mono (itoa_t xa (by omega) (by omega) hP) ?_
 rintro _ h1 ⟨rfl, rfl⟩
 refine ⟨_, rfl, rfl, rfl, by rw [List.length_singleton]; omega, ?_⟩
 refine Tri.mono (itoa_t xb (by omega) (by omega) hP) ?_
 rintro _ h1 ⟨rfl, rfl⟩
 refine ⟨_, rfl, rfl, by rw [List.length_singleton]; omega, ?_⟩
 refine Tri.mono (itoa_t xc (by omega) (by omega) hP) ?_
 rintro _ h1 ⟨rfl, rfl⟩
 refine ⟨_, rfl, ?_⟩
 have hlt : lineT ⟨(k : Int), xa, xb, xc⟩ = stmtT (wordT k) (operT ⟨(k : Int), xa, xb, xc⟩) := by unfold lineT; rw [Int.toNat_natCast]
 have wl : (wordT k).length ≤ 6 := (word_all ⟨k, hk27⟩).2.2.2
 have go : ∀ (L : List Bytes) (b1 : Nat) (h6 : PHeap), operT ⟨(k : Int), xa, xb, xc⟩ = L → L ≠ [] → L.length ≤ 3 → h1 b1 = none → h6 = h1.put b1 (.cells ⟨L.map vS⟩ 9 (0, 0)) →
  Tri Tryz.prog 61 [vI (k : Int)] h6 fun v_6 h_7 =>
  ∃ (l4 : Bs), v_6 = vS l4 ∧
  l4.length + ([32] : Bs).length ≤ 9223372036854775807 ∧
  Tri Tryz.prog 62 [vL (ad b1 0) L.length L.length, vS [44, 32]] h_7 fun v_7 h_8 =>
  ∃ (l5 : Bs), v_7 = vS l5 ∧
  (l4 ++ ([32] : Bs)).length + l5.length ≤ 9223372036854775807 ∧
  (vT [vS ((l4 ++ ([32] : Bs)) ++ l5), vI 0] = vT [vS (lineT ⟨(k : Int), xa, xb, xc⟩), vI 0] ∧ Ext h1 h_8) := fun L b1 h6 hL hne hL3 hb1 hh6 => by
  have x6 := Put.ext hh6 hb1
  refine Tri.mono (opword_t h6 (hO.ext x6) hk27) ?_
  rintro _ h7 ⟨rfl, rfl⟩
  refine ⟨_, rfl, by rw [List.length_singleton]; omega, ?_⟩
  have hst : lineT ⟨(k : Int), xa, xb, xc⟩ = wordT k ++ 32 :: commaT L := by
   rw [hlt, hL]
   unfold stmtT
   rw [if_neg (by simpa using hne)]
  have hcl : (commaT L).length ≤ 49 := by
   rw [hst] at hll
   simp only [List.length_append, List.length_cons] at hll; omega
  refine Tri.mono (join_t (b := b1) (L := L) (c := L.length) (fun j l hj => ?_) (by rw [Put.at hh6]; exact fun e => by cases e) (Nat.le_refl _) (by omega) (by omega)) ?_
  · rw [cell_of (Put.at hh6), List.getElem?_map, hj]; rfl
  rintro _ h8 ⟨rfl, rfl⟩
  refine ⟨_, rfl, by rw [List.length_append, List.length_singleton]; omega, ?_, x6⟩
  rw [hst, List.append_assoc]; rfl
 have hop : ∀ n : Nat, form k = n → operT ⟨(k : Int), xa, xb, xc⟩ = match n with
  | 0 => []
  | 1 => [regT xa]
  | 2 => [regT xa, regT xb]
  | 3 => [regT xa, regT xb, regT xc]
  | 4 => [regT xa, decI xc]
  | 5 => [regT xa, regT xb, decI xc]
  | _ => [decI xc] := fun n hn => by
  subst hn
  unfold operT
  rw [Int.toNat_natCast]
  have f6 := form_le k
  generalize form k = f at f6 ⊢
  match f, f6 with
  | 0, _ => rfl
  | 1, _ => rfl
  | 2, _ => rfl
  | 3, _ => rfl
  | 4, _ => rfl
  | 5, _ => rfl
  | 6, _ => rfl
  | n + 7, h => omega
 have f6 := form_le k
 generalize form k = f at *
 have is : ∀ (n : Nat) (b : Bool), (((f : Nat) : Int) == (n : Int)) = b → (f = n ↔ b = true) := fun n b hb => by
  rw [← hb]; simp; omega
 refine br_split (fun e1 => ?_) fun e1 => br_split (fun e2 => ?_) fun e2 => br_split (fun e3 => ?_) fun e3 => br_split (fun e4 => ?_) fun e4 => br_split (fun e5 => ?_) fun e5 => br_split (fun e6 => ?_) fun e6 => ?_
 · intro b1 hb1 h6 hh6
   exact go [regT xa] b1 h6 (hop 1 ((is 1 _ e1).2 rfl)) (by simp) (by simp) hb1 hh6
 · intro b1 hb1 h6 hh6
   exact go [regT xa, regT xb] b1 h6 (hop 2 ((is 2 _ e2).2 rfl)) (by simp) (by simp) hb1 hh6
 · refine ⟨by rw [List.length_singleton]; omega, ?_⟩
   intro b1 hb1 h6 hh6
   exact go [regT xa, regT xb, regT xc] b1 h6 (hop 3 ((is 3 _ e3).2 rfl)) (by simp) (by simp) hb1 hh6
 · intro b1 hb1 h6 hh6
   exact go [regT xa, decI xc] b1 h6 (hop 4 ((is 4 _ e4).2 rfl)) (by simp) (by simp) hb1 hh6
 · intro b1 hb1 h6 hh6
   exact go [regT xa, regT xb, decI xc] b1 h6 (hop 5 ((is 5 _ e5).2 rfl)) (by simp) (by simp) hb1 hh6
 · intro b1 hb1 h6 hh6
   exact go [decI xc] b1 h6 (hop 6 ((is 6 _ e6).2 rfl)) (by simp) (by simp) hb1 hh6
 · have hf0 : f = 0 := by
    have n1 : f ≠ 1 := fun hh => by have := (is 1 _ e1).1 hh; cases this
    have n2 : f ≠ 2 := fun hh => by have := (is 2 _ e2).1 hh; cases this
    have n3 : f ≠ 3 := fun hh => by have := (is 3 _ e3).1 hh; cases this
    have n4 : f ≠ 4 := fun hh => by have := (is 4 _ e4).1 hh; cases this
    have n5 : f ≠ 5 := fun hh => by have := (is 5 _ e5).1 hh; cases this
    have n6 : f ≠ 6 := fun hh => by have := (is 6 _ e6).1 hh; cases this
    omega
   refine Tri.mono (opword_t h1 hO hk27) ?_
   rintro _ h7 ⟨rfl, rfl⟩
   refine ⟨_, rfl, ?_, Ext.refl _⟩
   rw [hlt, hop 0 hf0]; rfl
end
end Go.Proofs.D
namespace Go.Proofs.D
open Go Go.Den
set_option maxRecDepth 100000
set_option maxHeartbeats 4000000
abbrev ekk1 : List CK := [.slice, .str, qi, qi, .slice]
abbrev o30_2 : Op := .call { callee := (.builtin .append), args := #[(.tmp 22), (.tmp 23)], argTypes := #[40, 40] }
abbrev o30_4 : Op := .call { callee := (.builtin .append), args := #[(.tmp 28), (.tmp 29)], argTypes := #[40, 40] }
abbrev o30_6 : Op := .call { callee := (.builtin .append), args := #[(.tmp 34), (.tmp 35)], argTypes := #[40, 40] }
abbrev o30_9 : Op := .call { callee := (.builtin .append), args := #[(.tmp 44), (.tmp 46)], argTypes := #[40, 40] }
abbrev o30_14 : Op := .call { callee := (.builtin .append), args := #[(.tmp 55), (.tmp 62)], argTypes := #[40, 40] }
abbrev o30_15 : Op := .call { callee := (.builtin .append), args := #[(.tmp 15), (.tmp 17)], argTypes := #[40, 40] }
abbrev o30_17 : Op := .call { callee := (.builtin .append), args := #[(.tmp 65), (.tmp 66)], argTypes := #[40, 40] }
noncomputable def d30 : DCode := up ⟨[(24, .c (.one false [.slice])), (30, .c (.one false [.slice])), (36, .c (.one false [.slice])), (47, .c (.one false [.slice])), (63, .c (.one false [.slice])), (18, .c (.one false [.slice])), (67, .c (.one false [.slice]))], [], [(10, 59, [(3, .slice), (9, qi)], [])]⟩ (low Tryz.prog (fun _ => false) (Tryz.f30.body.getD .skip))
theorem low30 : low Tryz.prog (fun _ => false) (Tryz.f30.body.getD .skip) = some (eC d30) := by kernel_rfl
def R30 (l1 : Bs) (h : PHeap) (Q : Value → PHeap → Prop) : Prop :=
 ∀ (b1 : Nat), h b1 = none → ∀ (h_1 : PHeap), h_1 = h.put b1 (.cells ⟨[vU 34]⟩ 5) →
 ∃ (I_1 : Nat → OA → Nat → Nat → Int → PHeap → Prop), (∃ (m2 : Nat), I_1 m2 (ad b1 0) 1 1 (0 : Int) h_1) ∧
 ∀ (m1 : Nat) (a1 : OA) (n1 : Nat) (ekk1 : Nat) (i1 : Int) (h_2 : PHeap), I_1 m1 a1 n1 ekk1 i1 h_2 →
 br (decide (i1 < (l1.length : Int)))
 (0 ≤ i1 ∧ ∃ (c1 : UInt8), (l1)[(i1).toNat]? = some c1 ∧
 br ((c1.toNat : Int) == 10)
 (∀ (b2 : Nat), h_2 b2 = none → ∀ (h_3 : PHeap), h_3 = h_2.put b2 (.cells ⟨[vU 92, vU 110]⟩ 5) →
 Raw Tryz.prog (execOp (rho [(22, vL a1 n1 ekk1), (23, vL (ad b2 0) 2 2)]) (mkO o30_2 40)) h_3 fun v_1 h_4 =>
 ∃ (a2 : OA) (n2 k2 : Nat), v_1 = vL a2 n2 k2 ∧
 ∃ (m3 : Nat), m3 < m1 ∧ I_1 m3 a2 n2 k2 (IntKind.i64.wrap (i1 + 1)) h_4 ∧
 True)
 (br ((c1.toNat : Int) == 9)
 (∀ (b3 : Nat), h_2 b3 = none → ∀ (h_5 : PHeap), h_5 = h_2.put b3 (.cells ⟨[vU 92, vU 116]⟩ 5) →
 Raw Tryz.prog (execOp (rho [(28, vL a1 n1 ekk1), (29, vL (ad b3 0) 2 2)]) (mkO o30_4 40)) h_5 fun v_2 h_6 =>
 ∃ (a3 : OA) (n3 k3 : Nat), v_2 = vL a3 n3 k3 ∧
 ∃ (m4 : Nat), m4 < m1 ∧ I_1 m4 a3 n3 k3 (IntKind.i64.wrap (i1 + 1)) h_6 ∧
 True)
 (br ((c1.toNat : Int) == 0)
 (∀ (b4 : Nat), h_2 b4 = none → ∀ (h_7 : PHeap), h_7 = h_2.put b4 (.cells ⟨[vU 92, vU 48]⟩ 5) →
 Raw Tryz.prog (execOp (rho [(34, vL a1 n1 ekk1), (35, vL (ad b4 0) 2 2)]) (mkO o30_6 40)) h_7 fun v_3 h_8 =>
 ∃ (a4 : OA) (n4 k4 : Nat), v_3 = vL a4 n4 k4 ∧
 ∃ (m5 : Nat), m5 < m1 ∧ I_1 m5 a4 n4 k4 (IntKind.i64.wrap (i1 + 1)) h_8 ∧
 True)
 (br ((c1.toNat : Int) == 92)
 (∀ (b5 : Nat), h_2 b5 = none → ∀ (h_9 : PHeap), h_9 = h_2.put b5 (.cells ⟨[vU 92, vU (c1.toNat : Int)]⟩ 5) →
 Raw Tryz.prog (execOp (rho [(44, vL a1 n1 ekk1), (46, vL (ad b5 0) 2 2)]) (mkO o30_9 40)) h_9 fun v_4 h_10 =>
 ∃ (a5 : OA) (n5 k5 : Nat), v_4 = vL a5 n5 k5 ∧
 ∃ (m6 : Nat), m6 < m1 ∧ I_1 m6 a5 n5 k5 (IntKind.i64.wrap (i1 + 1)) h_10 ∧
 True)
 (br ((c1.toNat : Int) == 34)
 (∀ (b6 : Nat), h_2 b6 = none → ∀ (h_11 : PHeap), h_11 = h_2.put b6 (.cells ⟨[vU 92, vU (c1.toNat : Int)]⟩ 5) →
 Raw Tryz.prog (execOp (rho [(44, vL a1 n1 ekk1), (46, vL (ad b6 0) 2 2)]) (mkO o30_9 40)) h_11 fun v_5 h_12 =>
 ∃ (a6 : OA) (n6 k6 : Nat), v_5 = vL a6 n6 k6 ∧
 ∃ (m7 : Nat), m7 < m1 ∧ I_1 m7 a6 n6 k6 (IntKind.i64.wrap (i1 + 1)) h_12 ∧
 True)
 (br (decide ((c1.toNat : Int) < 32))
 (0 ≤ (Int.fdiv (c1.toNat : Int) 16) ∧ ∃ (c2 : UInt8), ([48, 49, 50, 51, 52, 53, 54, 55, 56, 57, 97, 98, 99, 100, 101, 102] : List UInt8)[(Int.fdiv (c1.toNat : Int) 16).toNat]? = some c2 ∧
 0 ≤ (IntKind.u8.wrap ((BitVec.ofInt 8 (c1.toNat : Int) &&& BitVec.ofInt 8 15).toNat : Int)) ∧ ∃ (c3 : UInt8), ([48, 49, 50, 51, 52, 53, 54, 55, 56, 57, 97, 98, 99, 100, 101, 102] : List UInt8)[(IntKind.u8.wrap ((BitVec.ofInt 8 (c1.toNat : Int) &&& BitVec.ofInt 8 15).toNat : Int)).toNat]? = some c3 ∧
 ∀ (b7 : Nat), h_2 b7 = none → ∀ (h_13 : PHeap), h_13 = h_2.put b7 (.cells ⟨[vU 92, vU 120, vU (c2.toNat : Int), vU (c3.toNat : Int)]⟩ 5) →
 Raw Tryz.prog (execOp (rho [(55, vL a1 n1 ekk1), (62, vL (ad b7 0) 4 4)]) (mkO o30_14 40)) h_13 fun v_6 h_14 =>
 ∃ (a7 : OA) (n7 k7 : Nat), v_6 = vL a7 n7 k7 ∧
 ∃ (m8 : Nat), m8 < m1 ∧ I_1 m8 a7 n7 k7 (IntKind.i64.wrap (i1 + 1)) h_14 ∧
 True)
 (br (decide ((c1.toNat : Int) > 126))
 (0 ≤ (Int.fdiv (c1.toNat : Int) 16) ∧ ∃ (c4 : UInt8), ([48, 49, 50, 51, 52, 53, 54, 55, 56, 57, 97, 98, 99, 100, 101, 102] : List UInt8)[(Int.fdiv (c1.toNat : Int) 16).toNat]? = some c4 ∧
 0 ≤ (IntKind.u8.wrap ((BitVec.ofInt 8 (c1.toNat : Int) &&& BitVec.ofInt 8 15).toNat : Int)) ∧ ∃ (c5 : UInt8), ([48, 49, 50, 51, 52, 53, 54, 55, 56, 57, 97, 98, 99, 100, 101, 102] : List UInt8)[(IntKind.u8.wrap ((BitVec.ofInt 8 (c1.toNat : Int) &&& BitVec.ofInt 8 15).toNat : Int)).toNat]? = some c5 ∧
 ∀ (b8 : Nat), h_2 b8 = none → ∀ (h_15 : PHeap), h_15 = h_2.put b8 (.cells ⟨[vU 92, vU 120, vU (c4.toNat : Int), vU (c5.toNat : Int)]⟩ 5) →
 Raw Tryz.prog (execOp (rho [(55, vL a1 n1 ekk1), (62, vL (ad b8 0) 4 4)]) (mkO o30_14 40)) h_15 fun v_7 h_16 =>
 ∃ (a8 : OA) (n8 k8 : Nat), v_7 = vL a8 n8 k8 ∧
 ∃ (m9 : Nat), m9 < m1 ∧ I_1 m9 a8 n8 k8 (IntKind.i64.wrap (i1 + 1)) h_16 ∧
 True)
 (∀ (b9 : Nat), h_2 b9 = none → ∀ (h_17 : PHeap), h_17 = h_2.put b9 (.cells ⟨[vU (c1.toNat : Int)]⟩ 5) →
 Raw Tryz.prog (execOp (rho [(15, vL a1 n1 ekk1), (17, vL (ad b9 0) 1 1)]) (mkO o30_15 40)) h_17 fun v_8 h_18 =>
 ∃ (a9 : OA) (n9 k9 : Nat), v_8 = vL a9 n9 k9 ∧
 ∃ (m10 : Nat), m10 < m1 ∧ I_1 m10 a9 n9 k9 (IntKind.i64.wrap (i1 + 1)) h_18 ∧
 True))))))))
 (∀ (b10 : Nat), h_2 b10 = none → ∀ (h_19 : PHeap), h_19 = h_2.put b10 (.cells ⟨[vU 34]⟩ 5) →
 Raw Tryz.prog (execOp (rho [(65, vL a1 n1 ekk1), (66, vL (ad b10 0) 1 1)]) (mkO o30_17 40)) h_19 fun v_9 h_20 =>
 ∃ (a10 : OA) (n10 k10 : Nat), v_9 = vL a10 n10 k10 ∧
 ∃ (l2 : Bs), BytesAt h_20 a10 n10 l2 ∧
 Q (vS l2) h_20)
theorem T30 {l1 : Bs} {h : PHeap} {Q : Value → PHeap → Prop} (hR : R30 l1 h Q) : Tri Tryz.prog 30 [vS l1] h Q :=
 tri_of_dn mixed Tryz.func30 rfl (by kernel_rfl) low30 (rs := [.tmp 2]) (by kernel_rfl) rfl (Eq.mpr (by kernel_rfl : dnF Tryz.prog Tryz.f30.ntmps d30 [.tmp 2] [vS l1] h Q = R30 l1 h Q) hR)
noncomputable def d31 : DCode := up ⟨[], [], [(7, 70, [(4, .str), (5, qi)], [])]⟩ (low Tryz.prog (fun _ => false) (Tryz.f31.body.getD .skip))
theorem low31 : low Tryz.prog (fun _ => false) (Tryz.f31.body.getD .skip) = some (eC d31) := by kernel_rfl
def R31 (l1 : Bs) (h : PHeap) (Q : Value → PHeap → Prop) : Prop :=
 ∃ (I_1 : Nat → Bs → Int → PHeap → Prop), (∃ (m2 : Nat), I_1 m2 [34] (0 : Int) h) ∧
 ∀ (m1 : Nat) (l2 : Bs) (i1 : Int) (h_1 : PHeap), I_1 m1 l2 i1 h_1 →
 br (decide (i1 < (l1.length : Int)))
 (0 ≤ i1 ∧ ∃ (c1 : UInt8), (l1)[(i1).toNat]? = some c1 ∧
 br ((c1.toNat : Int) == 10)
 (l2.length + ([92, 110] : Bs).length ≤ 9223372036854775807 ∧
 ∃ (m3 : Nat), m3 < m1 ∧ I_1 m3 (l2 ++ ([92, 110] : Bs)) (IntKind.i64.wrap (i1 + 1)) h_1 ∧
 True)
 (br ((c1.toNat : Int) == 9)
 (l2.length + ([92, 116] : Bs).length ≤ 9223372036854775807 ∧
 ∃ (m4 : Nat), m4 < m1 ∧ I_1 m4 (l2 ++ ([92, 116] : Bs)) (IntKind.i64.wrap (i1 + 1)) h_1 ∧
 True)
 (br ((c1.toNat : Int) == 0)
 (l2.length + ([92, 48] : Bs).length ≤ 9223372036854775807 ∧
 ∃ (m5 : Nat), m5 < m1 ∧ I_1 m5 (l2 ++ ([92, 48] : Bs)) (IntKind.i64.wrap (i1 + 1)) h_1 ∧
 True)
 (br ((c1.toNat : Int) == 92)
 (l2.length + ([92] : Bs).length ≤ 9223372036854775807 ∧
 ∀ (b1 : Nat), h_1 b1 = none → ∀ (h_2 : PHeap), h_2 = h_1.put b1 (.cells ⟨[vU (c1.toNat : Int)]⟩ 5) →
 ∃ (l3 : Bs), BytesAt h_2 (ad b1 0) 1 l3 ∧
 (l2 ++ ([92] : Bs)).length + l3.length ≤ 9223372036854775807 ∧
 ∃ (m6 : Nat), m6 < m1 ∧ I_1 m6 ((l2 ++ ([92] : Bs)) ++ l3) (IntKind.i64.wrap (i1 + 1)) h_2 ∧
 True)
 (br ((c1.toNat : Int) == 34)
 (l2.length + ([92] : Bs).length ≤ 9223372036854775807 ∧
 ∀ (b2 : Nat), h_1 b2 = none → ∀ (h_3 : PHeap), h_3 = h_1.put b2 (.cells ⟨[vU (c1.toNat : Int)]⟩ 5) →
 ∃ (l4 : Bs), BytesAt h_3 (ad b2 0) 1 l4 ∧
 (l2 ++ ([92] : Bs)).length + l4.length ≤ 9223372036854775807 ∧
 ∃ (m7 : Nat), m7 < m1 ∧ I_1 m7 ((l2 ++ ([92] : Bs)) ++ l4) (IntKind.i64.wrap (i1 + 1)) h_3 ∧
 True)
 (br (decide ((c1.toNat : Int) < 32))
 (l2.length + ([92, 120] : Bs).length ≤ 9223372036854775807 ∧
 (0 ≤ (IntKind.u8.wrap (Int.tdiv (c1.toNat : Int) 16)) ∧ (IntKind.u8.wrap (Int.tdiv (c1.toNat : Int) 16)) ≤ (IntKind.u8.wrap ((IntKind.u8.wrap (Int.tdiv (c1.toNat : Int) 16)) + 1)) ∧ (IntKind.u8.wrap ((IntKind.u8.wrap (Int.tdiv (c1.toNat : Int) 16)) + 1)) ≤ (16 : Int)) ∧
 (l2 ++ ([92, 120] : Bs)).length + ((([48, 49, 50, 51, 52, 53, 54, 55, 56, 57, 97, 98, 99, 100, 101, 102] : Bs).drop (IntKind.u8.wrap (Int.tdiv (c1.toNat : Int) 16)).toNat).take ((IntKind.u8.wrap ((IntKind.u8.wrap (Int.tdiv (c1.toNat : Int) 16)) + 1)).toNat - (IntKind.u8.wrap (Int.tdiv (c1.toNat : Int) 16)).toNat)).length ≤ 9223372036854775807 ∧
 (0 ≤ (Int.tmod (c1.toNat : Int) 16) ∧ (Int.tmod (c1.toNat : Int) 16) ≤ (IntKind.u8.wrap ((Int.tmod (c1.toNat : Int) 16) + 1)) ∧ (IntKind.u8.wrap ((Int.tmod (c1.toNat : Int) 16) + 1)) ≤ (16 : Int)) ∧
 ((l2 ++ ([92, 120] : Bs)) ++ ((([48, 49, 50, 51, 52, 53, 54, 55, 56, 57, 97, 98, 99, 100, 101, 102] : Bs).drop (IntKind.u8.wrap (Int.tdiv (c1.toNat : Int) 16)).toNat).take ((IntKind.u8.wrap ((IntKind.u8.wrap (Int.tdiv (c1.toNat : Int) 16)) + 1)).toNat - (IntKind.u8.wrap (Int.tdiv (c1.toNat : Int) 16)).toNat))).length + ((([48, 49, 50, 51, 52, 53, 54, 55, 56, 57, 97, 98, 99, 100, 101, 102] : Bs).drop (Int.tmod (c1.toNat : Int) 16).toNat).take ((IntKind.u8.wrap ((Int.tmod (c1.toNat : Int) 16) + 1)).toNat - (Int.tmod (c1.toNat : Int) 16).toNat)).length ≤ 9223372036854775807 ∧
 ∃ (m8 : Nat), m8 < m1 ∧ I_1 m8 (((l2 ++ ([92, 120] : Bs)) ++ ((([48, 49, 50, 51, 52, 53, 54, 55, 56, 57, 97, 98, 99, 100, 101, 102] : Bs).drop (IntKind.u8.wrap (Int.tdiv (c1.toNat : Int) 16)).toNat).take ((IntKind.u8.wrap ((IntKind.u8.wrap (Int.tdiv (c1.toNat : Int) 16)) + 1)).toNat - (IntKind.u8.wrap (Int.tdiv (c1.toNat : Int) 16)).toNat))) ++ ((([48, 49, 50, 51, 52, 53, 54, 55, 56, 57, 97, 98, 99, 100, 101, 102] : Bs).drop (Int.tmod (c1.toNat : Int) 16).toNat).take ((IntKind.u8.wrap ((Int.tmod (c1.toNat : Int) 16) + 1)).toNat - (Int.tmod (c1.toNat : Int) 16).toNat))) (IntKind.i64.wrap (i1 + 1)) h_1 ∧
 True)
 (br (decide ((c1.toNat : Int) > 126))
 (l2.length + ([92, 120] : Bs).length ≤ 9223372036854775807 ∧
 (0 ≤ (IntKind.u8.wrap (Int.tdiv (c1.toNat : Int) 16)) ∧ (IntKind.u8.wrap (Int.tdiv (c1.toNat : Int) 16)) ≤ (IntKind.u8.wrap ((IntKind.u8.wrap (Int.tdiv (c1.toNat : Int) 16)) + 1)) ∧ (IntKind.u8.wrap ((IntKind.u8.wrap (Int.tdiv (c1.toNat : Int) 16)) + 1)) ≤ (16 : Int)) ∧
 (l2 ++ ([92, 120] : Bs)).length + ((([48, 49, 50, 51, 52, 53, 54, 55, 56, 57, 97, 98, 99, 100, 101, 102] : Bs).drop (IntKind.u8.wrap (Int.tdiv (c1.toNat : Int) 16)).toNat).take ((IntKind.u8.wrap ((IntKind.u8.wrap (Int.tdiv (c1.toNat : Int) 16)) + 1)).toNat - (IntKind.u8.wrap (Int.tdiv (c1.toNat : Int) 16)).toNat)).length ≤ 9223372036854775807 ∧
 (0 ≤ (Int.tmod (c1.toNat : Int) 16) ∧ (Int.tmod (c1.toNat : Int) 16) ≤ (IntKind.u8.wrap ((Int.tmod (c1.toNat : Int) 16) + 1)) ∧ (IntKind.u8.wrap ((Int.tmod (c1.toNat : Int) 16) + 1)) ≤ (16 : Int)) ∧
 ((l2 ++ ([92, 120] : Bs)) ++ ((([48, 49, 50, 51, 52, 53, 54, 55, 56, 57, 97, 98, 99, 100, 101, 102] : Bs).drop (IntKind.u8.wrap (Int.tdiv (c1.toNat : Int) 16)).toNat).take ((IntKind.u8.wrap ((IntKind.u8.wrap (Int.tdiv (c1.toNat : Int) 16)) + 1)).toNat - (IntKind.u8.wrap (Int.tdiv (c1.toNat : Int) 16)).toNat))).length + ((([48, 49, 50, 51, 52, 53, 54, 55, 56, 57, 97, 98, 99, 100, 101, 102] : Bs).drop (Int.tmod (c1.toNat : Int) 16).toNat).take ((IntKind.u8.wrap ((Int.tmod (c1.toNat : Int) 16) + 1)).toNat - (Int.tmod (c1.toNat : Int) 16).toNat)).length ≤ 9223372036854775807 ∧
 ∃ (m9 : Nat), m9 < m1 ∧ I_1 m9 (((l2 ++ ([92, 120] : Bs)) ++ ((([48, 49, 50, 51, 52, 53, 54, 55, 56, 57, 97, 98, 99, 100, 101, 102] : Bs).drop (IntKind.u8.wrap (Int.tdiv (c1.toNat : Int) 16)).toNat).take ((IntKind.u8.wrap ((IntKind.u8.wrap (Int.tdiv (c1.toNat : Int) 16)) + 1)).toNat - (IntKind.u8.wrap (Int.tdiv (c1.toNat : Int) 16)).toNat))) ++ ((([48, 49, 50, 51, 52, 53, 54, 55, 56, 57, 97, 98, 99, 100, 101, 102] : Bs).drop (Int.tmod (c1.toNat : Int) 16).toNat).take ((IntKind.u8.wrap ((Int.tmod (c1.toNat : Int) 16) + 1)).toNat - (Int.tmod (c1.toNat : Int) 16).toNat))) (IntKind.i64.wrap (i1 + 1)) h_1 ∧
 True)
 (∀ (b3 : Nat), h_1 b3 = none → ∀ (h_4 : PHeap), h_4 = h_1.put b3 (.cells ⟨[vU (c1.toNat : Int)]⟩ 5) →
 ∃ (l5 : Bs), BytesAt h_4 (ad b3 0) 1 l5 ∧
 l2.length + l5.length ≤ 9223372036854775807 ∧
 ∃ (m10 : Nat), m10 < m1 ∧ I_1 m10 (l2 ++ l5) (IntKind.i64.wrap (i1 + 1)) h_4 ∧
 True))))))))
 (l2.length + ([34] : Bs).length ≤ 9223372036854775807 ∧
 Q (vS (l2 ++ ([34] : Bs))) h_1)
theorem T31 {l1 : Bs} {h : PHeap} {Q : Value → PHeap → Prop} (hR : R31 l1 h Q) : Tri Tryz.prog 31 [vS l1] h Q :=
 tri_of_dn mixed Tryz.func31 rfl (by kernel_rfl) low31 (rs := [.tmp 2]) (by kernel_rfl) rfl (Eq.mpr (by kernel_rfl : dnF Tryz.prog Tryz.f31.ntmps d31 [.tmp 2] [vS l1] h Q = R31 l1 h Q) hR)
abbrev o9_0 : Op := .call { callee := (.builtin .min), args := #[(.tmp 9), (.const (vI 300))], argTypes := #[3, 3] }
noncomputable def d9 : DCode := up ⟨[(10, .c (.one false [qi])), (13, .c (.one false [.str])), (17, .c (.tup [(true, ekk1), (false, [qi]), (false, [qi])])), (21, .c (.one false [.bool])), (25, .c (.one false [.str])), (34, .l [.str])], [], []⟩ (low Tryz.prog (fun _ => false) (Tryz.f9.body.getD .skip))
theorem low9 : low Tryz.prog (fun _ => false) (Tryz.f9.body.getD .skip) = some (eC d9) := by kernel_rfl
def R9 (l1 : Bs) (h : PHeap) (Q : Value → PHeap → Prop) : Prop :=
 ∃ (i1 : Int), PureRun Tryz.prog (execOp (rho [(9, vI (l1.length : Int))]) (mkO o9_0 3)) (vI i1) ∧
 (0 ≤ (0 : Int) ∧ (0 : Int) ≤ i1 ∧ i1 ≤ (l1.length : Int)) ∧
 Tri Tryz.prog 30 [vS ((l1.drop 0).take ((i1).toNat - 0))] h fun v_1 h_1 =>
 ∃ (l2 : Bs), v_1 = vS l2 ∧
 ([104, 97, 108, 116, 10, 46, 100, 97, 116, 97, 10, 46, 116, 101, 120, 116, 32] : Bs).length + l2.length ≤ 9223372036854775807 ∧
 Tri Tryz.prog 13 [vS (([104, 97, 108, 116, 10, 46, 100, 97, 116, 97, 10, 46, 116, 101, 120, 116, 32] : Bs) ++ l2)] h_1 fun v_2 h_2 =>
 ∃ (a1 : OA) (n1 ekk1 : Nat) (l3 : Bs) (i2 i3 : Int) (a2 : OA) (n2 k2 : Nat) (i4 i5 : Int), v_2 = vT [vA [vL a1 n1 ekk1, vS l3, vI i2, vI i3, vL a2 n2 k2], vI i4, vI i5] ∧
 Tri Tryz.prog 15 [] h_2 fun v_3 h_3 =>
 ∃ (c1 : Bool), v_3 = vB c1 ∧
 br c1
 (Tri Tryz.prog 31 [vS ((l1.drop 0).take ((i1).toNat - 0))] h_3 fun v_4 h_4 =>
 ∃ (l4 : Bs), v_4 = vS l4 ∧
 br (l2 == l4)
 (br (i5 == 0)
 (Q (vB (l3 == ((l1.drop 0).take ((i1).toNat - 0)))) h_4)
 (Q (vB false) h_4))
 (Q (vB false) h_4))
 (Q (vB false) h_3)
theorem T9 {l1 : Bs} {h : PHeap} {Q : Value → PHeap → Prop} (hR : R9 l1 h Q) : Tri Tryz.prog 9 [vS l1] h Q :=
 tri_of_dn mixed Tryz.func9 rfl (by kernel_rfl) low9 (rs := [.tmp 2]) (by kernel_rfl) rfl (Eq.mpr (by kernel_rfl : dnF Tryz.prog Tryz.f9.ntmps d9 [.tmp 2] [vS l1] h Q = R9 l1 h Q) hR)
end Go.Proofs.D
namespace Go.Proofs.D
open Go Go.Den Go.As
set_option maxRecDepth 100000
def hexS : Bytes := [48, 49, 50, 51, 52, 53, 54, 55, 56, 57, 97, 98, 99, 100, 101, 102]
theorem quote_tab : ∀ n : Fin 256, hexS[(Int.fdiv ((n.val : Nat) : Int) 16).toNat]? = some (hexD (n.val / 16)) ∧ hexS[(IntKind.u8.wrap ((BitVec.ofInt 8 ((n.val : Nat) : Int) &&& BitVec.ofInt 8 15).toNat : Int)).toNat]? = some (hexD (n.val % 16)) ∧
 0 ≤ Int.fdiv ((n.val : Nat) : Int) 16 ∧ 0 ≤ IntKind.u8.wrap ((BitVec.ofInt 8 ((n.val : Nat) : Int) &&& BitVec.ofInt 8 15).toNat : Int) := by decide +kernel
theorem quote_at (c : UInt8) : hexS[(Int.fdiv (c.toNat : Int) 16).toNat]? = some (hexD (c.toNat / 16)) ∧ hexS[(IntKind.u8.wrap ((BitVec.ofInt 8 (c.toNat : Int) &&& BitVec.ofInt 8 15).toNat : Int)).toNat]? = some (hexD (c.toNat % 16)) ∧
 0 ≤ Int.fdiv (c.toNat : Int) 16 ∧ 0 ≤ IntKind.u8.wrap ((BitVec.ofInt 8 (c.toNat : Int) &&& BitVec.ofInt 8 15).toNat : Int) := quote_tab ⟨c.toNat, c.toNat_lt⟩
theorem rquote_tab : ∀ n : Fin 256,
 (hexS.drop (IntKind.u8.wrap (Int.tdiv ((n.val : Nat) : Int) 16)).toNat).take ((IntKind.u8.wrap ((IntKind.u8.wrap (Int.tdiv ((n.val : Nat) : Int) 16)) + 1)).toNat - (IntKind.u8.wrap (Int.tdiv ((n.val : Nat) : Int) 16)).toNat) = [hexD (n.val / 16)] ∧
 (hexS.drop (Int.tmod ((n.val : Nat) : Int) 16).toNat).take ((IntKind.u8.wrap ((Int.tmod ((n.val : Nat) : Int) 16) + 1)).toNat - (Int.tmod ((n.val : Nat) : Int) 16).toNat) = [hexD (n.val % 16)] ∧
 (0 ≤ (IntKind.u8.wrap (Int.tdiv ((n.val : Nat) : Int) 16)) ∧ (IntKind.u8.wrap (Int.tdiv ((n.val : Nat) : Int) 16)) ≤ (IntKind.u8.wrap ((IntKind.u8.wrap (Int.tdiv ((n.val : Nat) : Int) 16)) + 1)) ∧ (IntKind.u8.wrap ((IntKind.u8.wrap (Int.tdiv ((n.val : Nat) : Int) 16)) + 1)) ≤ (16 : Int)) ∧
 (0 ≤ (Int.tmod ((n.val : Nat) : Int) 16) ∧ (Int.tmod ((n.val : Nat) : Int) 16) ≤ (IntKind.u8.wrap ((Int.tmod ((n.val : Nat) : Int) 16) + 1)) ∧ (IntKind.u8.wrap ((Int.tmod ((n.val : Nat) : Int) 16) + 1)) ≤ (16 : Int)) := by decide +kernel
theorem rquote_at (c : UInt8) :
 (hexS.drop (IntKind.u8.wrap (Int.tdiv (c.toNat : Int) 16)).toNat).take ((IntKind.u8.wrap ((IntKind.u8.wrap (Int.tdiv (c.toNat : Int) 16)) + 1)).toNat - (IntKind.u8.wrap (Int.tdiv (c.toNat : Int) 16)).toNat) = [hexD (c.toNat / 16)] ∧
 (hexS.drop (Int.tmod (c.toNat : Int) 16).toNat).take ((IntKind.u8.wrap ((Int.tmod (c.toNat : Int) 16) + 1)).toNat - (Int.tmod (c.toNat : Int) 16).toNat) = [hexD (c.toNat % 16)] ∧
 (0 ≤ (IntKind.u8.wrap (Int.tdiv (c.toNat : Int) 16)) ∧ (IntKind.u8.wrap (Int.tdiv (c.toNat : Int) 16)) ≤ (IntKind.u8.wrap ((IntKind.u8.wrap (Int.tdiv (c.toNat : Int) 16)) + 1)) ∧ (IntKind.u8.wrap ((IntKind.u8.wrap (Int.tdiv (c.toNat : Int) 16)) + 1)) ≤ (16 : Int)) ∧
 (0 ≤ (Int.tmod (c.toNat : Int) 16) ∧ (Int.tmod (c.toNat : Int) 16) ≤ (IntKind.u8.wrap ((Int.tmod (c.toNat : Int) 16) + 1)) ∧ (IntKind.u8.wrap ((Int.tmod (c.toNat : Int) 16) + 1)) ≤ (16 : Int)) := rquote_tab ⟨c.toNat, c.toNat_lt⟩
attribute [local irreducible] IntKind.wrap Tri
theorem one_bytes : ∀ w : Bytes, allOne (w.map byteV) = true
 | [] => rfl
 | c :: w => by
   have := one_bytes w
   simp only [List.map_cons, allOne, this, Bool.and_true]; rfl
theorem und40' : Tryz.prog.underlying 40 = some (.slice 5) := rfl
theorem elem5' : ElemT 5 1 := ⟨_, _, rfl, rfl, rfl, rfl, by decide⟩
theorem LM.pushB {h0 h h' : PHeap} {a : OA} {n c cc b2 : Nat} {L w : Bytes} {ty : TypeId} {ρ : Operand → Value} {cl : Call} {x y : Operand} (hcl : cl.callee = .builtin .append) (hca : cl.args = #[x, y]) (hts : cl.argTypes = #[40, 40])
 (hx : ρ x = vL a n c) (hy : ρ y = vL (ad b2 0) w.length cc) (hx0 : Ext h0 h) (hL : LM 5 1 h0 h a n c (bL L)) (hb2 : h b2 = none) (hh : h' = h.put b2 (.cells ⟨w.map byteV⟩ 5 (0, 0))) (hw : 0 < w.length) (hn : n + w.length ≤ 10000000) :
 Raw Tryz.prog (execOp ρ (mkO (.call cl) ty)) h' fun v h2 => ∃ b cap, v = vL (ad b 0) (n + w.length) cap ∧ Ext h0 h2 ∧ LM 5 1 h0 h2 (ad b 0) (n + w.length) cap (bL (L ++ w)) := by
 have hL' := hL.ext (Put.ext hh hb2)
 have hx' := hx0.trans (Put.ext hh hb2)
 refine Raw.mono (LM.extend und40' elem5' hcl hca hts hx hy hx' hL' (css2 := bL w) (m := w.length) ?_ (by simp [bL]) (fun c hc => by obtain ⟨x, _, rfl⟩ := List.mem_map.1 hc; rfl) hw hn) ?_
 · rw [bL_flat]
   exact SrcH.row und40' (by simp) (row_lit (Put.at hh) fun j v hj => by simpa using hj) (one_bytes w)
 · rintro v h2 ⟨b, cap, rfl, g1, g2, _⟩
   exact ⟨b, cap, rfl, g1, by rw [bL_app]; exact g2⟩
theorem qcs_app : ∀ (a b : Bytes), qcs (a ++ b) = qcs a ++ qcs b
 | [], _ => rfl
 | c :: a, b => by rw [List.cons_append, qcs, qcs, qcs_app a b, List.append_assoc]
theorem qc_le (c : UInt8) : (qc c).length ≤ 4 := qc_len4 c
section
variable {h : PHeap}
theorem quote_t (s : Bytes) (hl : s.length ≤ 1000000) : Tri Tryz.prog 30 [vS s] h fun v h' => v = vS (quoteA s) ∧ Ext h h' := by
 refine T30 ?_
 unfold R30
 intro b1 hb1 h1 hh1
 have hM1 : LM 5 1 h h1 (ad b1 0) 1 1 (bL [34]) := by
  have := LM.after (e := 5) (k := 1) (h0 := h) (h := h) (a := none) (n := 0) (c := 0) (css := []) (b := b1) (m := 1) (cap := 1) (rest := []) (css2 := bL [34]) (z := (0, 0)) (fun _ h => h) LM.nil rfl (fun c hc => by obtain ⟨x, _, rfl⟩ := List.mem_map.1 hc; rfl) (by omega) (.inl hb1) rfl rfl (by omega)
  rw [hh1]; exact this
 refine ⟨fun m a n k i h' => ∃ j : Nat, i = (j : Int) ∧ j + m = s.length ∧ n = 1 + (qcs (s.take j)).length ∧ Ext h h' ∧ LM 5 1 h h' a n k (bL (34 :: qcs (s.take j))), ⟨s.length, 0, rfl, by omega, rfl, Put.ext hh1 hb1, hM1⟩, ?_⟩
 rintro m a n k _ h2 ⟨j, rfl, hjm, hnl, hx, hM⟩
 have hq4 : (qcs (s.take j)).length ≤ 4 * j := by
  have := qcs_len4 (s.take j)
  rw [List.length_take] at this; omega
 refine br_split (fun e => ?_) fun e => ?_
 · have hlt : j < s.length := by have := of_decide_eq_true e; omega
   have hg : s[j]? = some s[j] := by simp [hlt]
   have htk := List.take_append_getElem hlt
   generalize s[j] = c at *
   have hsn : qcs (s.take (j + 1)) = qcs (s.take j) ++ qc c := by rw [← htk, qcs_app]; simp [qcs]
   have hw1 : IntKind.i64.wrap ((j : Int) + 1) = ((j + 1 : Nat) : Int) := by rw [wrap64 (by omega) (by omega)]; omega
   have go : ∀ (w : Bytes) (b2 cc : Nat) (h3 : PHeap) (ρ : Operand → Value) (cl : Call) (x y : Operand), qc c = w → cl.callee = .builtin .append → cl.args = #[x, y] → cl.argTypes = #[40, 40] → ρ x = vL a n k → ρ y = vL (ad b2 0) w.length cc → h2 b2 = none → h3 = h2.put b2 (.cells ⟨w.map byteV⟩ 5 (0, 0)) →
    Raw Tryz.prog (execOp ρ (mkO (.call cl) 40)) h3 fun v h4 => ∃ (a2 : OA) (n2 k2 : Nat), v = vL a2 n2 k2 ∧ ∃ (m3 : Nat), m3 < m ∧ (∃ j' : Nat, IntKind.i64.wrap ((j : Int) + 1) = (j' : Int) ∧ j' + m3 = s.length ∧ n2 = 1 + (qcs (s.take j')).length ∧ Ext h h4 ∧ LM 5 1 h h4 a2 n2 k2 (bL (34 :: qcs (s.take j')))) ∧ True := by
    intro w b2 cc h3 ρ cl x y hw g1 g2 g3 g4 g5 g6 g7
    have h1 : 1 ≤ w.length := by rw [← hw]; exact qc_len c
    have h4 : w.length ≤ 4 := by rw [← hw]; exact qc_le c
    refine Raw.mono (LM.pushB g1 g2 g3 g4 g5 hx hM g6 g7 (by omega) (by omega)) ?_
    rintro v h4 ⟨b, cap, rfl, x4, hM4⟩
    refine ⟨_, _, _, rfl, m - 1, by omega, ⟨j + 1, hw1, by omega, ?_, x4, ?_⟩, trivial⟩
    · rw [hsn, hw, List.length_append]; omega
    · rw [hsn, hw]; exact hM4
   refine ⟨by omega, c, (by rw [Int.toNat_natCast]; exact hg), ?_⟩
   have k10 : ∀ n : Nat, n < 256 → ∀ b, (((c.toNat : Int) == (n : Int)) = b) → (c == UInt8.ofNat n) = b := fun n hn b hb => by
    rw [← hb, Bool.eq_iff_iff, beq_iff_eq, beq_iff_eq]
    constructor
    · rintro rfl; rw [UInt8.toNat_ofNat_of_lt' (by simpa using hn)]
    · intro h
      apply UInt8.toNat_inj.1
      rw [UInt8.toNat_ofNat_of_lt' (by simpa using hn)]; omega
   refine br_split (fun e1 => ?_) fun e1 => br_split (fun e2 => ?_) fun e2 => br_split (fun e3 => ?_) fun e3 => br_split (fun e4 => ?_) fun e4 => br_split (fun e5 => ?_) fun e5 => br_split (fun e6 => ?_) fun e6 => br_split (fun e7 => ?_) fun e7 => ?_
   all_goals have e1 : (c == 10) = _ := k10 10 (by omega) _ e1
   · intro b2 hb2 h3 hh3
     exact go [92, 110] b2 2 h3 _ _ _ _ (by unfold qc; rw [if_pos e1]) rfl rfl rfl rfl rfl hb2 hh3
   all_goals have e2 : (c == 9) = _ := k10 9 (by omega) _ e2
   · intro b2 hb2 h3 hh3
     exact go [92, 116] b2 2 h3 _ _ _ _ (by unfold qc; rw [if_neg (by rw [e1]; decide), if_pos e2]) rfl rfl rfl rfl rfl hb2 hh3
   all_goals have e3 : (c == 0) = _ := k10 0 (by omega) _ e3
   · intro b2 hb2 h3 hh3
     exact go [92, 48] b2 2 h3 _ _ _ _ (by unfold qc; rw [if_neg (by rw [e1]; decide), if_neg (by rw [e2]; decide), if_pos e3]) rfl rfl rfl rfl rfl hb2 hh3
   all_goals have e4 : (c == 92) = _ := k10 92 (by omega) _ e4
   · intro b2 hb2 h3 hh3
     exact go [92, c] b2 2 h3 _ _ _ _ (by unfold qc; rw [if_neg (by rw [e1]; decide), if_neg (by rw [e2]; decide), if_neg (by rw [e3]; decide), if_pos (by rw [show (c == 92) = true from e4]; rfl)]) rfl rfl rfl rfl rfl hb2 hh3
   all_goals have e5 : (c == 34) = _ := k10 34 (by omega) _ e5
   · intro b2 hb2 h3 hh3
     exact go [92, c] b2 2 h3 _ _ _ _ (by unfold qc; rw [if_neg (by rw [e1]; decide), if_neg (by rw [e2]; decide), if_neg (by rw [e3]; decide), if_pos (by rw [show (c == 34) = true from e5]; simp)]) rfl rfl rfl rfl rfl hb2 hh3
   all_goals have hq : qc c = if decide (c.toNat < 32) || decide (126 < c.toNat) then [92, 120, hexD (c.toNat / 16), hexD (c.toNat % 16)] else [c] := (by unfold qc; rw [if_neg (by rw [e1]; decide), if_neg (by rw [e2]; decide), if_neg (by rw [e3]; decide), if_neg (by rw [show (c == 92) = false from e4, show (c == 34) = false from e5]; decide)])
   · have e6 := of_decide_eq_true e6
     obtain ⟨t1, t2, t3, t4⟩ := quote_at c
     refine ⟨t3, _, t1, t4, _, t2, ?_⟩
     intro b2 hb2 h3 hh3
     exact go [92, 120, hexD (c.toNat / 16), hexD (c.toNat % 16)] b2 4 h3 _ _ _ _ (by rw [hq, if_pos (by simp; omega)]) rfl rfl rfl rfl rfl hb2 hh3
   · have e7 := of_decide_eq_true e7
     obtain ⟨t1, t2, t3, t4⟩ := quote_at c
     refine ⟨t3, _, t1, t4, _, t2, ?_⟩
     intro b2 hb2 h3 hh3
     exact go [92, 120, hexD (c.toNat / 16), hexD (c.toNat % 16)] b2 4 h3 _ _ _ _ (by rw [hq, if_pos (by simp; omega)]) rfl rfl rfl rfl rfl hb2 hh3
   · have e6 := of_decide_eq_false e6
     have e7 := of_decide_eq_false e7
     intro b2 hb2 h3 hh3
     exact go [c] b2 1 h3 _ _ _ _ (by rw [hq, if_neg (by simp; omega)]) rfl rfl rfl rfl rfl hb2 hh3
 · have hj : j = s.length := by have := of_decide_eq_false e; omega
   subst hj
   rw [List.take_length] at hM hnl hq4
   intro b2 hb2 h3 hh3
   refine Raw.mono (LM.pushB (w := [34]) (cc := 1) rfl rfl rfl rfl rfl hx hM hb2 hh3 (by decide) (by simp only [List.length_cons, List.length_nil]; omega)) ?_
   rintro v h4 ⟨b, cap, rfl, x4, hM4⟩
   exact ⟨_, _, _, rfl, _, hM4.bytes, rfl, x4⟩
theorem rquote_t (s : Bytes) (hl : s.length ≤ 1000000) : Tri Tryz.prog 31 [vS s] h fun v h' => v = vS (quoteA s) ∧ Ext h h' := by
 refine T31 ?_
 unfold R31
 refine ⟨fun m l i h' => ∃ j : Nat, i = (j : Int) ∧ j + m = s.length ∧ Ext h h' ∧ l = 34 :: qcs (s.take j), ⟨s.length, 0, rfl, by omega, Ext.refl _, rfl⟩, ?_⟩
 rintro m _ _ h2 ⟨j, rfl, hjm, hx, rfl⟩
 have hq4 : (34 :: qcs (s.take j)).length ≤ 4 * j + 1 := by
  have := qcs_len4 (s.take j)
  rw [List.length_take] at this; simp only [List.length_cons]; omega
 refine br_split (fun e => ?_) fun e => ?_
 · have hlt : j < s.length := by have := of_decide_eq_true e; omega
   have hg : s[j]? = some s[j] := by simp [hlt]
   have htk := List.take_append_getElem hlt
   generalize s[j] = c at *
   have hsn : qcs (s.take (j + 1)) = qcs (s.take j) ++ qc c := by rw [← htk, qcs_app]; simp [qcs]
   have hw1 : IntKind.i64.wrap ((j : Int) + 1) = ((j + 1 : Nat) : Int) := by rw [wrap64 (by omega) (by omega)]; omega
   have go : ∀ (l : Bytes) (h3 : PHeap), l = (34 :: qcs (s.take j)) ++ qc c → Ext h2 h3 → ∃ (m3 : Nat), m3 < m ∧ (∃ j' : Nat, IntKind.i64.wrap ((j : Int) + 1) = (j' : Int) ∧ j' + m3 = s.length ∧ Ext h h3 ∧ l = 34 :: qcs (s.take j')) ∧ True := fun l h3 hl2 x3 =>
    ⟨m - 1, by omega, ⟨j + 1, hw1, by omega, hx.trans x3, by rw [hl2, hsn]; rfl⟩, trivial⟩
   refine ⟨by omega, c, (by rw [Int.toNat_natCast]; exact hg), ?_⟩
   have k10 : ∀ n : Nat, n < 256 → ∀ b, (((c.toNat : Int) == (n : Int)) = b) → (c == UInt8.ofNat n) = b := fun n hn b hb => by
    rw [← hb, Bool.eq_iff_iff, beq_iff_eq, beq_iff_eq]
    constructor
    · rintro rfl; rw [UInt8.toNat_ofNat_of_lt' (by simpa using hn)]
    · intro h
      apply UInt8.toNat_inj.1
      rw [UInt8.toNat_ofNat_of_lt' (by simpa using hn)]; omega
   have box : ∀ {b : Nat} {h3 : PHeap}, h3 = h2.put b (.cells ⟨[vU (c.toNat : Int)]⟩ 5) → BytesAt h3 (ad b 0) 1 [c] := fun {b h3} hh =>
    .inr ⟨b, 0, rfl, rfl, by subst hh; exact (cell_of (put_same _ _ _) 0).trans rfl⟩
   refine br_split (fun e1 => ?_) fun e1 => br_split (fun e2 => ?_) fun e2 => br_split (fun e3 => ?_) fun e3 => br_split (fun e4 => ?_) fun e4 => br_split (fun e5 => ?_) fun e5 => br_split (fun e6 => ?_) fun e6 => br_split (fun e7 => ?_) fun e7 => ?_
   all_goals have e1 : (c == 10) = _ := k10 10 (by omega) _ e1
   · exact ⟨by simp only [List.length_cons, List.length_nil] at *; omega, go _ h2 (by unfold qc; rw [if_pos e1]) (Ext.refl _)⟩
   all_goals have e2 : (c == 9) = _ := k10 9 (by omega) _ e2
   · exact ⟨by simp only [List.length_cons, List.length_nil] at *; omega, go _ h2 (by unfold qc; rw [if_neg (by rw [e1]; decide), if_pos e2]) (Ext.refl _)⟩
   all_goals have e3 : (c == 0) = _ := k10 0 (by omega) _ e3
   · exact ⟨by simp only [List.length_cons, List.length_nil] at *; omega, go _ h2 (by unfold qc; rw [if_neg (by rw [e1]; decide), if_neg (by rw [e2]; decide), if_pos e3]) (Ext.refl _)⟩
   all_goals have e4 : (c == 92) = _ := k10 92 (by omega) _ e4
   · refine ⟨by simp only [List.length_cons, List.length_nil] at *; omega, ?_⟩
     intro b2 hb2 h3 hh3
     refine ⟨[c], box hh3, by simp only [List.length_append, List.length_cons, List.length_nil] at *; omega, go _ h3 (by unfold qc; rw [if_neg (by rw [e1]; decide), if_neg (by rw [e2]; decide), if_neg (by rw [e3]; decide), if_pos (by rw [show (c == 92) = true from e4]; rfl), List.append_assoc]; rfl) (Put.ext hh3 hb2)⟩
   all_goals have e5 : (c == 34) = _ := k10 34 (by omega) _ e5
   · refine ⟨by simp only [List.length_cons, List.length_nil] at *; omega, ?_⟩
     intro b2 hb2 h3 hh3
     refine ⟨[c], box hh3, by simp only [List.length_append, List.length_cons, List.length_nil] at *; omega, go _ h3 (by unfold qc; rw [if_neg (by rw [e1]; decide), if_neg (by rw [e2]; decide), if_neg (by rw [e3]; decide), if_pos (by rw [show (c == 34) = true from e5]; simp), List.append_assoc]; rfl) (Put.ext hh3 hb2)⟩
   all_goals have hq : qc c = if decide (c.toNat < 32) || decide (126 < c.toNat) then [92, 120, hexD (c.toNat / 16), hexD (c.toNat % 16)] else [c] := (by unfold qc; rw [if_neg (by rw [e1]; decide), if_neg (by rw [e2]; decide), if_neg (by rw [e3]; decide), if_neg (by rw [show (c == 92) = false from e4, show (c == 34) = false from e5]; decide)])
   all_goals obtain ⟨t1, t2, t3, t4⟩ := rquote_at c
   all_goals unfold hexS at t1 t2
   · have e6 := of_decide_eq_true e6
     rw [t1, t2]
     refine ⟨by simp only [List.length_cons, List.length_nil] at *; omega, t3, by simp only [List.length_append, List.length_cons, List.length_nil] at *; omega, t4, by simp only [List.length_append, List.length_cons, List.length_nil] at *; omega, go _ h2 ?_ (Ext.refl _)⟩
     rw [hq, if_pos (by simp; omega), List.append_assoc, List.append_assoc]; rfl
   · have e7 := of_decide_eq_true e7
     rw [t1, t2]
     refine ⟨by simp only [List.length_cons, List.length_nil] at *; omega, t3, by simp only [List.length_append, List.length_cons, List.length_nil] at *; omega, t4, by simp only [List.length_append, List.length_cons, List.length_nil] at *; omega, go _ h2 ?_ (Ext.refl _)⟩
     rw [hq, if_pos (by simp; omega), List.append_assoc, List.append_assoc]; rfl
   · have e6 := of_decide_eq_false e6
     have e7 := of_decide_eq_false e7
     intro b2 hb2 h3 hh3
     exact ⟨[c], box hh3, by simp only [List.length_append, List.length_cons, List.length_nil] at *; omega, go _ h3 (by rw [hq, if_neg (by simp; omega)]) (Put.ext hh3 hb2)⟩
 · have hj : j = s.length := by have := of_decide_eq_false e; omega
   subst hj
   rw [List.take_length] at *
   exact ⟨by simp only [List.length_cons, List.length_nil] at *; omega, rfl, hx⟩
end
theorem quotes_tri {h : PHeap} (hO : OpTab h) (hM : MaxLen h) (l1 : Bs) : Tri Tryz.prog 9 [vS l1] h fun v h' => v = vB true ∧ ∀ k o, h k = some o → h' k = some o := by
 refine T9 ?_
 unfold R9
 refine ⟨if 300 < (l1.length : Int) then 300 else (l1.length : Int), pureVal_run _ (by kernel_rfl), by split <;> omega, ?_⟩
 have hcut : (l1.drop 0).take ((if 300 < (l1.length : Int) then 300 else (l1.length : Int)).toNat - 0) = l1.take 300 := by
  rw [List.drop_zero, Nat.sub_zero]
  split
  · rfl
  · rw [Int.toNat_natCast, List.take_length, List.take_of_length_le (by omega)]
 rw [hcut]
 have hb : (l1.take 300).length ≤ 300 := by rw [List.length_take]; omega
 generalize l1.take 300 = s at *
 refine Tri.mono (quote_t s (by omega)) ?_
 rintro _ h1 ⟨rfl, x1⟩
 have hql : (quoteA s).length ≤ 1202 := by
  have := qcs_len4 s
  unfold quoteA; simp only [List.length_cons, List.length_append, List.length_nil]; omega
 refine ⟨_, rfl, by simp only [List.length_cons, List.length_nil]; omega, ?_⟩
 refine Tri.mono (asm_t (qText s) (hO.ext x1) (hM.ext x1)) ?_
 rintro v h2 ⟨x2, hr⟩
 rw [quote_back hb] at hr
 obtain ⟨a1, k1, a2, k2, rfl, hI, hL, _, _⟩ := hr
 have x12 := x1.trans x2
 refine ⟨_, _, _, _, _, _, _, _, _, _, _, rfl, ?_⟩
 refine Tri.mono (known_t (hO.ext x12) (hM.ext x12)) ?_
 rintro _ h3 ⟨rfl, x3⟩
 refine ⟨_, rfl, br_pos rfl ?_⟩
 refine Tri.mono (rquote_t s (by omega)) ?_
 rintro _ h4 ⟨rfl, x4⟩
 exact ⟨_, rfl, br_pos (by simp) (br_pos rfl ⟨by simp, (x12.trans x3).trans x4⟩)⟩
end Go.Proofs.D
namespace Go.Proofs.D
open Go Go.Den
set_option maxRecDepth 100000
set_option maxHeartbeats 4000000
abbrev eqk1 : List CK := [.slice, .str, qi, qi, .slice]
abbrev eqk2 : List CK := [qi, qi, qi, qi]
abbrev o105_0 : Op := .call { callee := (.builtin .append), args := #[(.tmp 12), (.tmp 13)], argTypes := #[40, 9] }
noncomputable def d105 : DCode := up ⟨[(7, .c (.tup [])), (12, .l [.slice]), (14, .c (.one false [.slice]))], [16], []⟩ (low Tryz.prog (fun _ => false) (Tryz.f105.body.getD .skip))
theorem low105 : low Tryz.prog (fun _ => false) (Tryz.f105.body.getD .skip) = some (eC d105) := by kernel_rfl
def R105 (p1 : Nat) (o1 : Nat) (l1 : Bs) (h : PHeap) (Q : Value → PHeap → Prop) : Prop :=
 Tri Tryz.prog 139 [vP p1 o1] h fun v_1 h_1 =>
 v_1 = vT [] ∧
 ∃ (a1 : OA) (n1 eqk1 : Nat), h_1.cell p1 (o1 + 1) = some (vL a1 n1 eqk1) ∧
 Raw Tryz.prog (execOp (rho [(12, vL a1 n1 eqk1), (13, vS l1)]) (mkO o105_0 40)) h_1 fun v_2 h_2 =>
 ∃ (a2 : OA) (n2 eqk2 : Nat), v_2 = vL a2 n2 eqk2 ∧
 ∃ (l2 : List Value) (t1 : TypeId) (z1 : Nat × Nat), h_2 p1 = some (.cells ⟨l2⟩ t1 z1) ∧ ((o1 + 1) + 1 ≤ l2.length ∧ z1.2 ≤ (o1 + 1)) ∧
 ∀ (h_3 : PHeap), h_3 = h_2.put p1 (.cells ⟨splice l2 (o1 + 1) [vL a2 n2 eqk2]⟩ t1 z1) →
 Q (vT [vI (l1.length : Int), .nilIface]) h_3
theorem T105 {p1 : Nat} {o1 : Nat} {l1 : Bs} {h : PHeap} {Q : Value → PHeap → Prop} (hR : R105 p1 o1 l1 h Q) : Tri Tryz.prog 105 [vP p1 o1, vS l1] h Q :=
 tri_of_dn mixed Tryz.func105 rfl (by kernel_rfl) low105 (rs := [.tmp 4, .tmp 5]) (by kernel_rfl) rfl (Eq.mpr (by kernel_rfl : dnF Tryz.prog Tryz.f105.ntmps d105 [.tmp 4, .tmp 5] [vP p1 o1, vS l1] h Q = R105 p1 o1 l1 h Q) hR)
abbrev o108_0 : Op := .call { callee := (.builtin .append), args := #[(.tmp 11), (.tmp 13)], argTypes := #[40, 40] }
noncomputable def d108 : DCode := up ⟨[(6, .c (.tup [])), (11, .l [.slice]), (14, .c (.one false [.slice]))], [16], []⟩ (low Tryz.prog (fun _ => false) (Tryz.f108.body.getD .skip))
theorem low108 : low Tryz.prog (fun _ => false) (Tryz.f108.body.getD .skip) = some (eC d108) := by kernel_rfl
def R108 (p1 : Nat) (o1 : Nat) (i1 : Int) (h : PHeap) (Q : Value → PHeap → Prop) : Prop :=
 Tri Tryz.prog 139 [vP p1 o1] h fun v_1 h_1 =>
 v_1 = vT [] ∧
 ∃ (a1 : OA) (n1 eqk1 : Nat), h_1.cell p1 (o1 + 1) = some (vL a1 n1 eqk1) ∧
 ∀ (b1 : Nat), h_1 b1 = none → ∀ (h_2 : PHeap), h_2 = h_1.put b1 (.cells ⟨[vU i1]⟩ 5) →
 Raw Tryz.prog (execOp (rho [(11, vL a1 n1 eqk1), (13, vL (ad b1 0) 1 1)]) (mkO o108_0 40)) h_2 fun v_2 h_3 =>
 ∃ (a2 : OA) (n2 eqk2 : Nat), v_2 = vL a2 n2 eqk2 ∧
 ∃ (l1 : List Value) (t1 : TypeId) (z1 : Nat × Nat), h_3 p1 = some (.cells ⟨l1⟩ t1 z1) ∧ ((o1 + 1) + 1 ≤ l1.length ∧ z1.2 ≤ (o1 + 1)) ∧
 ∀ (h_4 : PHeap), h_4 = h_3.put p1 (.cells ⟨splice l1 (o1 + 1) [vL a2 n2 eqk2]⟩ t1 z1) →
 Q .nilIface h_4
theorem T108 {p1 : Nat} {o1 : Nat} {i1 : Int} {h : PHeap} {Q : Value → PHeap → Prop} (hR : R108 p1 o1 i1 h Q) : Tri Tryz.prog 108 [vP p1 o1, vU i1] h Q :=
 tri_of_dn mixed Tryz.func108 rfl (by kernel_rfl) low108 (rs := [.tmp 4]) (by kernel_rfl) rfl (Eq.mpr (by kernel_rfl : dnF Tryz.prog Tryz.f108.ntmps d108 [.tmp 4] [vP p1 o1, vU i1] h Q = R108 p1 o1 i1 h Q) hR)
abbrev o74_0 : Op := .call { callee := (.builtin .unsafeSliceData), args := #[(.tmp 6)], argTypes := #[40] }
abbrev o74_1 : Op := .call { callee := (.builtin .unsafeString), args := #[(.tmp 7), (.tmp 12)], argTypes := #[158, 3] }
noncomputable def d74 : DCode := up ⟨[(6, .l [.slice]), (7, .c (.one false [.any])), (11, .l [.slice]), (13, .c (.one false [.str]))], [], []⟩ (low Tryz.prog (fun _ => false) (Tryz.f74.body.getD .skip))
theorem low74 : low Tryz.prog (fun _ => false) (Tryz.f74.body.getD .skip) = some (eC d74) := by kernel_rfl
def R74 (p1 : Nat) (o1 : Nat) (h : PHeap) (Q : Value → PHeap → Prop) : Prop :=
 ∃ (a1 : OA) (n1 eqk1 : Nat), h.cell p1 (o1 + 1) = some (vL a1 n1 eqk1) ∧
 ∃ (a2 : OA) (n2 eqk2 : Nat), h.cell p1 (o1 + 1) = some (vL a2 n2 eqk2) ∧
 Raw Tryz.prog (execOp (rho [(6, vL a1 n1 eqk1)]) (mkO o74_0 158)) h fun v_1 h_1 =>
 ∃ (u1 : Value), v_1 = u1 ∧
 (h_1.cell p1 (o1 + 1) = some (vL a2 n2 eqk2)) ∧
 Raw Tryz.prog (execOp (rho [(7, u1), (12, vI ((n2 : Nat) : Int))]) (mkO o74_1 9)) h_1 fun v_2 h_2 =>
 ∃ (l1 : Bs), v_2 = vS l1 ∧
 (h_2.cell p1 (o1 + 1) = some (vL a2 n2 eqk2)) ∧
 Q (vS l1) h_2
theorem T74 {p1 : Nat} {o1 : Nat} {h : PHeap} {Q : Value → PHeap → Prop} (hR : R74 p1 o1 h Q) : Tri Tryz.prog 74 [vP p1 o1] h Q :=
 tri_of_dn mixed Tryz.func74 rfl (by kernel_rfl) low74 (rs := [.tmp 2]) (by kernel_rfl) rfl (Eq.mpr (by kernel_rfl : dnF Tryz.prog Tryz.f74.ntmps d74 [.tmp 2] [vP p1 o1] h Q = R74 p1 o1 h Q) hR)
noncomputable def d71 : DCode := up ⟨[(8, .c (.tup [(false, [qi]), (false, [.any])])), (12, .c (.one false [.any]))], [], []⟩ (low Tryz.prog (fun _ => false) (Tryz.f71.body.getD .skip))
theorem low71 : low Tryz.prog (fun _ => false) (Tryz.f71.body.getD .skip) = some (eC d71) := by kernel_rfl
def R71 (p1 : Nat) (o1 : Nat) (l1 : Bs) (h : PHeap) (Q : Value → PHeap → Prop) : Prop :=
 Tri Tryz.prog 105 [vP p1 o1, vS l1] h fun v_1 h_1 =>
 ∃ (i1 : Int) (u1 : Value), v_1 = vT [vI i1, u1] ∧
 Tri Tryz.prog 108 [vP p1 o1, vU 10] h_1 fun v_2 h_2 =>
 ∃ (u2 : Value), v_2 = u2 ∧
 Q (vT []) h_2
theorem T71 {p1 : Nat} {o1 : Nat} {l1 : Bs} {h : PHeap} {Q : Value → PHeap → Prop} (hR : R71 p1 o1 l1 h Q) : Tri Tryz.prog 71 [vP p1 o1, vS l1] h Q :=
 tri_of_dn mixed Tryz.func71 rfl (by kernel_rfl) low71 (rs := []) (by kernel_rfl) rfl (Eq.mpr (by kernel_rfl : dnF Tryz.prog Tryz.f71.ntmps d71 [] [vP p1 o1, vS l1] h Q = R71 p1 o1 l1 h Q) hR)
noncomputable def d72 : DCode := up ⟨[(9, .l [.slice]), (16, .l [.slice]), (19, .l [.bool]), (27, .l [.slice]), (30, .l [qi]), (38, .l [.slice]), (41, .l [.str]), (43, .c (.tup [])), (48, .l [.slice])], [51], [(6, 46, [], [])]⟩ (low Tryz.prog (fun _ => false) (Tryz.f72.body.getD .skip))
theorem low72 : low Tryz.prog (fun _ => false) (Tryz.f72.body.getD .skip) = some (eC d72) := by kernel_rfl
def R72 (p1 : Nat) (o1 : Nat) (c1 : Bool) (i1 : Int) (h : PHeap) (Q : Value → PHeap → Prop) : Prop :=
 ∃ (I_1 : Nat → PHeap → Prop), (∃ (m2 : Nat), I_1 m2 h) ∧
 ∀ (m1 : Nat) (h_1 : PHeap), I_1 m1 h_1 →
 ∃ (a1 : OA) (n1 eqk1 : Nat), h_1.cell p1 (o1 + 2) = some (vL a1 n1 eqk1) ∧
 br (decide (((n1 : Nat) : Int) > 0))
 (∃ (a2 : OA) (n2 eqk2 : Nat), h_1.cell p1 (o1 + 2) = some (vL a2 n2 eqk2) ∧
 ∃ (b1 o2 : Nat), a2 = some ⟨b1, o2, none⟩ ∧ (0 ≤ (0 : Int) ∧ (0 : Int) < n2) ∧
 ∃ (c2 : Bool), h_1.cell b1 (o2 + 1) = some (vB c2) ∧
 br (c2 == c1)
 (∃ (a3 : OA) (n3 k3 : Nat), h_1.cell p1 (o1 + 2) = some (vL a3 n3 k3) ∧
 ∃ (b2 o3 : Nat), a3 = some ⟨b2, o3, none⟩ ∧ (0 ≤ (0 : Int) ∧ (0 : Int) < n3) ∧
 ∃ (i2 : Int), h_1.cell b2 (o3 + 2) = some (vI i2) ∧
 br (i2 == i1)
 (∃ (a4 : OA) (n4 k4 : Nat), h_1.cell p1 (o1 + 2) = some (vL a4 n4 k4) ∧
 ∃ (b3 o4 : Nat), a4 = some ⟨b3, o4, none⟩ ∧ (0 ≤ (0 : Int) ∧ (0 : Int) < n4) ∧
 ∃ (l1 : Bs), h_1.cell b3 o4 = some (vS l1) ∧
 l1.length + ([58] : Bs).length ≤ 9223372036854775807 ∧
 Tri Tryz.prog 71 [vP p1 o1, vS (l1 ++ ([58] : Bs))] h_1 fun v_1 h_2 =>
 v_1 = vT [] ∧
 ∃ (a5 : OA) (n5 k5 : Nat), h_2.cell p1 (o1 + 2) = some (vL a5 n5 k5) ∧
 (okA a5 n5 k5 ∧ 0 ≤ (1 : Int) ∧ (1 : Int) ≤ ((n5 : Nat) : Int) ∧ ((n5 : Nat) : Int) ≤ k5) ∧ ∀ (a6 : OA), SlA a5 a6 1 k5 3 →
 ∃ (l2 : List Value) (t1 : TypeId) (z1 : Nat × Nat), h_2 p1 = some (.cells ⟨l2⟩ t1 z1) ∧ ((o1 + 2) + 1 ≤ l2.length ∧ z1.2 ≤ (o1 + 2)) ∧
 ∀ (h_3 : PHeap), h_3 = h_2.put p1 (.cells ⟨splice l2 (o1 + 2) [vL a6 (((n5 : Nat) : Int).toNat - 1) (k5 - 1)]⟩ t1 z1) →
 ∃ (m3 : Nat), m3 < m1 ∧ I_1 m3 h_3 ∧
 True)
 (Q (vT []) h_1))
 (Q (vT []) h_1))
 (Q (vT []) h_1)
theorem T72 {p1 : Nat} {o1 : Nat} {c1 : Bool} {i1 : Int} {h : PHeap} {Q : Value → PHeap → Prop} (hR : R72 p1 o1 c1 i1 h Q) : Tri Tryz.prog 72 [vP p1 o1, vB c1, vI i1] h Q :=
 tri_of_dn mixed Tryz.func72 rfl (by kernel_rfl) low72 (rs := []) (by kernel_rfl) rfl (Eq.mpr (by kernel_rfl : dnF Tryz.prog Tryz.f72.ntmps d72 [] [vP p1 o1, vB c1, vI i1] h Q = R72 p1 o1 c1 i1 h Q) hR)
abbrev o73_2 : Op := .call { callee := (.builtin .min), args := #[(.tmp 16), (.tmp 18)], argTypes := #[3, 3] }
abbrev o73_4 : Op := .call { callee := (.builtin .min), args := #[(.tmp 26), (.tmp 33)], argTypes := #[3, 3] }
noncomputable def d73 : DCode := up ⟨[(7, .c (.tup [])), (14, .c (.tup [])), (19, .c (.one false [qi])), (23, .l [.slice]), (30, .l [.slice]), (33, .l [qi]), (34, .c (.one false [qi])), (40, .c (.one false [.str])), (42, .c (.tup [])), (47, .c (.tup []))], [], [(8, 38, [(4, qi)], [])]⟩ (low Tryz.prog (fun _ => false) (Tryz.f73.body.getD .skip))
theorem low73 : low Tryz.prog (fun _ => false) (Tryz.f73.body.getD .skip) = some (eC d73) := by kernel_rfl
def R73 (p1 : Nat) (o1 : Nat) (l1 : Bs) (h : PHeap) (Q : Value → PHeap → Prop) : Prop :=
 Tri Tryz.prog 71 [vP p1 o1, vS [46, 100, 97, 116, 97]] h fun v_1 h_1 =>
 v_1 = vT [] ∧
 ∃ (I_1 : Nat → Int → PHeap → Prop), (∃ (m2 : Nat), I_1 m2 (0 : Int) h_1) ∧
 ∀ (m1 : Nat) (i1 : Int) (h_2 : PHeap), I_1 m1 i1 h_2 →
 br (decide (i1 < (l1.length : Int)))
 (Tri Tryz.prog 72 [vP p1 o1, vB true, vI i1] h_2 fun v_2 h_3 =>
 v_2 = vT [] ∧
 ∃ (i2 : Int), PureRun Tryz.prog (execOp (rho [(16, vI (IntKind.i64.wrap (i1 + 32))), (18, vI (l1.length : Int))]) (mkO o73_2 3)) (vI i2) ∧
 ∃ (a1 : OA) (n1 eqk1 : Nat), h_3.cell p1 (o1 + 2) = some (vL a1 n1 eqk1) ∧
 br (decide (((n1 : Nat) : Int) > 0))
 (∃ (a2 : OA) (n2 eqk2 : Nat), h_3.cell p1 (o1 + 2) = some (vL a2 n2 eqk2) ∧
 ∃ (b1 o2 : Nat), a2 = some ⟨b1, o2, none⟩ ∧ (0 ≤ (0 : Int) ∧ (0 : Int) < n2) ∧
 ∃ (i3 : Int), h_3.cell b1 (o2 + 2) = some (vI i3) ∧
 ∃ (i4 : Int), PureRun Tryz.prog (execOp (rho [(26, vI i2), (33, vI i3)]) (mkO o73_4 3)) (vI i4) ∧
 (0 ≤ i1 ∧ i1 ≤ i4 ∧ i4 ≤ (l1.length : Int)) ∧
 Tri Tryz.prog 30 [vS ((l1.drop (i1).toNat).take ((i4).toNat - (i1).toNat))] h_3 fun v_3 h_4 =>
 ∃ (l2 : Bs), v_3 = vS l2 ∧
 ([9, 46, 116, 101, 120, 116, 32] : Bs).length + l2.length ≤ 9223372036854775807 ∧
 Tri Tryz.prog 71 [vP p1 o1, vS (([9, 46, 116, 101, 120, 116, 32] : Bs) ++ l2)] h_4 fun v_4 h_5 =>
 v_4 = vT [] ∧
 ∃ (m3 : Nat), m3 < m1 ∧ I_1 m3 i4 h_5 ∧
 True)
 ((0 ≤ i1 ∧ i1 ≤ i2 ∧ i2 ≤ (l1.length : Int)) ∧
 Tri Tryz.prog 30 [vS ((l1.drop (i1).toNat).take ((i2).toNat - (i1).toNat))] h_3 fun v_5 h_6 =>
 ∃ (l3 : Bs), v_5 = vS l3 ∧
 ([9, 46, 116, 101, 120, 116, 32] : Bs).length + l3.length ≤ 9223372036854775807 ∧
 Tri Tryz.prog 71 [vP p1 o1, vS (([9, 46, 116, 101, 120, 116, 32] : Bs) ++ l3)] h_6 fun v_6 h_7 =>
 v_6 = vT [] ∧
 ∃ (m4 : Nat), m4 < m1 ∧ I_1 m4 i2 h_7 ∧
 True))
 (Tri Tryz.prog 72 [vP p1 o1, vB true, vI (l1.length : Int)] h_2 fun v_7 h_8 =>
 v_7 = vT [] ∧
 Q (vT []) h_8)
theorem T73 {p1 : Nat} {o1 : Nat} {l1 : Bs} {h : PHeap} {Q : Value → PHeap → Prop} (hR : R73 p1 o1 l1 h Q) : Tri Tryz.prog 73 [vP p1 o1, vS l1] h Q :=
 tri_of_dn mixed Tryz.func73 rfl (by kernel_rfl) low73 (rs := []) (by kernel_rfl) rfl (Eq.mpr (by kernel_rfl : dnF Tryz.prog Tryz.f73.ntmps d73 [] [vP p1 o1, vS l1] h Q = R73 p1 o1 l1 h Q) hR)
noncomputable def d69 : DCode := up ⟨[(5, .l [.bool]), (8, .l [qi]), (10, .l [.str])], [], []⟩ (low Tryz.prog (fun _ => false) (Tryz.f69.body.getD .skip))
theorem low69 : low Tryz.prog (fun _ => false) (Tryz.f69.body.getD .skip) = some (eC d69) := by kernel_rfl
def R69 (l1 : Bs) (c1 : Bool) (i1 : Int) (p1 : Nat) (o1 : Nat) (h : PHeap) (Q : Value → PHeap → Prop) : Prop :=
 br c1
 (∃ (l2 : Bs), h.cell p1 (o1 + 1) = some (vS l2) ∧
 Q (vB (decide (i1 > (l2.length : Int)))) h)
 (Q (vB false) h)
theorem T69 {l1 : Bs} {c1 : Bool} {i1 : Int} {p1 : Nat} {o1 : Nat} {h : PHeap} {Q : Value → PHeap → Prop} (hR : R69 l1 c1 i1 p1 o1 h Q) : Tri Tryz.prog 69 [vA [vS l1, vB c1, vI i1], vP p1 o1] h Q :=
 tri_of_dn mixed Tryz.func69 rfl (by kernel_rfl) low69 (rs := [.tmp 3]) (by kernel_rfl) rfl (Eq.mpr (by kernel_rfl : dnF Tryz.prog Tryz.f69.ntmps d69 [.tmp 3] [vA [vS l1, vB c1, vI i1], vP p1 o1] h Q = R69 l1 c1 i1 p1 o1 h Q) hR)
noncomputable def d107 : DCode := up ⟨[(15, .l [.str, .bool, qi]), (16, .c (.one false [.bool]))], [], [(9, 13, [(8, qi)], [])]⟩ (low Tryz.prog (fun _ => false) (Tryz.f107.body.getD .skip))
theorem low107 : low Tryz.prog (fun _ => false) (Tryz.f107.body.getD .skip) = some (eC d107) := by kernel_rfl
def R107 (a1 : OA) (n1 : Nat) (eqk1 : Nat) (f1 : Nat) (x1 : List Value) (y1 : List Value) (h : PHeap) (Q : Value → PHeap → Prop) : Prop :=
 ∃ (I_1 : Nat → Int → PHeap → Prop), (∃ (m2 : Nat), I_1 m2 (0 : Int) h) ∧
 ∀ (m1 : Nat) (i1 : Int) (h_1 : PHeap), I_1 m1 i1 h_1 →
 br (decide (i1 < ((n1 : Nat) : Int)))
 (∃ (b1 o1 : Nat), a1 = some ⟨b1, o1, none⟩ ∧ (0 ≤ i1 ∧ i1 < n1) ∧
 ∃ (l1 : Bs) (c1 : Bool) (i2 : Int), h_1.row b1 (o1 + (i1).toNat * 3) [vS l1, vB c1, vI i2] ∧
 Tri Tryz.prog f1 (x1 ++ [vA [vS l1, vB c1, vI i2]] ++ y1) h_1 fun v_1 h_2 =>
 ∃ (c2 : Bool), v_1 = vB c2 ∧
 br c2
 (Q (vI i1) h_2)
 (∃ (m3 : Nat), m3 < m1 ∧ I_1 m3 (IntKind.i64.wrap (i1 + 1)) h_2 ∧
 True))
 (Q (vI (-1)) h_1)
theorem T107 {a1 : OA} {n1 : Nat} {eqk1 : Nat} {f1 : Nat} {x1 : List Value} {y1 : List Value} {h : PHeap} {Q : Value → PHeap → Prop} (hR : R107 a1 n1 eqk1 f1 x1 y1 h Q) : Tri Tryz.prog 107 [vL a1 n1 eqk1, vF f1 x1 y1] h Q :=
 tri_of_dn mixed Tryz.func107 rfl (by kernel_rfl) low107 (rs := [.tmp 4]) (by kernel_rfl) rfl (Eq.mpr (by kernel_rfl : dnF Tryz.prog Tryz.f107.ntmps d107 [.tmp 4] [vL a1 n1 eqk1, vF f1 x1 y1] h Q = R107 a1 n1 eqk1 f1 x1 y1 h Q) hR)
noncomputable def d70 : DCode := up ⟨[(7, .c (.one false [qi]))], [], []⟩ (low Tryz.prog (fun _ => false) (Tryz.f70.body.getD .skip))
theorem low70 : low Tryz.prog (fun _ => false) (Tryz.f70.body.getD .skip) = some (eC d70) := by kernel_rfl
def R70 (a1 : OA) (n1 : Nat) (eqk1 : Nat) (f1 : Nat) (x1 : List Value) (y1 : List Value) (h : PHeap) (Q : Value → PHeap → Prop) : Prop :=
 Tri Tryz.prog 107 [vL a1 n1 eqk1, vF f1 x1 y1] h fun v_1 h_1 =>
 ∃ (i1 : Int), v_1 = vI i1 ∧
 Q (vB (decide (i1 ≥ 0))) h_1
theorem T70 {a1 : OA} {n1 : Nat} {eqk1 : Nat} {f1 : Nat} {x1 : List Value} {y1 : List Value} {h : PHeap} {Q : Value → PHeap → Prop} (hR : R70 a1 n1 eqk1 f1 x1 y1 h Q) : Tri Tryz.prog 70 [vL a1 n1 eqk1, vF f1 x1 y1] h Q :=
 tri_of_dn mixed Tryz.func70 rfl (by kernel_rfl) low70 (rs := [.tmp 4]) (by kernel_rfl) rfl (Eq.mpr (by kernel_rfl : dnF Tryz.prog Tryz.f70.ntmps d70 [.tmp 4] [vL a1 n1 eqk1, vF f1 x1 y1] h Q = R70 a1 n1 eqk1 f1 x1 y1 h Q) hR)
noncomputable def d35 : DCode := up ⟨[(11, .l eqk1), (12, .c (.one false [qi])), (18, .l [.slice]), (20, .c (.one false [.bool])), (22, .l [.slice]), (27, .l [qi]), (28, .c (.one false [.str])), (30, .c (.tup [])), (32, .l [qi]), (36, .l [qi]), (37, .c (.one false [.str])), (39, .c (.tup [])), (41, .l [.slice]), (47, .l eqk2), (51, .c (.tup [])), (53, .l eqk2), (54, .c (.tup [(false, [.str]), (false, [qi])])), (60, .c (.tup [])), (64, .l [.slice]), (67, .c (.tup [])), (69, .l [.str]), (76, .l [.slice]), (82, .l [.str]), (83, .c (.tup [])), (87, .c (.one false [.str]))], [], [(44, 23, [(43, qi)], [])]⟩ (low Tryz.prog (fun d => Nat.beq d 1 || Nat.beq d 24) (Tryz.f35.body.getD .skip))
theorem low35 : low Tryz.prog (fun d => Nat.beq d 1 || Nat.beq d 24) (Tryz.f35.body.getD .skip) = some (eC d35) := by kernel_rfl
def R35 (a1 : OA) (n1 : Nat) (eqk1 : Nat) (l1 : Bs) (i1 : Int) (i2 : Int) (a2 : OA) (n2 : Nat) (eqk2 : Nat) (h : PHeap) (Q : Value → PHeap → Prop) : Prop :=
 ∀ (b1 : Nat), h b1 = none → ∀ (h_1 : PHeap), h_1 = h.put b1 (.cells ⟨[vL a1 n1 eqk1, vS l1, vI i1, vI i2, vL a2 n2 eqk2]⟩ 25) →
 ∃ (a3 : OA) (n3 k3 : Nat) (l2 : Bs) (i3 i4 : Int) (a4 : OA) (n4 k4 : Nat), h_1.row b1 0 [vL a3 n3 k3, vS l2, vI i3, vI i4, vL a4 n4 k4] ∧
 Tri Tryz.prog 24 [vA [vL a3 n3 k3, vS l2, vI i3, vI i4, vL a4 n4 k4]] h_1 fun v_1 h_2 =>
 ∃ (i5 : Int), v_1 = vI i5 ∧
 br (i5 != 0)
 (Q (vT [vS [], vI i5]) h_2)
 (∃ (a5 : OA) (n5 k5 : Nat), h_2.cell b1 4 = some (vL a5 n5 k5) ∧
 Tri Tryz.prog 70 [vL a5 n5 k5, vF 69 [] [vP b1 0]] h_2 fun v_2 h_3 =>
 ∃ (c1 : Bool), v_2 = vB c1 ∧
 br c1
 (Q (vT [vS [], vI 33]) h_3)
 (∃ (a6 : OA) (n6 k6 : Nat), h_3.cell b1 4 = some (vL a6 n6 k6) ∧
 ∀ (b2 : Nat), h_3 b2 = none → ∀ (h_4 : PHeap), h_4 = h_3.put b2 (.cells ⟨[.pointer none, vL none 0 0, vL a6 n6 k6]⟩ 114) →
 ∃ (i6 : Int), h_4.cell b1 3 = some (vI i6) ∧
 Tri Tryz.prog 60 [vI i6] h_4 fun v_3 h_5 =>
 ∃ (l3 : Bs), v_3 = vS l3 ∧
 ([46, 101, 110, 116, 114, 121, 32] : Bs).length + l3.length ≤ 9223372036854775807 ∧
 Tri Tryz.prog 71 [vP b2 0, vS (([46, 101, 110, 116, 114, 121, 32] : Bs) ++ l3)] h_5 fun v_4 h_6 =>
 v_4 = vT [] ∧
 ∃ (i7 : Int), h_6.cell b1 2 = some (vI i7) ∧
 br (i7 != 0)
 (∃ (i8 : Int), h_6.cell b1 2 = some (vI i8) ∧
 Tri Tryz.prog 60 [vI i8] h_6 fun v_5 h_7 =>
 ∃ (l4 : Bs), v_5 = vS l4 ∧
 ([46, 122, 101, 114, 111, 32] : Bs).length + l4.length ≤ 9223372036854775807 ∧
 Tri Tryz.prog 71 [vP b2 0, vS (([46, 122, 101, 114, 111, 32] : Bs) ++ l4)] h_7 fun v_6 h_8 =>
 v_6 = vT [] ∧
 ∃ (a7 : OA) (n7 k7 : Nat), h_8.cell b1 0 = some (vL a7 n7 k7) ∧
 ∃ (I_1 : Nat → Int → PHeap → Prop), (∃ (m2 : Nat), I_1 m2 (0 : Int) h_8) ∧
 ∀ (m1 : Nat) (i9 : Int) (h_9 : PHeap), I_1 m1 i9 h_9 →
 br (decide (i9 < ((n7 : Nat) : Int)))
 (∃ (b3 o1 : Nat), a7 = some ⟨b3, o1, none⟩ ∧ (0 ≤ i9 ∧ i9 < n7) ∧
 ∃ (i10 i11 i12 i13 : Int), h_9.row b3 (o1 + (i9).toNat * 4) [vI i10, vI i11, vI i12, vI i13] ∧
 Tri Tryz.prog 72 [vP b2 0, vB false, vI (IntKind.i64.wrap (i9 * 4))] h_9 fun v_7 h_10 =>
 v_7 = vT [] ∧
 Tri Tryz.prog 32 [vA [vI i10, vI i11, vI i12, vI i13]] h_10 fun v_8 h_11 =>
 ∃ (l5 : Bs) (i14 : Int), v_8 = vT [vS l5, vI i14] ∧
 ([9] : Bs).length + l5.length ≤ 9223372036854775807 ∧
 Tri Tryz.prog 71 [vP b2 0, vS (([9] : Bs) ++ l5)] h_11 fun v_9 h_12 =>
 v_9 = vT [] ∧
 ∃ (m3 : Nat), m3 < m1 ∧ I_1 m3 (IntKind.i64.wrap (i9 + 1)) h_12 ∧
 True)
 (∃ (a8 : OA) (n8 k8 : Nat), h_9.cell b1 0 = some (vL a8 n8 k8) ∧
 Tri Tryz.prog 72 [vP b2 0, vB false, vI (IntKind.i64.wrap (((n8 : Nat) : Int) * 4))] h_9 fun v_10 h_13 =>
 v_10 = vT [] ∧
 ∃ (l6 : Bs), h_13.cell b1 1 = some (vS l6) ∧
 br (decide ((l6.length : Int) > 0))
 (∃ (l7 : Bs), h_13.cell b1 1 = some (vS l7) ∧
 Tri Tryz.prog 73 [vP b2 0, vS l7] h_13 fun v_11 h_14 =>
 v_11 = vT [] ∧
 Tri Tryz.prog 74 [vP b2 0] h_14 fun v_12 h_15 =>
 ∃ (l8 : Bs), v_12 = vS l8 ∧
 Q (vT [vS l8, vI 0]) h_15)
 (∃ (a9 : OA) (n9 k9 : Nat), h_13.cell b2 2 = some (vL a9 n9 k9) ∧
 br (decide (((n9 : Nat) : Int) > 0))
 (∃ (l9 : Bs), h_13.cell b1 1 = some (vS l9) ∧
 Tri Tryz.prog 73 [vP b2 0, vS l9] h_13 fun v_13 h_16 =>
 v_13 = vT [] ∧
 Tri Tryz.prog 74 [vP b2 0] h_16 fun v_14 h_17 =>
 ∃ (l10 : Bs), v_14 = vS l10 ∧
 Q (vT [vS l10, vI 0]) h_17)
 (Tri Tryz.prog 74 [vP b2 0] h_13 fun v_15 h_18 =>
 ∃ (l11 : Bs), v_15 = vS l11 ∧
 Q (vT [vS l11, vI 0]) h_18))))
 (∃ (a10 : OA) (n10 k10 : Nat), h_6.cell b1 0 = some (vL a10 n10 k10) ∧
 ∃ (I_2 : Nat → Int → PHeap → Prop), (∃ (m5 : Nat), I_2 m5 (0 : Int) h_6) ∧
 ∀ (m4 : Nat) (i15 : Int) (h_19 : PHeap), I_2 m4 i15 h_19 →
 br (decide (i15 < ((n10 : Nat) : Int)))
 (∃ (b4 o2 : Nat), a10 = some ⟨b4, o2, none⟩ ∧ (0 ≤ i15 ∧ i15 < n10) ∧
 ∃ (i16 i17 i18 i19 : Int), h_19.row b4 (o2 + (i15).toNat * 4) [vI i16, vI i17, vI i18, vI i19] ∧
 Tri Tryz.prog 72 [vP b2 0, vB false, vI (IntKind.i64.wrap (i15 * 4))] h_19 fun v_16 h_20 =>
 v_16 = vT [] ∧
 Tri Tryz.prog 32 [vA [vI i16, vI i17, vI i18, vI i19]] h_20 fun v_17 h_21 =>
 ∃ (l12 : Bs) (i20 : Int), v_17 = vT [vS l12, vI i20] ∧
 ([9] : Bs).length + l12.length ≤ 9223372036854775807 ∧
 Tri Tryz.prog 71 [vP b2 0, vS (([9] : Bs) ++ l12)] h_21 fun v_18 h_22 =>
 v_18 = vT [] ∧
 ∃ (m6 : Nat), m6 < m4 ∧ I_2 m6 (IntKind.i64.wrap (i15 + 1)) h_22 ∧
 True)
 (∃ (a11 : OA) (n11 k11 : Nat), h_19.cell b1 0 = some (vL a11 n11 k11) ∧
 Tri Tryz.prog 72 [vP b2 0, vB false, vI (IntKind.i64.wrap (((n11 : Nat) : Int) * 4))] h_19 fun v_19 h_23 =>
 v_19 = vT [] ∧
 ∃ (l13 : Bs), h_23.cell b1 1 = some (vS l13) ∧
 br (decide ((l13.length : Int) > 0))
 (∃ (l14 : Bs), h_23.cell b1 1 = some (vS l14) ∧
 Tri Tryz.prog 73 [vP b2 0, vS l14] h_23 fun v_20 h_24 =>
 v_20 = vT [] ∧
 Tri Tryz.prog 74 [vP b2 0] h_24 fun v_21 h_25 =>
 ∃ (l15 : Bs), v_21 = vS l15 ∧
 Q (vT [vS l15, vI 0]) h_25)
 (∃ (a12 : OA) (n12 k12 : Nat), h_23.cell b2 2 = some (vL a12 n12 k12) ∧
 br (decide (((n12 : Nat) : Int) > 0))
 (∃ (l16 : Bs), h_23.cell b1 1 = some (vS l16) ∧
 Tri Tryz.prog 73 [vP b2 0, vS l16] h_23 fun v_22 h_26 =>
 v_22 = vT [] ∧
 Tri Tryz.prog 74 [vP b2 0] h_26 fun v_23 h_27 =>
 ∃ (l17 : Bs), v_23 = vS l17 ∧
 Q (vT [vS l17, vI 0]) h_27)
 (Tri Tryz.prog 74 [vP b2 0] h_23 fun v_24 h_28 =>
 ∃ (l18 : Bs), v_24 = vS l18 ∧
 Q (vT [vS l18, vI 0]) h_28))))))
theorem T35 {a1 : OA} {n1 : Nat} {eqk1 : Nat} {l1 : Bs} {i1 : Int} {i2 : Int} {a2 : OA} {n2 : Nat} {eqk2 : Nat} {h : PHeap} {Q : Value → PHeap → Prop} (hR : R35 a1 n1 eqk1 l1 i1 i2 a2 n2 eqk2 h Q) : Tri Tryz.prog 35 [vA [vL a1 n1 eqk1, vS l1, vI i1, vI i2, vL a2 n2 eqk2]] h Q :=
 tri_of_dn mixed Tryz.func35 rfl (by kernel_rfl) low35 (rs := [.tmp 2, .tmp 3]) (by kernel_rfl) rfl (Eq.mpr (by kernel_rfl : dnF Tryz.prog Tryz.f35.ntmps d35 [.tmp 2, .tmp 3] [vA [vL a1 n1 eqk1, vS l1, vI i1, vI i2, vL a2 n2 eqk2]] h Q = R35 a1 n1 eqk1 l1 i1 i2 a2 n2 eqk2 h Q) hR)
abbrev o12_0 : Op := .call { callee := (.builtin .min), args := #[(.tmp 16), (.const (vI 1500))], argTypes := #[3, 3] }
noncomputable def d12 : DCode := up ⟨[(17, .c (.one false [qi])), (19, .c (.tup [(true, eqk1), (false, [qi]), (false, [qi])])), (23, .c (.one false [.bool])), (29, .c (.one false [.bool])), (31, .l eqk1), (33, .c (.one false [.bool])), (36, .l eqk1), (37, .c (.tup [(false, [.str]), (false, [qi])])), (42, .c (.tup [(true, eqk1), (false, [qi]), (false, [qi])])), (47, .l eqk1), (48, .c (.tup [(false, [.str]), (false, [qi])])), (51, .l eqk1), (52, .c (.one false [qi])), (63, .l eqk1), (64, .l eqk1), (65, .c (.one false [.bool]))], [], []⟩ (low Tryz.prog (fun _ => false) (Tryz.f12.body.getD .skip))
theorem low12 : low Tryz.prog (fun _ => false) (Tryz.f12.body.getD .skip) = some (eC d12) := by kernel_rfl
def R12 (l1 : Bs) (h : PHeap) (Q : Value → PHeap → Prop) : Prop :=
 ∃ (i1 : Int), PureRun Tryz.prog (execOp (rho [(16, vI (l1.length : Int))]) (mkO o12_0 3)) (vI i1) ∧
 (0 ≤ (0 : Int) ∧ (0 : Int) ≤ i1 ∧ i1 ≤ (l1.length : Int)) ∧
 Tri Tryz.prog 13 [vS ((l1.drop 0).take ((i1).toNat - 0))] h fun v_1 h_1 =>
 ∃ (a1 : OA) (n1 eqk1 : Nat) (l2 : Bs) (i2 i3 : Int) (a2 : OA) (n2 eqk2 : Nat) (i4 i5 : Int), v_1 = vT [vA [vL a1 n1 eqk1, vS l2, vI i2, vI i3, vL a2 n2 eqk2], vI i4, vI i5] ∧
 Tri Tryz.prog 15 [] h_1 fun v_2 h_2 =>
 ∃ (c1 : Bool), v_2 = vB c1 ∧
 br (!c1)
 (Tri Tryz.prog 15 [] h_2 fun v_3 h_3 =>
 ∃ (c2 : Bool), v_3 = vB c2 ∧
 br c2
 (Tri Tryz.prog 29 [vA [vL a1 n1 eqk1, vS l2, vI i2, vI i3, vL a2 n2 eqk2], vA [vL none 0 0, vS [], vI 0, vI 0, vL none 0 0]] h_3 fun v_4 h_4 =>
 ∃ (c3 : Bool), v_4 = vB c3 ∧
 Q (vB c3) h_4)
 (Q (vB false) h_3))
 (br (i5 != 0)
 (Tri Tryz.prog 15 [] h_2 fun v_5 h_5 =>
 ∃ (c4 : Bool), v_5 = vB c4 ∧
 br c4
 (Tri Tryz.prog 29 [vA [vL a1 n1 eqk1, vS l2, vI i2, vI i3, vL a2 n2 eqk2], vA [vL none 0 0, vS [], vI 0, vI 0, vL none 0 0]] h_5 fun v_6 h_6 =>
 ∃ (c5 : Bool), v_6 = vB c5 ∧
 Q (vB c5) h_6)
 (Q (vB false) h_5))
 (Tri Tryz.prog 35 [vA [vL a1 n1 eqk1, vS l2, vI i2, vI i3, vL a2 n2 eqk2]] h_2 fun v_7 h_7 =>
 ∃ (l3 : Bs) (i6 : Int), v_7 = vT [vS l3, vI i6] ∧
 Tri Tryz.prog 13 [vS l3] h_7 fun v_8 h_8 =>
 ∃ (a3 : OA) (n3 k3 : Nat) (l4 : Bs) (i7 i8 : Int) (a4 : OA) (n4 k4 : Nat) (i9 i10 : Int), v_8 = vT [vA [vL a3 n3 k3, vS l4, vI i7, vI i8, vL a4 n4 k4], vI i9, vI i10] ∧
 Tri Tryz.prog 35 [vA [vL a3 n3 k3, vS l4, vI i7, vI i8, vL a4 n4 k4]] h_8 fun v_9 h_9 =>
 ∃ (l5 : Bs) (i11 : Int), v_9 = vT [vS l5, vI i11] ∧
 Tri Tryz.prog 24 [vA [vL a1 n1 eqk1, vS l2, vI i2, vI i3, vL a2 n2 eqk2]] h_9 fun v_10 h_10 =>
 ∃ (i12 : Int), v_10 = vI i12 ∧
 br (i12 == 0)
 (br (i6 == 0)
 (br (i10 == 0)
 (Tri Tryz.prog 29 [vA [vL a1 n1 eqk1, vS l2, vI i2, vI i3, vL a2 n2 eqk2], vA [vL a3 n3 k3, vS l4, vI i7, vI i8, vL a4 n4 k4]] h_10 fun v_11 h_11 =>
 ∃ (c6 : Bool), v_11 = vB c6 ∧
 br c6
 (br (i11 == 0)
 (Q (vB (l3 == l5)) h_11)
 (Q (vB false) h_11))
 (Q (vB false) h_11))
 (Q (vB false) h_10))
 (Q (vB false) h_10))
 (Q (vB false) h_10)))
theorem T12 {l1 : Bs} {h : PHeap} {Q : Value → PHeap → Prop} (hR : R12 l1 h Q) : Tri Tryz.prog 12 [vS l1] h Q :=
 tri_of_dn mixed Tryz.func12 rfl (by kernel_rfl) low12 (rs := [.tmp 2]) (by kernel_rfl) rfl (Eq.mpr (by kernel_rfl : dnF Tryz.prog Tryz.f12.ntmps d12 [.tmp 2] [vS l1] h Q = R12 l1 h Q) hR)
end Go.Proofs.D
namespace Go.Proofs.D
open Go Go.Den Go.As Go.Shelf Go.RowKit
set_option maxRecDepth 100000
structure OB (h0 h : PHeap) (a : OA) (n k : Nat) (l : Bytes) : Prop where
 own : Own h 5 1 (vL a n k) n (l.map byteV)
 new : ∀ b, a = ad b 0 → h0 b = none
 ext : Ext h0 h
theorem OB.len {h0 h : PHeap} {a : OA} {n k : Nat} {l : Bytes} (hb : OB h0 h a n k l) : n = l.length := by have := hb.own.1; simp at this; omega
theorem OB.put {h0 h h' : PHeap} {a : OA} {n k b : Nat} {l : Bytes} {o : Obj} (hb : OB h0 h a n k l) (hn : h b = none) (hh : h' = h.put b o) : OB h0 h' a n k l := by
 refine ⟨Own.keep (fun q hq => ?_) hb.own, hb.new, hb.ext.trans (Put.ext hh hn)⟩
 rcases hb.own.2 with ⟨h1, _⟩ | ⟨b', cap, rest, h1, h2, _⟩
 · injection h1 with h1; rw [hq] at h1; cases h1
 · injection h1 with h1; rw [hq] at h1; injection h1 with h1; injection h1 with h1; subst h1
   rw [Put.ext hh hn _ _ h2, h2]
theorem allOne_bytes : ∀ (l : Bytes), allOne (l.map byteV) = true
 | [] => rfl
 | c :: l => by simp only [List.map_cons, allOne, allOne_bytes l, Bool.and_true]; rfl
theorem layCC : Go.Proofs.Lays.n240 Tryz.prog layJ_ren := { layJ with }
theorem copy_used (w : World) (b : Nat) (h0 : w.cell? ⟨b, 0, none⟩ = some (.pointer (some ⟨b, 0, none⟩))) :
 Calls Tryz.prog 139 #[.pointer (some ⟨b, 0, none⟩)] w fun e w' => e = .returned (.tuple #[]) ∧ w' = w := Any.Builder_copyCheck_used layCC exJ.toX72 b w h0
set_option maxHeartbeats 1000000 in
theorem copy_first (w : World) (b : Nat) (h0 : w.cell? ⟨b, 0, none⟩ = some (.pointer none)) (hsh : w.shape? b = some (114, 3)) (hfz : w.frozen? ⟨b, 0, none⟩ = false) :
 Calls Tryz.prog 139 #[.pointer (some ⟨b, 0, none⟩)] w fun e w' => e = .returned (.tuple #[]) ∧ w' = w.setCell ⟨b, 0, none⟩ (.pointer (some ⟨b, 0, none⟩)) := by
 have L := layCC
 obtain ⟨j, hj, hjs⟩ := Option.map_eq_some_iff.1 exJ.sizeBuilder
 have mixed := L.mixed
 have t72 := L.t72; have a72 := L.a72; have z72 := L.z72; have v72 := L.v72; have u72 := run_underlying L.t72
 have t70 := L.t70; have a70 := L.a70; have z70 := L.z70; have v70 := L.v70; have u70 := run_underlying L.t70
 have t9 := L.t9; have a9 := L.a9; have z9 := L.z9; have v9 := L.v9; have u9 := run_underlying L.t9
 have t4 := L.t4; have a4 := L.a4; have z4 := L.z4; have v4 := L.v4; have u4 := run_underlying L.t4
 have t164 := L.t164; have a164 := L.a164; have z164 := L.z164; have v164 := L.v164; have u164 := run_underlying L.t164
 have hlies : liesAt Tryz.prog Tryz.prog.depth 114 (3 / Tryz.prog.cellsOf 114) 0 (layJ_ren.t 72) 1 = true := by kernel_rfl
 go_enter L.f240, Body.n240_ntmps layJ_ren
 go_wp2
 rw [Lib.run_to_unsafe w ⟨b, 0, none⟩ L.t70 L.t164 hj (by rw [hjs]; decide) hsh (Nat.zero_lt_succ 2)]
 simp only [Result.andThen]
 rw [Oper.upon_value]
 go_wp2
 rw [run_callFunc_extern L.f276 (by kernel_rfl) (by kernel_rfl) (by kernel_rfl) (e := Extern.AbiNoEscape.same) (by kernel_rfl)]
 rw [Lib.run_noEscape]
 simp only [Result.andThen]
 rw [Oper.upon_value]
 go_wp2
 rw [Lib.run_from_unsafe w ⟨b, 0, none⟩ L.t164 L.t70 hj hsh hlies]
 simp only [Result.andThen]
 rw [Oper.upon_value]
 go_wp2
 go_end0
 exact ⟨rfl, rfl⟩
theorem cc_t {h : PHeap} {b : Nat} {p x y : Value} (hb : h b = some (.cells ⟨[p, x, y]⟩ 114 (0, 0))) (hp : p = .pointer none ∨ p = vP b 0) :
 Tri Tryz.prog 139 [vP b 0] h fun v h' => v = vT [] ∧ h' = h.put b (.cells ⟨[vP b 0, x, y]⟩ 114 (0, 0)) := by
 intro w hs
 unfold CallR
 rw [enters_of Tryz.func139 (by kernel_rfl) rfl]
 have hw := hs _ _ hb
 have hc0 : w.cell? ⟨b, 0, none⟩ = some p := by simp [World.cell?, hw]
 rcases hp with rfl | rfl
 · refine Calls.mono (copy_first w b hc0 (by simp [World.shape?, hw]) (by simp [World.frozen?, hw])) ?_
   rintro e w' ⟨rfl, rfl⟩
   have hsame := Lib.heap_setCell_same (i := 0) hw (.pointer (some ⟨b, 0, none⟩))
   have hother : ∀ k, k ≠ b → (w.setCell ⟨b, 0, none⟩ (.pointer (some ⟨b, 0, none⟩))).heap[k]? = w.heap[k]? := fun k hk => RowKit.Below.heap_setCell w ⟨b, 0, none⟩ _ k hk
   refine ⟨_, ⟨rfl, rfl⟩, fun k o hk => ?_, rfl, rfl, rfl, by simp [World.setCell], fun k hk hn => ?_⟩
   · by_cases e : k = b
     · subst e
       rw [PHeap.put, if_pos rfl] at hk
       injection hk with hk
       rw [hsame, ← hk]; rfl
     · rw [PHeap.put, if_neg e] at hk
       rw [hother k e]; exact hs _ _ hk
   · have e : k ≠ b := fun e => by subst e; rw [hb] at hn; cases hn
     rw [PHeap.put, if_neg e]
     exact ⟨hn, hother k e⟩
 · refine Calls.mono (copy_used w b hc0) ?_
   rintro e w' ⟨rfl, rfl⟩
   have : h.put b (.cells ⟨[vP b 0, x, y]⟩ 114 (0, 0)) = h := by
    funext k
    unfold PHeap.put
    by_cases e : k = b
    · subst e; rw [if_pos rfl]; exact hb.symm
    · rw [if_neg e]
   exact ⟨h, ⟨rfl, this.symm⟩, hs, Keep.refl w' h⟩
theorem raw_appendz {h : PHeap} {ρ : Operand → Value} {cl : Call} {x y : Operand} {t t2 ty e : TypeId} {i : TypeInfo} {a : OA} {n cap : Nat} {vy : Value} (hc : cl.callee = .builtin .append) (ha : cl.args = #[x, y]) (hts : cl.argTypes = #[t, t2]) (hu : Tryz.prog.underlying t = some (.slice e)) (hi : Tryz.prog.info? e = some i)
 (hsrc : SrcH Tryz.prog h i.size t2 vy 0 []) (hx : ρ x = vL a n cap) (hy : ρ y = vy) (hfit : n ≤ cap) : Raw Tryz.prog (execOp ρ (mkO (.call cl) ty)) h fun v h' => v = vL a n cap ∧ h' = h := by
 intro w hs
 have hsr := hsrc w hs
 have hexec : (execOp ρ (mkO (.call cl) ty)).run Tryz.prog w = ((Builtin.append_ #[t, t2] ty #[vL a n cap, vy]).run Tryz.prog w).andThen fun v w' => .ok (.value v) w' := by
  simp [execOp, mkO, resolve, hc, ha, hts, hx, hy, invoke, builtin]
 have hrun : (Builtin.append_ #[t, t2] ty #[vL a n cap, vy]).run Tryz.prog w = .ok (vL a n cap) w := by
  cases a <;> rcases hsr.kind with ⟨e', hk⟩ | hk <;> simp [Builtin.append_, run_underlying hu, run_underlying hk, sizeOf, typeInfo, hi, hsr.len, hfit, hsr.cells, storeCells]
 exact ⟨_, _, w, h, by rw [hexec, hrun]; rfl, .inl rfl, ⟨rfl, rfl⟩, hs, Keep.refl w h⟩
theorem OB.fit {h0 h : PHeap} {a : OA} {n k : Nat} {l : Bytes} (hb : OB h0 h a n k l) : n ≤ k := by
 rcases hb.own.2 with ⟨h1, h2⟩ | ⟨b', cap, rest, h1, h2, _, h4⟩
 · omega
 · injection h1 with _ _ h1; omega
theorem OB.app {h0 h : PHeap} {a : OA} {n k : Nat} {l m : Bytes} {t2 ty : TypeId} {vy : Value} (hb : OB h0 h a n k l) (hl : l.length ≤ 10000000) (hl2 : m.length ≤ 10000000) (hsrc : SrcH Tryz.prog h 1 t2 vy m.length (m.map byteV))
 {ρ : Operand → Value} {cl : Call} {x y : Operand} (hcl : cl.callee = .builtin .append) (hca : cl.args = #[x, y]) (hts : cl.argTypes = #[40, t2]) (hx : ρ x = vL a n k) (hy : ρ y = vy) :
 Raw Tryz.prog (execOp ρ (mkO (.call cl) ty)) h fun v h2 => ∃ a' n' k', v = vL a' n' k' ∧ OB h0 h2 a' n' k' (l ++ m) ∧ ∀ q o, h q = some o → a ≠ ad q 0 → h2 q = some o ∧ a' ≠ ad q 0 := by
 obtain ⟨i, z, hi, hz, hzc, hk, hby⟩ := elem5'
 have hn := hb.len
 have hbig : (16 * (n + m.length) + 16384) * i.bytes ≤ 281474976710656 := by
  have : (16 * (n + m.length) + 16384) * i.bytes ≤ (16 * (n + m.length) + 16384) * 200 := Nat.mul_le_mul_left _ hby
  omega
 by_cases hm : m.length = 0
 · have hm : m = [] := List.eq_nil_of_length_eq_zero hm
   subst hm
   refine Raw.mono (raw_appendz hcl hca hts und40' hi (by rw [hk]; exact hsrc) hx hy hb.fit) ?_
   rintro v h2 ⟨rfl, rfl⟩
   exact ⟨_, _, _, rfl, by rw [List.append_nil]; exact hb, fun q o hq hne => ⟨hq, hne⟩⟩
 refine Raw.mono (raw_append hcl hca hts und40' hi hz hx hy (by rw [hk]; exact hb.own) (by rw [hk]; exact hsrc) (by rw [hzc, hk]) (by omega) hbig (by omega)) ?_
 rintro v h2 ⟨b, cap, rest, rfl, rfl, hr, hcap, hor⟩
 have hnew : h0 b = none := by
  rcases hor with hor | ⟨c, hor⟩
  · cases e : h0 b with
    | none => rfl
    | some o => rw [hb.ext _ _ e] at hor; cases hor
  · injection hor with h1; exact hb.new b h1
 refine ⟨_, _, _, rfl, ⟨⟨?_, .inr ⟨b, cap, rest, rfl, ?_, by rw [hr, hk], hcap⟩⟩, fun q hq => ?_, fun q o hq => ?_⟩, fun q o hq hne => ?_⟩
 · simp; omega
 · rw [put_same, List.map_append]
 · injection hq with hq; injection hq with hq; subst hq; exact hnew
 · have hqb : q ≠ b := fun e => by subst e; rw [hnew] at hq; cases hq
   rw [put_ne hqb]; exact hb.ext _ _ hq
 · have hqb : q ≠ b := fun e => by
    subst e
    rcases hor with hor | ⟨c, hor⟩
    · rw [hor] at hq; cases hq
    · injection hor with h1; exact hne h1
   exact ⟨by rw [put_ne hqb]; exact hq, fun e => by injection e with e; injection e with e; exact hqb e.symm⟩
theorem OB.putb {h0 h : PHeap} {a : OA} {n k b : Nat} {l : Bytes} {o : Obj} (hb : OB h0 h a n k l) (hab : a ≠ ad b 0) (hn : h0 b = none) : OB h0 (h.put b o) a n k l := by
 refine ⟨Own.keep (fun q hq => put_ne (fun e => by subst e; exact hab hq)) hb.own, hb.new, fun q o' hq => ?_⟩
 have hqb : q ≠ b := fun e => by subst e; rw [hn] at hq; cases hq
 rw [put_ne hqb]; exact hb.ext _ _ hq
theorem OB.up {h0 h h' : PHeap} {a : OA} {n k : Nat} {l : Bytes} (hb : OB h0 h a n k l) (x : Ext h h') : OB h0 h' a n k l := by
 refine ⟨⟨hb.own.1, ?_⟩, hb.new, hb.ext.trans x⟩
 rcases hb.own.2 with h1 | ⟨b', cap, rest, h1, h2, h3, h4⟩
 · exact .inl h1
 · exact .inr ⟨b', cap, rest, h1, x _ _ h2, h3, h4⟩
structure PW (h0 h : PHeap) (b : Nat) (β : Bytes) (d : Value) : Prop where
 blk : ∃ p a n k, h b = some (.cells ⟨[p, vL a n k, d]⟩ 114 (0, 0)) ∧ (p = .pointer none ∨ p = vP b 0) ∧ OB h0 h a n k β ∧ a ≠ ad b 0
 new : h0 b = none
section
variable {h0 h h' : PHeap} {b : Nat} {β : Bytes} {d : Value}
theorem PW.ext (hw : PW h0 h b β d) : Ext h0 h := by
 obtain ⟨p, a, n, k, _, _, hO, _⟩ := hw.blk
 exact hO.ext
theorem PW.up (hw : PW h0 h b β d) (x : Ext h h') : PW h0 h' b β d := by
 obtain ⟨p, a, n, k, hb, hp, hO, hne⟩ := hw.blk
 exact ⟨⟨p, a, n, k, x _ _ hb, hp, hO.up x, hne⟩, hw.new⟩
theorem PW.depth (hw : PW h0 h b β d) : h.cell b (0 + 2) = some d := by
 obtain ⟨p, a, n, k, hb, hp, hO, hne⟩ := hw.blk
 rw [cell_of hb]; rfl
theorem PW.setd (hw : PW h0 h b β d) (d' : Value) : ∃ l, h b = some (.cells ⟨l⟩ 114 (0, 0)) ∧ (0 + 2) + 1 ≤ l.length ∧ ∀ v, v = d' → PW h0 (h.put b (.cells ⟨splice l (0 + 2) [v]⟩ 114 (0, 0))) b β d' := by
 obtain ⟨p, a, n, k, hb, hp, hO, hne⟩ := hw.blk
 refine ⟨_, hb, by simp, fun v hv => ?_⟩
 subst hv
 exact ⟨⟨p, a, n, k, put_same _ _ _, hp, hO.putb hne hw.new, hne⟩, hw.new⟩
theorem writes_t {l : Bytes} (hw : PW h0 h b β d) (hl : β.length ≤ 10000000) (hl2 : l.length ≤ 10000000) : Tri Tryz.prog 105 [vP b 0, vS l] h fun v h' => ∃ i u, v = vT [vI i, u] ∧ PW h0 h' b (β ++ l) d := by
 obtain ⟨p, a, n, k, hb, hp, hO, hne⟩ := hw.blk
 refine T105 ?_
 unfold R105
 refine Tri.mono (cc_t hb hp) ?_
 rintro _ h1 ⟨rfl, rfl⟩
 have hO1 : OB h0 (h.put b (.cells ⟨[vP b 0, vL a n k, d]⟩ 114 (0, 0))) a n k β := hO.putb hne hw.new
 refine ⟨rfl, a, n, k, by rw [cell_of (put_same _ _ _)]; rfl, ?_⟩
 refine Raw.mono (OB.app hO1 hl hl2 (SrcH.string rfl ⟨⟨l⟩⟩) rfl rfl rfl rfl rfl) ?_
 rintro v h2 ⟨a', n', k', rfl, hO2, hk⟩
 obtain ⟨hb2, hne2⟩ := hk b _ (put_same _ _ _) hne
 refine ⟨_, _, _, rfl, _, _, _, hb2, ⟨by simp, Nat.zero_le _⟩, fun h3 hh3 => ?_⟩
 subst hh3
 exact ⟨_, _, rfl, ⟨_, a', n', k', put_same _ _ _, .inr rfl, hO2.putb hne2 hw.new, hne2⟩, hw.new⟩
theorem writeb_t {c : UInt8} (hw : PW h0 h b β d) (hl : β.length ≤ 10000000) : Tri Tryz.prog 108 [vP b 0, vU c.toNat] h fun _ h' => PW h0 h' b (β ++ [c]) d := by
 obtain ⟨p, a, n, k, hb, hp, hO, hne⟩ := hw.blk
 refine T108 ?_
 unfold R108
 refine Tri.mono (cc_t hb hp) ?_
 rintro _ h1 ⟨rfl, rfl⟩
 have hO1 : OB h0 (h.put b (.cells ⟨[vP b 0, vL a n k, d]⟩ 114 (0, 0))) a n k β := hO.putb hne hw.new
 refine ⟨rfl, a, n, k, by rw [cell_of (put_same _ _ _)]; rfl, fun b2 hb2 h2 hh2 => ?_⟩
 have hx2 := Put.ext hh2 hb2
 refine Raw.mono (OB.app (m := [c]) (hO1.up hx2) hl (by simp) (SrcH.row (b := b2) (o := 0) (c := 1) und40' rfl (by exact (row_lit (Put.at hh2) fun j v hj => by rw [Nat.zero_add]; exact hj)) rfl) rfl rfl rfl rfl rfl) ?_
 rintro v h3 ⟨a', n', k', rfl, hO2, hk⟩
 obtain ⟨hb3, hne2⟩ := hk b _ (hx2 _ _ (put_same _ _ _)) hne
 refine ⟨_, _, _, rfl, _, _, _, hb3, ⟨by simp, Nat.zero_le _⟩, fun h4 hh4 => ?_⟩
 subst hh4
 exact ⟨⟨_, a', n', k', put_same _ _ _, .inr rfl, hO2.putb hne2 hw.new, hne2⟩, hw.new⟩
end
section
variable {h0 h : PHeap} {a : OA} {n k b : Nat} {β : Bytes} {d : Value}
theorem sdata_t (hO : OB h0 h a n k β) : Raw Tryz.prog (execOp (rho [(6, vL a n k)]) (mkO o74_0 158)) h fun v h' => ∃ q : OA, v = .pointer q ∧ Ext h h' ∧ (n ≠ 0 → q = a ∧ h' = h) := by
 intro w hs
 have hexec : (execOp (rho [(6, vL a n k)]) (mkO o74_0 158)).run Tryz.prog w = ((Builtin.unsafeSliceData_ #[40] 158 #[vL a n k]).run Tryz.prog w).andThen fun v w' => .ok (.value v) w' := by
  simp [execOp, mkO, resolve, invoke, builtin, rho]
  rfl
 rcases hO.own.2 with ⟨h1, h2⟩ | ⟨b', cap, rest, h1, h2, h3, h4⟩
 · injection h1 with h1 h5 h6
   subst h1; subst h2
   rw [Lib.run_unsafeSliceData_nil] at hexec
   exact ⟨_, _, w, h, hexec, .inl rfl, ⟨_, rfl, Ext.refl _, fun hn => absurd rfl hn⟩, hs, Keep.refl w h⟩
 · injection h1 with h1 _ h5
   subst h1; subst h5
   by_cases hk : k = 0
   · subst hk
     have hsh : w.shape? b' = some (5, (β.map byteV ++ rest).length) := by simp [World.shape?, hs _ _ h2]
     rw [Lib.run_unsafeSliceData_zero w #[40] 158 5 rfl ⟨b', 0, none⟩ n _ hsh] at hexec
     exact ⟨_, _, _, h.put w.heap.size _, hexec, .inl rfl, ⟨_, rfl, Put.ext rfl hs.fresh, fun hn => by omega⟩, hs.allocReal _, Keep.allocReal w h _⟩
   · rw [Lib.run_unsafeSliceData_row w #[40] 158 ⟨b', 0, none⟩ n k hk] at hexec
     exact ⟨_, _, w, h, hexec, .inl rfl, ⟨_, rfl, Ext.refl _, fun _ => ⟨rfl, rfl⟩⟩, hs, Keep.refl w h⟩
theorem ustr_t {q : OA} (hO : OB h0 h a n k β) (hl : β.length ≤ 1000000) (hq : n ≠ 0 → q = a) (hne : a ≠ ad b 0) : Raw Tryz.prog (execOp (rho [(7, .pointer q), (12, vI ((n : Nat) : Int))]) (mkO o74_1 9)) h fun v h' => v = vS β ∧ Ext h0 h' ∧ h' b = h b := by
 intro w hs
 have hexec : (execOp (rho [(7, .pointer q), (12, vI ((n : Nat) : Int))]) (mkO o74_1 9)).run Tryz.prog w = ((Builtin.unsafeString_ #[158, 3] 9 #[.pointer q, vI ((n : Nat) : Int)]).run Tryz.prog w).andThen fun v w' => .ok (.value v) w' := by
  simp [execOp, mkO, resolve, invoke, builtin, rho]
  rfl
 have hn := hO.len
 by_cases h0' : n = 0
 · subst h0'
   rw [show vI ((0 : Nat) : Int) = .int .i64 0 from rfl, Lib.run_unsafeString_none] at hexec
   have hβ : β = [] := List.eq_nil_of_length_eq_zero (by omega)
   subst hβ
   exact ⟨_, _, w, h, hexec, .inl rfl, ⟨rfl, hO.ext, rfl⟩, hs, Keep.refl w h⟩
 · have hqa := hq h0'
   subst hqa
   rcases hO.own.2 with ⟨h1, h2⟩ | ⟨b', cap, rest, h1, h2, h3, h4⟩
   · omega
   · injection h1 with h1 _ h5
     subst h1; subst h5
     have hbb : b' ≠ b := fun e => hne (by rw [e])
     have hw := hs _ _ h2
     have hcell : ∀ j x, β[j]? = some x → w.cell? ((⟨b', 0, none⟩ : Addr).add j) = some (.int .u8 x.toNat) := fun j x hj => by
      rw [Addr.add_lit]
      simp only [World.cell?, hw]
      have hjl := (List.getElem?_eq_some_iff.1 hj).1
      simp [List.getElem?_append_left (show j < (β.map byteV).length by simpa using hjl), hj, byteV]
     have hsh : w.shape? b' = some (5, (β.map byteV ++ rest).length) := by simp [World.shape?, hw]
     have hrun := Lib.run_unsafeString_row (P := Tryz.prog) w 158 3 9 5 rfl (by kernel_rfl) b' _ hsh β (fun e => by rw [e] at hn; simp at hn; exact h0' hn) (by simp) (by omega) hcell
     subst hn
     rw [hrun] at hexec
     have hpos : ¬ β.length = 0 := h0'
     refine ⟨_, _, _, h.put b' (.cells ⟨β.map byteV ++ rest⟩ 5 (0, 0 + β.length)), hexec, .inl rfl, ⟨rfl, fun x o hx => ?_, put_ne (fun e => hbb e.symm)⟩, fun x o hx => ?_, ⟨by unfold World.freeze; rw [if_neg hpos], by unfold World.freeze; rw [if_neg hpos], by unfold World.freeze; rw [if_neg hpos], ?_, fun x hx hn => ?_⟩⟩
     · have hxb : x ≠ b' := fun e => by subst e; rw [hO.new x rfl] at hx; cases hx
       rw [put_ne hxb]; exact hO.ext _ _ hx
     · unfold World.freeze
       rw [if_neg hpos]
       simp only [Array.getElem?_modify]
       by_cases e : x = b'
       · subst e
         rw [put_same] at hx
         injection hx with hx
         rw [if_pos rfl, hw, ← hx]; rfl
       · rw [put_ne e] at hx
         rw [if_neg (fun e2 => e e2.symm)]; exact hs _ _ hx
     · unfold World.freeze; rw [if_neg hpos]; simp
     · have e : x ≠ b' := fun e => by subst e; rw [h2] at hn; cases hn
       refine ⟨by rw [put_ne e]; exact hn, ?_⟩
       unfold World.freeze
       rw [if_neg hpos]
       simp only [Array.getElem?_modify]
       rw [if_neg (fun e2 => e e2.symm)]
attribute [local irreducible] IntKind.wrap Tri
theorem string_t (hw : PW h0 h b β d) (hl : β.length ≤ 1000000) : Tri Tryz.prog 74 [vP b 0] h fun v h' => v = vS β ∧ Ext h0 h' := by
 obtain ⟨p, a, n, k, hb, hp, hO, hne⟩ := hw.blk
 refine T74 ?_
 unfold R74
 refine ⟨a, n, k, by rw [cell_of hb]; rfl, a, n, k, by rw [cell_of hb]; rfl, ?_⟩
 refine Raw.mono (sdata_t hO) ?_
 rintro _ h1 ⟨q, rfl, hx, hq⟩
 refine ⟨_, rfl, by rw [cell_of (hx _ _ hb)]; rfl, ?_⟩
 refine Raw.mono (ustr_t (b := b) (hO.up hx) hl (fun hn => (hq hn).1) hne) ?_
 rintro _ h2 ⟨rfl, hx2, hb2⟩
 exact ⟨_, rfl, by rw [cell_of (hb2.trans (hx _ _ hb))]; rfl, rfl, hx2⟩
end
end Go.Proofs.D
namespace Go.Proofs.D
open Go Go.Den Go.As
set_option maxRecDepth 100000
attribute [local irreducible] IntKind.wrap Tri
theorem LbAt.drop {h : PHeap} {a : OA} {ls : List Lb} (ht : LbAt h a ls) {k i : Nat} (hk : ls.length ≤ k) {a' : OA} (hs : SlA a a' i k 3) : LbAt h a' (ls.drop i) := by
 by_cases hi : i < ls.length
 · rcases ht with rfl | ⟨b, o, rfl, ht⟩
   · simp at hi
   · obtain ⟨o', h1, h2⟩ := hs.1 b o rfl
     refine .inr ⟨b, o', h1, fun j t hj => ?_⟩
     rw [List.getElem?_drop] at hj
     rw [h2 (.inl (by omega)), Nat.add_assoc, ← Nat.add_mul]
     exact ht _ _ hj
 · exact .inl (by simp; omega)
section
variable {h0 h : PHeap} {b : Nat} {β : Bytes} {d : Value}
theorem line71_t {l : Bytes} (hw : PW h0 h b β d) (hl : β.length + l.length ≤ 1000000) : Tri Tryz.prog 71 [vP b 0, vS l] h fun v h' => v = vT [] ∧ PW h0 h' b (β ++ (l ++ [10])) d := by
 refine T71 ?_
 unfold R71
 refine Tri.mono (writes_t hw (by omega) (by omega)) ?_
 rintro _ h2 ⟨i, u, rfl, hw2⟩
 refine ⟨_, _, rfl, ?_⟩
 refine Tri.mono (writeb_t (c := 10) hw2 (by rw [List.length_append]; omega)) ?_
 intro v4 h4 hw4
 exact ⟨_, rfl, rfl, by simpa using hw4⟩
structure LS (h0 : PHeap) (a : OA) (k : Nat) (ls : List Lb) : Prop where
 at' : LbAt h0 a ls
 le : ls.length ≤ k
 ok : okA a ls.length k
theorem LS.tail {a a' : OA} {k : Nat} {l : Lb} {ls : List Lb} (hL : LS h0 a k (l :: ls)) (hs : SlA a a' 1 k 3) : LS h0 a' (k - 1) ls := by
 have hle := hL.le
 simp only [List.length_cons] at hle
 refine ⟨hL.at'.drop hL.le hs, by omega, ?_⟩
 rcases hL.ok with ⟨b, o, h1⟩ | ⟨h1, h2, _⟩
 · obtain ⟨o', h2, _⟩ := hs.1 b o h1
   exact .inl ⟨b, o', h2⟩
 · simp at h2
theorem marks_cons (l : Lb) (ls : List Lb) : joinL (marksT (l :: ls)) = (l.name ++ [58]) ++ 10 :: joinL (marksT ls) := rfl
theorem at72_t {dt : Bool} {off : Nat} {ls : List Lb} {a1 : OA} {k1 : Nat} (hw : PW h0 h b β (vL a1 ls.length k1)) (hL : LS h0 a1 k1 ls) (hB : β.length + (joinL (marksT (takeM dt off ls))).length ≤ 900000) :
 Tri Tryz.prog 72 [vP b 0, vB dt, vI (off : Int)] h fun v h' => v = vT [] ∧ ∃ a2 k2, PW h0 h' b (β ++ joinL (marksT (takeM dt off ls))) (vL a2 (dropM dt off ls).length k2) ∧ LS h0 a2 k2 (dropM dt off ls) := by
 refine T72 ?_
 unfold R72
 refine ⟨fun m h' => ∃ (β' : Bytes) (rem : List Lb) (a : OA) (k : Nat), m = rem.length ∧ PW h0 h' b β' (vL a rem.length k) ∧ LS h0 a k rem ∧ dropM dt off ls = dropM dt off rem ∧ β ++ joinL (marksT (takeM dt off ls)) = β' ++ joinL (marksT (takeM dt off rem)),
  ⟨_, β, ls, a1, k1, rfl, hw, hL, rfl, rfl⟩, ?_⟩
 rintro m h1 ⟨β', rem, a, k, rfl, hw1, hL1, hdr, hjo⟩
 have stop : takeM dt off rem = [] → dropM dt off rem = rem → vT [] = vT [] ∧ ∃ a2 k2, PW h0 h1 b (β ++ joinL (marksT (takeM dt off ls))) (vL a2 (dropM dt off ls).length k2) ∧ LS h0 a2 k2 (dropM dt off ls) := fun h1 h2 => by
  rw [h1] at hjo
  rw [hdr, h2, hjo]
  exact ⟨rfl, a, k, by rw [show joinL (marksT []) = [] from rfl, List.append_nil]; exact hw1, hL1⟩
 refine ⟨a, rem.length, k, hw1.depth, br_split (fun e => ?_) fun e => ?_⟩
 · match rem, hw1, hL1, hdr, hjo, stop, e with
   | [], _, _, _, _, _, e => exact absurd (of_decide_eq_true e) (by simp)
   | l :: rem, hw1, hL1, hdr, hjo, stop, _ =>
     obtain ⟨bb, o, ha, hrow⟩ := (hL1.at'.ext hw1.ext).get (j := 0) rfl
     rw [Nat.zero_mul, Nat.add_zero] at hrow
     have hz : (0 : Int) ≤ 0 ∧ (0 : Int) < ((l :: rem).length : Nat) := ⟨by omega, by simp only [List.length_cons]; omega⟩
     refine ⟨a, _, k, hw1.depth, bb, o, ha, hz, l.data, hrow.2.1, br_split (fun e1 => ⟨a, _, k, hw1.depth, bb, o, ha, hz, l.off, hrow.2.2, br_split (fun e2 => ?_) fun e2 => ?_⟩) fun e1 => ?_⟩
     · have hm : (l.data == dt && l.off == (off : Int)) = true := by rw [e1, e2]; rfl
       have ht : takeM dt off (l :: rem) = l :: takeM dt off rem := by unfold takeM; rw [List.takeWhile_cons, hm]; rfl
       have hd : dropM dt off (l :: rem) = dropM dt off rem := by unfold dropM; rw [List.dropWhile_cons, hm]; rfl
       rw [ht, marks_cons] at hjo
       have hlen := congrArg List.length hjo
       simp only [List.length_append, List.length_cons, List.length_nil] at hlen
       have hB2 : β.length + (joinL (marksT (takeM dt off ls))).length ≤ 900000 := hB
       refine ⟨a, _, k, hw1.depth, bb, o, ha, hz, l.name, hrow.1, by rw [List.length_singleton]; omega, ?_⟩
       refine Tri.mono (line71_t hw1 (by rw [List.length_append, List.length_singleton]; omega)) ?_
       rintro _ h2 ⟨rfl, hw2⟩
       refine ⟨rfl, a, _, k, hw2.depth, ⟨hL1.ok, by omega, by simp only [List.length_cons]; omega, by have := hL1.le; omega⟩, ?_⟩
       intro a6 hs6
       obtain ⟨cl, hc1, hc2, hc3⟩ := hw2.setd (vL a6 rem.length (k - 1))
       refine ⟨cl, _, _, hc1, ⟨hc2, Nat.zero_le _⟩, ?_⟩
       rintro h3 rfl
       refine ⟨rem.length, by simp, ⟨_, rem, a6, k - 1, rfl, hc3 _ (by simp), hL1.tail hs6, by rw [hdr, hd], ?_⟩, trivial⟩
       rw [hjo]; simp
     · have hm : (l.data == dt && l.off == (off : Int)) = false := by rw [e2]; simp
       exact stop (by unfold takeM; rw [List.takeWhile_cons, hm]; rfl) (by unfold dropM; rw [List.dropWhile_cons, hm]; rfl)
     · have hm : (l.data == dt && l.off == (off : Int)) = false := by rw [e1]; simp
       exact stop (by unfold takeM; rw [List.takeWhile_cons, hm]; rfl) (by unfold dropM; rw [List.dropWhile_cons, hm]; rfl)
 · have hr : rem = [] := List.eq_nil_of_length_eq_zero (by have := of_decide_eq_false e; omega)
   subst hr
   exact stop rfl rfl
end
end Go.Proofs.D
namespace Go.As
theorem code_rest {p : Pg} (h : POkS p) : ∃ m, m ++ (codeP 0 p.code p.labels).2 = p.labels ∧ ∀ l ∈ (codeP 0 p.code p.labels).2, l.data = true := by
 obtain ⟨n2, m, h2, h3, h4⟩ := code_back (z := 0) (e := 0) (he := true) (hz := true) (us := []) p.code 0 [] [] [] p.labels 1 [] ⟨rfl, h⟩ rfl rfl (fun l hl _ => by have := (h.each l hl).lo; omega)
 exact ⟨m, h3, h4⟩
structure Rest (at' : Nat) (ls : List Lb) : Prop where
 all : ∀ l ∈ ls, l.data = true ∧ (at' : Int) ≤ l.off
 sort : ls.Pairwise fun x y => x.off ≤ y.off
theorem rest_of {p : Pg} (h : POkS p) : Rest 0 (codeP 0 p.code p.labels).2 := by
 obtain ⟨m, h1, h2⟩ := code_rest h
 have hwk : (m ++ (codeP 0 p.code p.labels).2).Pairwise Wk := by
  rw [h1]; exact h.sorted.imp fun {a b} hab => follows_wk hab
 have hw := (List.pairwise_append.1 hwk).2.1
 refine ⟨fun l hl => ⟨h2 l hl, ?_⟩, ?_⟩
 · have := (h.each l (by rw [← h1]; exact List.mem_append_right _ hl)).lo
   simpa using this
 · refine List.Pairwise.imp_of_mem (R := Wk) (fun {a b} ha hb hab => ?_) hw
   exact hab.2 (by rw [h2 a ha, h2 b hb])
theorem Rest.drop {at' : Nat} {ls : List Lb} (h : Rest at' ls) : Rest at' (dropM true at' ls) ∧ ∀ l ∈ dropM true at' ls, (at' : Int) < l.off := by
 have hsub : (dropM true at' ls).Sublist ls := List.dropWhile_sublist _
 have hr : Rest at' (dropM true at' ls) := ⟨fun l hl => h.all l (hsub.subset hl), h.sort.sublist hsub⟩
 refine ⟨hr, fun l hl => ?_⟩
 cases hd : dropM true at' ls with
 | nil => rw [hd] at hl; cases hl
 | cons x t =>
   have hx := drop_head hd
   have h1 := hr.all x (by rw [hd]; exact List.mem_cons_self ..)
   have h2 : (at' : Int) < x.off := by
    have : x.off ≠ (at' : Int) := fun e => hx ⟨h1.1, e⟩
    omega
   rw [hd] at hl
   rcases List.mem_cons.1 hl with rfl | hl
   · exact h2
   · have h3 := hr.sort
     rw [hd] at h3
     have := (List.pairwise_cons.1 h3).1 l hl
     omega
theorem Rest.step {at' : Nat} {r : Bytes} {ls : List Lb} (h : Rest at' ls) (hr : r ≠ []) : 1 ≤ chunkN at' r (dropM true at' ls) ∧ chunkN at' r (dropM true at' ls) ≤ r.length ∧ chunkN at' r (dropM true at' ls) ≤ 32 ∧ Rest (at' + chunkN at' r (dropM true at' ls)) (dropM true at' ls) := by
 obtain ⟨h1, h2⟩ := h.drop
 have hlr : 1 ≤ r.length := List.length_pos_iff.2 hr
 have hn : chunkN at' r (dropM true at' ls) ≤ min 32 r.length := Nat.min_le_left _ _
 cases hd : dropM true at' ls with
 | nil =>
   have hc : chunkN at' r [] = min (min 32 r.length) 32 := rfl
   rw [hc]
   refine ⟨by omega, by omega, by omega, fun l hl => (by cases hl), List.Pairwise.nil⟩
 | cons x t =>
   rw [hd] at h1 h2
   have hx := h2 x (List.mem_cons_self ..)
   have hc : chunkN at' r (x :: t) = min (min 32 r.length) ((x.off - at').toNat) := rfl
   rw [hc]
   refine ⟨by omega, by omega, by omega, fun l hl => ⟨(h1.all l hl).1, ?_⟩, h1.sort⟩
   have : x.off ≤ l.off := by
    rcases List.mem_cons.1 hl with rfl | hl
    · omega
    · exact (List.pairwise_cons.1 h1.sort).1 l hl
   omega
end Go.As
namespace Go.Proofs.D
open Go Go.Den Go.As
set_option maxRecDepth 100000
attribute [local irreducible] IntKind.wrap Tri
section
variable {h0 h : PHeap} {b : Nat} {β : Bytes}
theorem joinL_cons (x : Bytes) (l : List Bytes) : joinL (x :: l) = x ++ 10 :: joinL l := rfl
theorem data73_t {s : Bytes} {ls : List Lb} {a1 : OA} {k1 : Nat} (hw : PW h0 h b β (vL a1 ls.length k1)) (hL : LS h0 a1 k1 ls) (hs : s.length ≤ 4096) (hR : As.Rest 0 ls) (hB : β.length + (joinL (dData :: (dataP (s.length + 1) 0 s ls).1)).length ≤ 900000) :
 Tri Tryz.prog 73 [vP b 0, vS s] h fun v h' => v = vT [] ∧ ∃ d', PW h0 h' b (β ++ joinL (dData :: (dataP (s.length + 1) 0 s ls).1)) d' := by
 refine T73 ?_
 unfold R73
 rw [joinL_cons] at hB ⊢
 have hB1 := hB
 simp only [List.length_append, List.length_cons] at hB1
 have hdl : dData.length = 5 := rfl
 refine Tri.mono (line71_t (l := dData) hw (by omega)) ?_
 rintro _ h1 ⟨rfl, hw1⟩
 refine ⟨rfl, ?_⟩
 generalize hW : β ++ (dData ++ 10 :: joinL (dataP (s.length + 1) 0 s ls).1) = W
 have hWl : W.length ≤ 900000 := by rw [← hW]; simp only [List.length_append, List.length_cons] at hB ⊢; omega
 refine ⟨fun m i h' => ∃ (at' f : Nat) (β' : Bytes) (rem : List Lb) (a : OA) (k : Nat), i = (at' : Int) ∧ at' + m = s.length ∧ m < f ∧ PW h0 h' b β' (vL a rem.length k) ∧ LS h0 a k rem ∧ As.Rest at' rem ∧ W = β' ++ joinL (dataP f at' (s.drop at') rem).1,
  ⟨s.length, 0, s.length + 1, _, ls, a1, k1, rfl, by omega, by omega, hw1, hL, hR, by rw [← hW, List.drop_zero]; simp⟩, ?_⟩
 rintro m _ h2 ⟨at', f, β', rem, a, k, rfl, hatm, hmf, hw2, hL2, hR2, hW2⟩
 obtain ⟨f, rfl⟩ : ∃ g, f = g + 1 := ⟨f - 1, by omega⟩
 refine br_split (fun e => ?_) fun e => ?_
 · have hlt : at' < s.length := by have := of_decide_eq_true e; omega
   have hrl : (s.drop at').length = s.length - at' := List.length_drop
   have hne : s.drop at' ≠ [] := fun hh => by rw [hh] at hrl; simp at hrl; omega
   have hem : (s.drop at').isEmpty = false := by cases hq : s.drop at' with
    | nil => exact absurd hq hne
    | cons _ _ => rfl
   obtain ⟨n1, n2, n3, hR3⟩ := hR2.step hne
   have hW3 : W = β' ++ joinL (marksT (takeM true at' rem)) ++ ((9 :: (dText ++ 32 :: quoteA ((s.drop at').take (chunkN at' (s.drop at') (dropM true at' rem))))) ++ 10 :: joinL (dataP f (at' + chunkN at' (s.drop at') (dropM true at' rem)) ((s.drop at').drop (chunkN at' (s.drop at') (dropM true at' rem))) (dropM true at' rem)).1) := by
    rw [hW2, dataP, hem]
    simp only [Bool.false_eq_true, if_false]
    rw [joinL_app, joinL_cons, List.append_assoc]
   have hlen3 := congrArg List.length hW3
   simp only [List.length_append, List.length_cons] at hlen3
   refine Tri.mono (at72_t (dt := true) (off := at') hw2 hL2 (by omega)) ?_
   rintro _ h3 ⟨rfl, a2, k2, hw3, hL3⟩
   have hnd : ∀ l ∈ dropM true at' rem, (at' : Int) < l.off := hR2.drop.2
   have hdd : (s.drop at').drop (chunkN at' (s.drop at') (dropM true at' rem)) = s.drop (at' + chunkN at' (s.drop at') (dropM true at' rem)) := by rw [List.drop_drop]
   rw [hdd] at hW3
   have hcn : (∀ l t, dropM true at' rem = l :: t → chunkN at' (s.drop at') (dropM true at' rem) = min (min 32 (s.length - at')) ((l.off - at').toNat)) ∧ (dropM true at' rem = [] → chunkN at' (s.drop at') (dropM true at' rem) = min 32 (s.length - at')) :=
    ⟨fun l t hh => by rw [hh]; unfold chunkN; rw [hrl], fun hh => by rw [hh]; unfold chunkN; rw [hrl]; show min (min 32 _) 32 = _; omega⟩
   generalize hds : dropM true at' rem = ds at *
   generalize hcc : chunkN at' (s.drop at') ds = c at *
   have hw32 : IntKind.i64.wrap ((at' : Int) + 32) = ((at' + 32 : Nat) : Int) := by rw [wrap64 (by omega) (by omega)]; omega
   rw [hw32]
   refine ⟨rfl, if ((s.length : Int)) < ((at' + 32 : Nat) : Int) then (s.length : Int) else ((at' + 32 : Nat) : Int), pureVal_run _ (by kernel_rfl), a2, ds.length, k2, hw3.depth, ?_⟩
   have go : ∀ (i4 : Int), i4 = ((at' + c : Nat) : Int) → (0 ≤ (at' : Int) ∧ (at' : Int) ≤ i4 ∧ i4 ≤ (s.length : Int)) ∧
    Tri Tryz.prog 30 [vS ((s.drop ((at' : Nat) : Int).toNat).take ((i4).toNat - ((at' : Nat) : Int).toNat))] h3 fun v_3 h_4 =>
    ∃ (l2 : Bs), v_3 = vS l2 ∧
    ([9, 46, 116, 101, 120, 116, 32] : Bs).length + l2.length ≤ 9223372036854775807 ∧
    Tri Tryz.prog 71 [vP b 0, vS (([9, 46, 116, 101, 120, 116, 32] : Bs) ++ l2)] h_4 fun v_4 h_5 =>
    v_4 = vT [] ∧
    ∃ (m3 : Nat), m3 < m ∧ (∃ (at2 f : Nat) (β' : Bytes) (rem : List Lb) (a : OA) (k : Nat), i4 = (at2 : Int) ∧ at2 + m3 = s.length ∧ m3 < f ∧ PW h0 h_5 b β' (vL a rem.length k) ∧ LS h0 a k rem ∧ As.Rest at2 rem ∧ W = β' ++ joinL (dataP f at2 (s.drop at2) rem).1) ∧
    True := fun i4 hi4 => by
    subst hi4
    refine ⟨⟨by omega, by omega, by omega⟩, ?_⟩
    rw [Int.toNat_natCast, Int.toNat_natCast, Nat.add_sub_cancel_left]
    have htl : ((s.drop at').take c).length ≤ 32 := by rw [List.length_take]; omega
    refine Tri.mono (quote_t _ (by omega)) ?_
    rintro _ h4 ⟨rfl, x4⟩
    have hql : (quoteA ((s.drop at').take c)).length ≤ 130 := by
     have := qcs_len4 ((s.drop at').take c)
     unfold quoteA; simp only [List.length_cons, List.length_append, List.length_nil]; omega
    refine ⟨_, rfl, by simp only [List.length_cons, List.length_nil]; omega, ?_⟩
    refine Tri.mono (line71_t (hw3.up x4) (by simp only [List.length_append, List.length_cons, List.length_nil] at hlen3 ⊢; omega)) ?_
    rintro _ h5 ⟨rfl, hw5⟩
    refine ⟨rfl, m - c, by omega, ⟨at' + c, f, _, ds, a2, k2, rfl, by omega, by omega, hw5, hL3, hR3, ?_⟩, trivial⟩
    rw [hW3]
    simp [dText]
   refine br_split (fun e1 => ?_) fun e1 => ?_
   · match ds, hds, hcc, hcn, hnd, hL3, hw3, e1, go with
     | [], _, _, _, _, _, _, e1, _ => exact absurd (of_decide_eq_true e1) (by simp)
     | l :: ds, hds, hcc, hcn, hnd, hL3, hw3, e1, go =>
       obtain ⟨bb, o, ha, hrow⟩ := (hL3.at'.ext hw3.ext).get (j := 0) rfl
       rw [Nat.zero_mul, Nat.add_zero] at hrow
       have hlo := hnd l (List.mem_cons_self ..)
       have hcn := hcn.1 l ds rfl
       refine ⟨a2, _, k2, hw3.depth, bb, o, ha, ⟨by omega, by simp only [List.length_cons]; omega⟩, l.off, hrow.2.2, ?_⟩
       refine ⟨if l.off < (if ((s.length : Int)) < ((at' + 32 : Nat) : Int) then (s.length : Int) else ((at' + 32 : Nat) : Int)) then l.off else (if ((s.length : Int)) < ((at' + 32 : Nat) : Int) then (s.length : Int) else ((at' + 32 : Nat) : Int)), pureVal_run _ (by kernel_rfl), go _ ?_⟩
       split <;> split at * <;> omega
   · have hd0 : ds = [] := List.eq_nil_of_length_eq_zero (by have := of_decide_eq_false e1; omega)
     subst hd0
     have hcn := hcn.2 rfl
     exact go _ (by split <;> omega)
 · have hat : at' = s.length := by have := of_decide_eq_false e; omega
   subst hat
   have hW3 : W = β' ++ joinL (marksT (takeM true s.length rem)) := by
    rw [hW2, dataP, List.drop_length]; rfl
   have hlen3 := congrArg List.length hW3
   rw [List.length_append] at hlen3
   refine Tri.mono (at72_t (dt := true) (off := s.length) hw2 hL2 (by omega)) ?_
   rintro _ h3 ⟨rfl, a2, k2, hw3, hL3⟩
   exact ⟨rfl, rfl, _, by rw [hW3]; exact hw3⟩
end
end Go.Proofs.D
namespace Go.As
def progOf : Except (Nat × Nat) Pg → Pg
 | .ok q => q
 | .error _ => ⟨[], [], 0, 0, []⟩
def lineOf : Except (Nat × Nat) Pg → Nat
 | .ok _ => 0
 | .error e => e.1
def errOf : Except (Nat × Nat) Pg → Nat
 | .ok _ => 0
 | .error e => e.2
theorem spread_snoc (β : Bytes) : ∀ (a : Bytes) (c : UInt8), spread β (a ++ [c]) = spread β a ++ (if c = 10 then β ++ [10, 9, 32] else [c])
 | [], c => by
   by_cases h : c = 10 <;> simp [spread, h]
 | x :: a, c => by
   have ih := spread_snoc β a c
   by_cases h : x = 10 <;> simp [spread, h, ih]
end Go.As
namespace Go.Proofs.D
open Go Go.Den Go.As
set_option maxRecDepth 100000
attribute [local irreducible] IntKind.wrap Tri
section
variable {h h0 : PHeap}
theorem AsmR.get {r : Except (Nat × Nat) Pg} {v : Value} (hr : AsmR h0 r v h) : Ext h0 h ∧ ∃ a1 k1 a2 k2, v = vT [PV a1 k1 a2 k2 (progOf r), vI (lineOf r : Int), vI (errOf r : Int)] ∧ PgAt h a1 k1 a2 k2 (progOf r) := by
 obtain ⟨x, hr⟩ := hr
 refine ⟨x, ?_⟩
 cases r with
 | error e =>
   obtain ⟨l, e⟩ := e
   obtain ⟨_, rfl⟩ := hr
   exact ⟨none, 0, none, 0, rfl, .inl rfl, .inl rfl, ⟨Nat.le_refl _, fun _ => ⟨rfl, rfl⟩⟩, ⟨Nat.le_refl _, fun _ => ⟨rfl, rfl⟩⟩⟩
 | ok q =>
   obtain ⟨a1, k1, a2, k2, rfl, g1, g2, g3, g4⟩ := hr
   exact ⟨a1, k1, a2, k2, rfl, g1, g2, g3, g4⟩
theorem asm_small (s : Bytes) : (progOf (assembleS s)).code.length ≤ 1024 ∧ (progOf (assembleS s)).labels.length ≤ 1024 ∧ (progOf (assembleS s)).data.length ≤ 4096 := by
 cases hr : assembleS s with
 | error e => exact ⟨by simp [progOf], by simp [progOf], by simp [progOf]⟩
 | ok q =>
   have hok := check_ok (assemble_ok hr)
   have h1 := hok.codeLen
   have h2 := hok.count
   simp only [progOf]
   omega
end
theorem blanks_tri {h : PHeap} (hO : OpTab h) (hM : MaxLen h) (l1 : Bs) {k1 : Nat} (hk1 : k1 < 256) : Tri Tryz.prog 7 [vS l1, vU (k1 : Int)] h fun v h' => v = vB true ∧ ∀ k o, h k = some o → h' k = some o := by
 refine T7 ?_
 unfold R7
 refine ⟨if 1500 < (l1.length : Int) then 1500 else (l1.length : Int), pureVal_run _ (by kernel_rfl), by split <;> omega, ?_⟩
 have hcut : (l1.drop 0).take ((if 1500 < (l1.length : Int) then 1500 else (l1.length : Int)).toNat - 0) = l1.take 1500 := by
  rw [List.drop_zero, Nat.sub_zero]
  split
  · rfl
  · rw [Int.toNat_natCast, List.take_length, List.take_of_length_le (by omega)]
 rw [hcut]
 have hb : (l1.take 1500).length ≤ 1500 := by rw [List.length_take]; omega
 generalize l1.take 1500 = s at *
 intro b1 hb1 h1 hh1
 have x1 := Put.ext hh1 hb1
 have hn : Int.tmod (k1 : Int) 4 = ((k1 % 4 : Nat) : Int) := by rw [Int.tmod_eq_emod_of_nonneg (by omega)]; omega
 have hlt : k1 % 4 < 4 := Nat.mod_lt _ (by decide)
 rw [hn]
 generalize k1 % 4 = n at *
 refine ⟨b1, 0, rfl, ⟨by omega, by omega⟩, between n, ?_, ?_⟩
 · rw [Int.toNat_natCast, Nat.zero_add, Nat.mul_one, cell_of (Put.at hh1)]
   match n, hlt with
   | 0, _ => rfl
   | 1, _ => rfl
   | 2, _ => rfl
   | 3, _ => rfl
 have hβ : (between n).length ≤ 7 := (between_nl n).2
 have sl : ∀ t : Bytes, (spread (between n) t).length ≤ 10 * t.length := fun t => by
  have := spread_len (between n) t
  have h2 : ((between n).length + 3) * t.length ≤ 10 * t.length := Nat.mul_le_mul_right _ (by omega)
  omega
 have kn : ∀ h2, Ext h h2 → Tri Tryz.prog 15 [] h2 fun v_1 h_3 => ∃ (c2 : Bool), v_1 = vB c2 ∧ (vB c2 = vB true ∧ ∀ k o, h k = some o → h_3 k = some o) := fun h2 x2 => by
  refine Tri.mono (known_t (hO.ext x2) (hM.ext x2)) ?_
  rintro _ h3 ⟨rfl, x3⟩
  exact ⟨_, rfl, rfl, x2.trans x3⟩
 refine ⟨fun m l i h' => ∃ j : Nat, i = (j : Int) ∧ j + m = s.length ∧ h' = h1 ∧ l = spread (between n) (s.take j) ∧ ∀ c ∈ s.take j, c ≠ 34 ∧ c ≠ 59, ⟨s.length, 0, rfl, by omega, rfl, rfl, fun c hc => (List.not_mem_nil hc).elim⟩, ?_⟩
 rintro m _ _ h2 ⟨j, rfl, hjm, rfl, rfl, hno⟩
 have hsl := sl (s.take j)
 rw [List.length_take] at hsl
 refine br_split (fun e => ?_) fun e => ?_
 · have hlt2 : j < s.length := by have := of_decide_eq_true e; omega
   have hg : s[j]? = some s[j] := by simp [hlt2]
   have htk := List.take_append_getElem hlt2
   have hdr := List.drop_eq_getElem_cons hlt2
   generalize s[j] = c at *
   have hg' : s[((j : Nat) : Int).toNat]? = some c := by rw [Int.toNat_natCast]; exact hg
   have hw1 : IntKind.i64.wrap ((j : Int) + 1) = ((j + 1 : Nat) : Int) := by rw [wrap64 (by omega) (by omega)]; omega
   have hsn : spread (between n) (s.take (j + 1)) = spread (between n) (s.take j) ++ (if c = 10 then between n ++ [10, 9, 32] else [c]) := by rw [← htk, spread_snoc]
   refine ⟨by omega, c, hg', br_split (fun e1 => kn _ x1) fun e1 => ⟨by omega, c, hg', br_split (fun e2 => kn _ x1) fun e2 => ⟨by omega, c, hg', ?_⟩⟩⟩
   have c34 : c ≠ 34 := fun hh => by subst hh; simp at e1
   have c59 : c ≠ 59 := fun hh => by subst hh; simp at e2
   have hno2 : ∀ d ∈ s.take (j + 1), d ≠ 34 ∧ d ≠ 59 := fun d hd => by
    rw [← htk] at hd
    rcases List.mem_append.1 hd with hd | hd
    · exact hno d hd
    · rw [List.mem_singleton.1 hd]; exact ⟨c34, c59⟩
   refine br_split (fun e3 => ?_) fun e3 => ?_
   · have c10 : c = 10 := by
      apply UInt8.toNat_inj.1
      have : (c.toNat : Int) = 10 := by simpa using e3
      show c.toNat = 10
      omega
     refine ⟨by omega, by rw [List.length_append]; simp only [List.length_cons, List.length_nil]; omega, m - 1, by omega, ⟨j + 1, hw1, by omega, rfl, ?_, hno2⟩, trivial⟩
     rw [hsn, if_pos c10, List.append_assoc]
   · have c10 : c ≠ 10 := fun hh => by subst hh; simp at e3
     rw [hw1]
     have hsub : (s.drop ((j : Nat) : Int).toNat).take (((j + 1 : Nat) : Int).toNat - ((j : Nat) : Int).toNat) = [c] := by
      rw [Int.toNat_natCast, Int.toNat_natCast, Nat.add_sub_cancel_left, hdr]; rfl
     rw [hsub]
     refine ⟨⟨by omega, by omega, by omega⟩, by rw [List.length_singleton]; omega, m - 1, by omega, ⟨j + 1, rfl, by omega, rfl, ?_, hno2⟩, trivial⟩
     rw [hsn, if_neg c10]
 · have hj : j = s.length := by have := of_decide_eq_false e; omega
   subst hj
   rw [List.take_length] at hno ⊢
   have hsl := sl s
   refine Tri.mono (asm_t s (hO.ext x1) (hM.ext x1)) ?_
   intro v h3 hr
   obtain ⟨x3, a1, k1, a2, k2, rfl, hp1⟩ := hr.get
   have x13 := x1.trans x3
   refine ⟨_, _, _, _, _, _, _, _, _, _, _, rfl, by simp only [List.length_cons, List.length_nil]; omega, by simp only [List.length_append, List.length_cons, List.length_nil]; omega, by simp only [List.length_append, List.length_cons, List.length_nil]; omega, ?_⟩
   have htx : ((([32] : Bs) ++ spread (between n) s) ++ between n) ++ ([10, 10, 32, 59, 32, 101, 110, 100] : Bs) = blanksT n s := by
    unfold blanksT; simp
   rw [htx]
   refine Tri.mono (asm_t (blanksT n s) (hO.ext x13) (hM.ext x13)) ?_
   intro v h4 hr2
   rw [blanks_same n hb hno] at hr2
   obtain ⟨x4, a3, k3, a4, k4, rfl, hp2⟩ := hr2.get
   have x14 := x13.trans x4
   refine ⟨_, _, _, _, _, _, _, _, _, _, _, rfl, ?_⟩
   refine Tri.mono (known_t (hO.ext x14) (hM.ext x14)) ?_
   rintro _ h5 ⟨rfl, x5⟩
   refine ⟨_, rfl, br_pos rfl (br_pos (by simp) (br_pos (by simp) ?_))⟩
   obtain ⟨s1, s2, _⟩ := asm_small s
   refine Tri.mono (equal_t (hp1.ext (x4.trans x5)) (hp2.ext x5) (by omega) (by omega)) ?_
   rintro _ h6 ⟨rfl, rfl⟩
   exact ⟨_, rfl, by simp, x14.trans x5⟩
end Go.Proofs.D
namespace Go.Proofs.D
open Go Go.Den Go.As
set_option maxRecDepth 100000
attribute [local irreducible] IntKind.wrap Tri
section
variable {h0 h : PHeap} {b b1 b2 : Nat} {β : Bytes}
theorem contains_t {ls : List Lb} {s : Bytes} {a2 : OA} {k2 : Nat} (hL : LbAt h a2 ls) (hc : h.cell b1 1 = some (vS s)) (hl : ls.length ≤ 1000000) :
 Tri Tryz.prog 70 [vL a2 ls.length k2, vF 69 [] [vP b1 0]] h fun v h' => v = vB (ls.any fun l => l.data && decide ((s.length : Int) < l.off)) ∧ h' = h := by
 refine T70 ?_
 unfold R70
 refine T107 ?_
 unfold R107
 refine ⟨fun m i h' => ∃ j : Nat, i = (j : Int) ∧ j + m = ls.length ∧ h' = h ∧ (ls.any fun l => l.data && decide ((s.length : Int) < l.off)) = ((ls.drop j).any fun l => l.data && decide ((s.length : Int) < l.off)), ⟨ls.length, 0, rfl, by omega, rfl, rfl⟩, ?_⟩
 rintro m _ h1 ⟨j, rfl, hjm, rfl, hany⟩
 refine br_split (fun e => ?_) fun e => ?_
 · have hlt : j < ls.length := by have := of_decide_eq_true e; omega
   have hg : ls[j]? = some ls[j] := by simp [hlt]
   have hdr := List.drop_eq_getElem_cons hlt
   rw [hdr, List.any_cons] at hany
   generalize ls[j] = l at *
   obtain ⟨bb, o, ha, hrow⟩ := hL.get hg
   refine ⟨bb, o, ha, ⟨by omega, by omega⟩, _, _, _, (by rw [Int.toNat_natCast]; exact hrow), ?_⟩
   have h69 : Tri Tryz.prog 69 [vA [vS l.name, vB l.data, vI l.off], vP b1 0] h1 fun v h' => v = vB (l.data && decide ((s.length : Int) < l.off)) ∧ h' = h1 := by
    refine T69 ?_
    unfold R69
    refine br_split (fun e1 => ⟨s, hc, ?_, rfl⟩) fun e1 => ⟨?_, rfl⟩
    · rw [e1, Bool.true_and]
    · rw [e1, Bool.false_and]
   refine Tri.mono h69 ?_
   rintro _ h2 ⟨rfl, rfl⟩
   refine ⟨_, rfl, br_split (fun e1 => ⟨_, rfl, ?_, rfl⟩) fun e1 => ⟨m - 1, by omega, ⟨j + 1, by rw [wrap64 (by omega) (by omega)]; omega, by omega, rfl, by rw [hany, e1, Bool.false_or]⟩, trivial⟩⟩
   rw [hany, e1, Bool.true_or, decide_eq_true (by omega)]
 · have hj : j = ls.length := by have := of_decide_eq_false e; omega
   subst hj
   rw [List.drop_length] at hany
   exact ⟨_, rfl, by rw [hany]; rfl, rfl⟩
def code35 (b1 b2 : Nat) (h_8 : PHeap) (Q : Value → PHeap → Prop) : Prop :=
 ∃ (a7 : OA) (n7 k7 : Nat), h_8.cell b1 0 = some (vL a7 n7 k7) ∧
 ∃ (I_1 : Nat → Int → PHeap → Prop), (∃ (m2 : Nat), I_1 m2 (0 : Int) h_8) ∧
 ∀ (m1 : Nat) (i9 : Int) (h_9 : PHeap), I_1 m1 i9 h_9 →
 br (decide (i9 < ((n7 : Nat) : Int)))
 (∃ (b3 o1 : Nat), a7 = some ⟨b3, o1, none⟩ ∧ (0 ≤ i9 ∧ i9 < n7) ∧
 ∃ (i10 i11 i12 i13 : Int), h_9.row b3 (o1 + (i9).toNat * 4) [vI i10, vI i11, vI i12, vI i13] ∧
 Tri Tryz.prog 72 [vP b2 0, vB false, vI (IntKind.i64.wrap (i9 * 4))] h_9 fun v_7 h_10 =>
 v_7 = vT [] ∧
 Tri Tryz.prog 32 [vA [vI i10, vI i11, vI i12, vI i13]] h_10 fun v_8 h_11 =>
 ∃ (l5 : Bs) (i14 : Int), v_8 = vT [vS l5, vI i14] ∧
 ([9] : Bs).length + l5.length ≤ 9223372036854775807 ∧
 Tri Tryz.prog 71 [vP b2 0, vS (([9] : Bs) ++ l5)] h_11 fun v_9 h_12 =>
 v_9 = vT [] ∧
 ∃ (m3 : Nat), m3 < m1 ∧ I_1 m3 (IntKind.i64.wrap (i9 + 1)) h_12 ∧
 True)
 (∃ (a8 : OA) (n8 k8 : Nat), h_9.cell b1 0 = some (vL a8 n8 k8) ∧
 Tri Tryz.prog 72 [vP b2 0, vB false, vI (IntKind.i64.wrap (((n8 : Nat) : Int) * 4))] h_9 fun v_10 h_13 =>
 v_10 = vT [] ∧
 ∃ (l6 : Bs), h_13.cell b1 1 = some (vS l6) ∧
 br (decide ((l6.length : Int) > 0))
 (∃ (l7 : Bs), h_13.cell b1 1 = some (vS l7) ∧
 Tri Tryz.prog 73 [vP b2 0, vS l7] h_13 fun v_11 h_14 =>
 v_11 = vT [] ∧
 Tri Tryz.prog 74 [vP b2 0] h_14 fun v_12 h_15 =>
 ∃ (l8 : Bs), v_12 = vS l8 ∧
 Q (vT [vS l8, vI 0]) h_15)
 (∃ (a9 : OA) (n9 k9 : Nat), h_13.cell b2 2 = some (vL a9 n9 k9) ∧
 br (decide (((n9 : Nat) : Int) > 0))
 (∃ (l9 : Bs), h_13.cell b1 1 = some (vS l9) ∧
 Tri Tryz.prog 73 [vP b2 0, vS l9] h_13 fun v_13 h_16 =>
 v_13 = vT [] ∧
 Tri Tryz.prog 74 [vP b2 0] h_16 fun v_14 h_17 =>
 ∃ (l10 : Bs), v_14 = vS l10 ∧
 Q (vT [vS l10, vI 0]) h_17)
 (Tri Tryz.prog 74 [vP b2 0] h_13 fun v_15 h_18 =>
 ∃ (l11 : Bs), v_15 = vS l11 ∧
 Q (vT [vS l11, vI 0]) h_18)))
theorem code35_t {p : Pg} {a1 a2 a6 : OA} {k1 k2 k6 : Nat} {W : Bytes} {Q : Value → PHeap → Prop} (hQ : ∀ h', Ext h0 h' → Q (vT [vS W, vI 0]) h') (hO : OpTab h0) (hP : PowTab h0) (hb1 : h0 b1 = some (.cells ⟨[vL a1 p.code.length k1, vS p.data, vI p.zero, vI p.entry, vL a2 p.labels.length k2]⟩ 25 (0, 0)))
 (hI : InAt h0 a1 p.code) (hok : POkS p) (hw : PW h0 h b2 β (vL a6 p.labels.length k6)) (hL : LS h0 a6 k6 p.labels) (hW : W = β ++ joinL ((codeP 0 p.code p.labels).1 ++ tailP p (codeP 0 p.code p.labels).2)) (hWl : W.length ≤ 800000) : code35 b1 b2 h Q := by
 unfold code35
 have hcl := hok.codeLen
 have c0 : ∀ {h'}, Ext h0 h' → h'.cell b1 0 = some (vL a1 p.code.length k1) := fun x => by rw [cell_of (x _ _ hb1)]; rfl
 have c1 : ∀ {h'}, Ext h0 h' → h'.cell b1 1 = some (vS p.data) := fun x => by rw [cell_of (x _ _ hb1)]; rfl
 refine ⟨_, _, _, c0 hw.ext, fun m i h' => ∃ (j : Nat) (β' : Bytes) (rem : List Lb) (a : OA) (k : Nat), i = (j : Int) ∧ j + m = p.code.length ∧ PW h0 h' b2 β' (vL a rem.length k) ∧ LS h0 a k rem ∧ (codeP 0 p.code p.labels).2 = (codeP j (p.code.drop j) rem).2 ∧ W = β' ++ joinL ((codeP j (p.code.drop j) rem).1 ++ tailP p (codeP 0 p.code p.labels).2),
  ⟨p.code.length, 0, β, p.labels, a6, k6, rfl, by omega, hw, hL, rfl, hW⟩, ?_⟩
 rintro m _ h1 ⟨j, β', rem, a, k, rfl, hjm, hw1, hL1, hrest, hW1⟩
 refine br_split (fun e => ?_) fun e => ?_
 · have hlt : j < p.code.length := by have := of_decide_eq_true e; omega
   have hg : p.code[j]? = some p.code[j] := by simp [hlt]
   have hdr := List.drop_eq_getElem_cons hlt
   have hx := hok.ins _ (List.getElem_mem hlt)
   generalize p.code[j] = x at *
   rw [hdr] at hrest hW1
   have hW2 : W = β' ++ joinL (marksT (takeM false (4 * j) rem)) ++ ((9 :: lineT x) ++ 10 :: joinL ((codeP (j + 1) (p.code.drop (j + 1)) (dropM false (4 * j) rem)).1 ++ tailP p (codeP 0 p.code p.labels).2)) := by
    rw [hW1, codeP]
    simp only
    rw [List.append_assoc, List.cons_append, joinL_app, joinL_cons, List.append_assoc]
   have hlen := congrArg List.length hW2
   simp only [List.length_append, List.length_cons] at hlen
   obtain ⟨bb, o, ha, hrow⟩ := (hI.ext hw1.ext).get hg
   have hw4 : IntKind.i64.wrap ((j : Int) * 4) = ((4 * j : Nat) : Int) := by rw [wrap64 (by omega) (by omega)]; omega
   rw [hw4]
   refine ⟨bb, o, ha, ⟨by omega, by omega⟩, _, _, _, _, (by rw [Int.toNat_natCast]; exact hrow), ?_⟩
   refine Tri.mono (at72_t hw1 hL1 (by omega)) ?_
   rintro _ h2 ⟨rfl, a3, k3, hw2, hL2⟩
   refine ⟨rfl, ?_⟩
   refine Tri.mono (line32_t (hO.ext hw2.ext) (hP.ext hw2.ext) x) ?_
   rintro _ h3 ⟨rfl, x3⟩
   have hll := line_len hx
   refine ⟨lineT x, 0, by unfold lineV; rw [if_neg (by simp [hx])], by rw [List.length_singleton]; omega, ?_⟩
   refine Tri.mono (line71_t (hw2.up x3) (by simp only [List.length_append, List.length_cons, List.length_nil]; omega)) ?_
   rintro _ h4 ⟨rfl, hw4'⟩
   refine ⟨rfl, m - 1, by omega, ⟨j + 1, _, dropM false (4 * j) rem, a3, k3, by rw [wrap64 (by omega) (by omega)]; omega, by omega, hw4', hL2, by rw [hrest, codeP], ?_⟩, trivial⟩
   rw [hW2]
   simp
 · have hj : j = p.code.length := by have := of_decide_eq_false e; omega
   subst hj
   rw [List.drop_length] at hrest hW1
   rw [codeP] at hrest hW1
   simp only at hrest hW1
   rw [joinL_app, ← List.append_assoc] at hW1
   have hlen := congrArg List.length hW1
   simp only [List.length_append] at hlen
   have hw4 : IntKind.i64.wrap (((p.code.length : Nat) : Int) * 4) = ((4 * p.code.length : Nat) : Int) := by rw [wrap64 (by omega) (by omega)]; omega
   refine ⟨_, _, _, c0 hw1.ext, ?_⟩
   rw [hw4]
   refine Tri.mono (at72_t hw1 hL1 (by omega)) ?_
   rintro _ h2 ⟨rfl, a3, k3, hw2, hL2⟩
   rw [← hrest] at hw2 hL2
   have hR := rest_of hok
   have hdl : p.data.length ≤ 4096 := by omega
   generalize (codeP 0 p.code p.labels).2 = rs at *
   have dat : (p.data.isEmpty && rs.isEmpty) = false → ∀ {QQ : Value → PHeap → Prop}, (∀ h', Ext h0 h' → QQ (vT [vS W, vI 0]) h') → Tri Tryz.prog 73 [vP b2 0, vS p.data] h2 fun v_11 h_14 =>
    v_11 = vT [] ∧
    Tri Tryz.prog 74 [vP b2 0] h_14 fun v_12 h_15 =>
    ∃ (l8 : Bs), v_12 = vS l8 ∧
    QQ (vT [vS l8, vI 0]) h_15 := fun hne QQ hQQ => by
    have ht : tailP p rs = dData :: (dataP (p.data.length + 1) 0 p.data rs).1 := by unfold tailP; rw [if_neg (by rw [hne]; decide)]
    rw [ht] at hW1 hlen
    refine Tri.mono (data73_t hw2 hL2 hdl hR (by simp only [List.length_append]; omega)) ?_
    rintro _ h3 ⟨rfl, d', hw3⟩
    rw [← hW1] at hw3
    refine ⟨rfl, ?_⟩
    refine Tri.mono (string_t hw3 (by omega)) ?_
    rintro _ h4 ⟨rfl, x4⟩
    exact ⟨_, rfl, hQQ _ x4⟩
   refine ⟨rfl, p.data, c1 hw2.ext, br_split (fun e1 => ⟨p.data, c1 hw2.ext, dat ?_ hQ⟩) fun e1 => ⟨_, _, _, hw2.depth, br_split (fun e2 => ⟨p.data, c1 hw2.ext, dat ?_ hQ⟩) fun e2 => ?_⟩⟩
   · have e1 := of_decide_eq_true e1
     cases hd : p.data with
     | nil => rw [hd] at e1; simp at e1
     | cons _ _ => rfl
   · have e2 := of_decide_eq_true e2
     cases hd : rs with
     | nil => rw [hd] at e2; simp at e2
     | cons _ _ => simp
   · have d0 : p.data = [] := List.eq_nil_of_length_eq_zero (by have := of_decide_eq_false e1; omega)
     have r0 : rs = [] := List.eq_nil_of_length_eq_zero (by have := of_decide_eq_false e2; omega)
     have ht : tailP p rs = [] := by unfold tailP; rw [d0, r0]; rfl
     rw [ht, show joinL [] = [] from rfl, List.append_nil] at hW1
     rw [← hW1] at hw2
     refine Tri.mono (string_t hw2 (by omega)) ?_
     rintro _ h4 ⟨rfl, x4⟩
     exact ⟨_, rfl, hQ _ x4⟩
end
end Go.Proofs.D
namespace Go.Proofs.D
open Go Go.Den Go.As
set_option maxRecDepth 100000
attribute [local irreducible] IntKind.wrap Tri
section
variable {h : PHeap}
def printV (p : Pg) : Value := match printS p with
 | .error e => vT [vS [], vI (e : Int)]
 | .ok s => vT [vS s, vI 0]
theorem print35_t (hO : OpTab h) (hP : PowTab h) {a1 : OA} {k1 : Nat} {a2 : OA} {k2 : Nat} {p : Pg} (hp : PgAt h a1 k1 a2 k2 p) (hn : p.code.length ≤ 1000000) (hd : p.data.length ≤ 1000000) (hls : p.labels.length ≤ 1000000) (ho : ∀ l ∈ p.labels, -9223372036854775808 ≤ l.off ∧ l.off ≤ 9223372036854775807) (he : -9223372036854775808 ≤ p.entry ∧ p.entry ≤ 9223372036854775807)
 (hB : checkP p = 0 → (joinL (printP p)).length ≤ 800000) : Tri Tryz.prog 35 [PV a1 k1 a2 k2 p] h fun v h' => v = printV p ∧ Ext h h' := by
 refine T35 ?_
 unfold R35
 intro b1 hb1 h1 hh1
 have x1 := Put.ext hh1 hb1
 have hbx := Put.at hh1
 refine ⟨a1, p.code.length, k1, p.data, p.zero, p.entry, a2, p.labels.length, k2, ⟨(cell_of hbx 0).trans rfl, (cell_of hbx 1).trans rfl, (cell_of hbx 2).trans rfl, (cell_of hbx 3).trans rfl, (cell_of hbx 4).trans rfl⟩, ?_⟩
 refine Tri.mono (check_t (hO.ext x1) (hp.ins.ext x1) (hp.lbs.ext x1) hn hd hls ho he) ?_
 rintro _ h2 ⟨rfl, x2⟩
 have x12 := x1.trans x2
 have hbx2 := x2 _ _ hbx
 refine ⟨_, rfl, br_split (fun e => ?_) fun e => ?_⟩
 · have e : checkP p ≠ 0 := by simpa using e
   refine ⟨?_, x12⟩
   unfold printV printS; rw [if_pos e]
 have e : checkP p = 0 := by simpa using e
 have hok := check_ok e
 have hB := hB e
 refine ⟨_, _, _, (cell_of hbx2 4).trans rfl, ?_⟩
 refine Tri.mono (contains_t (b1 := b1) (hp.lbs.ext x12) ((cell_of hbx2 1).trans rfl) hls) ?_
 rintro _ h3 ⟨rfl, rfl⟩
 refine ⟨_, rfl, br_split (fun eb => ?_) fun eb => ?_⟩
 · have eb : isBehind p = true := eb
   refine ⟨?_, x12⟩
   unfold printV printS; rw [if_neg (by simp [e]), if_pos eb]; rfl
 have eb : isBehind p = false := eb
 have hpv : printV p = vT [vS (joinL (printP p)), vI 0] := by unfold printV printS; rw [if_neg (by simp [e]), if_neg (by rw [eb]; decide)]
 rw [hpv]
 refine ⟨_, _, _, (cell_of hbx2 4).trans rfl, ?_⟩
 intro b2 hb2 h4 hh4
 have x4 := Put.ext hh4 hb2
 have hw : PW h3 h4 b2 [] (vL a2 p.labels.length k2) := by
  refine ⟨⟨.pointer none, none, 0, 0, Put.at hh4, .inl rfl, ⟨⟨rfl, .inl ⟨rfl, rfl⟩⟩, fun q hq => (by cases hq), x4⟩, fun e => (by cases e)⟩, hb2⟩
 have hLS : LS h3 a2 k2 p.labels := by
  refine ⟨hp.lbs.ext x12, hp.ok2.1, ?_⟩
  by_cases h0 : p.labels.length = 0
  · obtain ⟨g1, g2⟩ := hp.ok2.2 h0
    exact .inr ⟨g1, h0, g2⟩
  · rcases hp.lbs with g | ⟨b, o, g, _⟩
    · rw [g] at h0; simp at h0
    · exact .inl ⟨b, o, g⟩
 have ent := hok.entry
 have zer := hok.zero
 have hcl := hok.codeLen
 have hPP : joinL (printP p) = (dEntry ++ 32 :: decI p.entry) ++ 10 :: joinL ((if p.zero = 0 then [] else [dZero ++ 32 :: decI p.zero]) ++ ((codeP 0 p.code p.labels).1 ++ tailP p (codeP 0 p.code p.labels).2)) := rfl
 have hQ : ∀ h', Ext h3 h' → vT [vS (joinL (printP p)), vI 0] = vT [vS (joinL (printP p)), vI 0] ∧ Ext h h' := fun h' x => ⟨rfl, x12.trans x⟩
 refine ⟨_, (cell_of (x4 _ _ hbx2) 3).trans rfl, ?_⟩
 refine Tri.mono (itoa_t p.entry (by omega) (by omega) (hP.ext (x12.trans x4))) ?_
 rintro _ h5 ⟨rfl, rfl⟩
 have le : (decI p.entry).length ≤ 11 := decI_len (by omega) (by omega)
 have lz : (decI p.zero).length ≤ 11 := decI_len (by omega) (by omega)
 refine ⟨_, rfl, by simp only [List.length_cons, List.length_nil]; omega, ?_⟩
 refine Tri.mono (line71_t (l := dEntry ++ 32 :: decI p.entry) hw (by simp only [List.length_append, List.length_cons, List.length_nil, show dEntry.length = 6 from rfl]; omega)) ?_
 rintro _ h6 ⟨rfl, hw6⟩
 rw [List.nil_append] at hw6
 have hI3 := hp.ins.ext x12
 have hO3 := hO.ext x12
 have hP3 := hP.ext x12
 refine ⟨rfl, _, (cell_of (hw6.ext _ _ hbx2) 2).trans rfl, br_split (fun ez => ?_) fun ez => ?_⟩
 · have ez : p.zero ≠ 0 := by simpa using ez
   refine ⟨_, (cell_of (hw6.ext _ _ hbx2) 2).trans rfl, ?_⟩
   refine Tri.mono (itoa_t p.zero (by omega) (by omega) (hP3.ext hw6.ext)) ?_
   rintro _ h7 ⟨rfl, rfl⟩
   refine ⟨_, rfl, by simp only [List.length_cons, List.length_nil]; omega, ?_⟩
   refine Tri.mono (line71_t (l := dZero ++ 32 :: decI p.zero) hw6 (by simp only [List.length_append, List.length_cons, List.length_nil, show dEntry.length = 6 from rfl, show dZero.length = 5 from rfl]; omega)) ?_
   rintro _ h8 ⟨rfl, hw8⟩
   refine ⟨rfl, ?_⟩
   rw [if_neg ez] at hPP
   exact code35_t (b1 := b1) (Q := fun v h' => v = vT [vS (joinL (printP p)), vI 0] ∧ Ext h h') hQ hO3 hP3 hbx2 hI3 hok hw8 hLS (by rw [hPP]; simp [joinL]) hB
 · have ez : p.zero = 0 := by simpa using ez
   rw [if_pos ez] at hPP
   exact code35_t (b1 := b1) (Q := fun v h' => v = vT [vS (joinL (printP p)), vI 0] ∧ Ext h h') hQ hO3 hP3 hbx2 hI3 hok hw6 hLS (by rw [hPP]; simp) hB
end
theorem asm_ok_small {s : Bytes} {q : Pg} (h : assembleS s = .ok q) : POkS q ∧ q.code.length ≤ 1024 ∧ q.labels.length ≤ 1024 ∧ q.data.length ≤ 4096 ∧ ∀ l ∈ q.labels, -9223372036854775808 ≤ l.off ∧ l.off ≤ 9223372036854775807 := by
 have hok := check_ok (assemble_ok h)
 have h1 := hok.codeLen
 have h2 := hok.count
 have h3 := hok.zero
 refine ⟨hok, by omega, by omega, by omega, fun l hl => ?_⟩
 have hlo := hok.each l hl
 have := hlo.lo
 cases hd : l.data with
 | true => have := hlo.dat hd; omega
 | false => have := hlo.code hd; omega
theorem valid_tri {h : PHeap} (hO : OpTab h) (hM : MaxLen h) (hP : PowTab h) (l1 : Bs) : Tri Tryz.prog 12 [vS l1] h fun v h' => v = vB true ∧ ∀ k o, h k = some o → h' k = some o := by
 refine T12 ?_
 unfold R12
 refine ⟨if 1500 < (l1.length : Int) then 1500 else (l1.length : Int), pureVal_run _ (by kernel_rfl), by split <;> omega, ?_⟩
 have hcut : (l1.drop 0).take ((if 1500 < (l1.length : Int) then 1500 else (l1.length : Int)).toNat - 0) = l1.take 1500 := by
  rw [List.drop_zero, Nat.sub_zero]
  split
  · rfl
  · rw [Int.toNat_natCast, List.take_length, List.take_of_length_le (by omega)]
 rw [hcut]
 have hb : (l1.take 1500).length ≤ 1500 := by rw [List.length_take]; omega
 generalize l1.take 1500 = s at *
 refine Tri.mono (asm_t s hO hM) ?_
 intro v h1 hr
 obtain ⟨x1, a1, k1, a2, k2, rfl, hp1⟩ := hr.get
 refine ⟨_, _, _, _, _, _, _, _, _, _, _, rfl, ?_⟩
 refine Tri.mono (known_t (hO.ext x1) (hM.ext x1)) ?_
 rintro _ h2 ⟨rfl, x2⟩
 have x12 := x1.trans x2
 refine ⟨_, rfl, br_neg rfl ?_⟩
 obtain ⟨s1, s2, s3⟩ := asm_small s
 cases hs : assembleS s with
 | error e =>
   obtain ⟨ln, e⟩ := e
   rw [hs] at hr hp1 s1 s2 s3
   have he : e ≠ 0 := hr.2.1
   refine br_pos (by simp [errOf]; omega) ?_
   refine Tri.mono (known_t (hO.ext x12) (hM.ext x12)) ?_
   rintro _ h3 ⟨rfl, x3⟩
   refine ⟨_, rfl, br_pos rfl ?_⟩
   have hpe : PgAt h3 none 0 none 0 (progOf (.error (ln, e))) := ⟨.inl rfl, .inl rfl, ⟨Nat.le_refl _, fun _ => ⟨rfl, rfl⟩⟩, ⟨Nat.le_refl _, fun _ => ⟨rfl, rfl⟩⟩⟩
   refine Tri.mono (equal_t (hp1.ext (x2.trans x3)) hpe (by omega) (by omega)) ?_
   rintro _ h4 ⟨rfl, rfl⟩
   exact ⟨_, rfl, by simp, x12.trans x3⟩
 | ok q =>
   rw [hs] at hp1
   obtain ⟨hok, q1, q2, q3, q4⟩ := asm_ok_small hs
   obtain ⟨v1, v2⟩ := valid_back hb hs
   have hfit := assemble_fit hs
   have hpl := print_len hok
   have hcl := hok.codeLen
   have hen := hok.entry
   have hlen : (joinL (printP q)).length ≤ 800000 := by have := hfit.2; omega
   have hpv : printV q = vT [vS (joinL (printP q)), vI 0] := by unfold printV; rw [v1]
   have prn : ∀ {h' : PHeap} {a1 a2 : OA} {k1 k2 : Nat}, Ext h h' → PgAt h' a1 k1 a2 k2 q → Tri Tryz.prog 35 [PV a1 k1 a2 k2 q] h' fun v h'' => v = printV q ∧ Ext h' h'' := fun x hp =>
    print35_t (hO.ext x) (hP.ext x) hp (by omega) (by omega) (by omega) q4 (by omega) fun _ => hlen
   refine br_neg rfl ?_
   refine Tri.mono (prn x12 (hp1.ext x2)) ?_
   rintro _ h3 ⟨rfl, x3⟩
   have x13 := x12.trans x3
   refine ⟨_, _, hpv, ?_⟩
   refine Tri.mono (asm_t (joinL (printP q)) (hO.ext x13) (hM.ext x13)) ?_
   intro v h4 hr2
   rw [v2] at hr2
   obtain ⟨x4, a3, k3, a4, k4, rfl, hp4⟩ := hr2.get
   have x14 := x13.trans x4
   refine ⟨_, _, _, _, _, _, _, _, _, _, _, rfl, ?_⟩
   refine Tri.mono (prn x14 hp4) ?_
   rintro _ h5 ⟨rfl, x5⟩
   have x15 := x14.trans x5
   refine ⟨_, _, hpv, ?_⟩
   have hp5 := hp1.ext ((x2.trans x3).trans (x4.trans x5))
   refine Tri.mono (check_t (hO.ext x15) hp5.ins hp5.lbs (by simp only [progOf]; omega) (by simp only [progOf]; omega) (by simp only [progOf]; omega) q4 (by simp only [progOf]; omega)) ?_
   rintro _ h6 ⟨rfl, x6⟩
   have hck : checkP q = 0 := assemble_ok hs
   refine ⟨_, rfl, br_pos (by simp only [progOf]; rw [hck]; rfl) (br_pos rfl (br_pos rfl ?_))⟩
   refine Tri.mono (equal_t (hp5.ext x6) (hp4.ext (x5.trans x6)) (by simp only [progOf]; omega) (by simp only [progOf]; omega)) ?_
   rintro _ h7 ⟨rfl, rfl⟩
   exact ⟨_, rfl, br_pos (by simp) (br_pos rfl ⟨by simp, x15.trans x6⟩)⟩
end Go.Proofs.D
namespace Go.Proofs.D
open Go Go.Den
set_option maxRecDepth 100000
set_option maxHeartbeats 4000000
abbrev elk1 : List CK := [.slice, .str, qi, qi, .slice]
abbrev o4_3 : Op := .makeSlice 40 (.tmp 20) (.tmp 20)
noncomputable def d4 : DCode := up ⟨[(14, .c (.one false [.bool])), (21, .c (.one false [.slice])), (35, .c (.tup [(true, elk1), (false, [qi]), (false, [qi])])), (62, .c (.one false [.str])), (64, .c (.tup [(true, elk1), (false, [qi]), (false, [qi])])), (90, .l [qi]), (96, .l [.str])], [30], [(22, 10, [(7, qi)], [])]⟩ (low Tryz.prog (fun _ => false) (Tryz.f4.body.getD .skip))
theorem low4 : low Tryz.prog (fun _ => false) (Tryz.f4.body.getD .skip) = some (eC d4) := by kernel_rfl
def R4 (i1 : Int) (i2 : Int) (h : PHeap) (Q : Value → PHeap → Prop) : Prop :=
 Tri Tryz.prog 15 [] h fun v_1 h_1 =>
 ∃ (c1 : Bool), v_1 = vB c1 ∧
 br (!c1)
 (Q (vB false) h_1)
 (Raw Tryz.prog (execOp (rho [(20, vI (IntKind.i64.wrap (65531 + (IntKind.i64.wrap ((Int.tmod i1 4)))))), (20, vI (IntKind.i64.wrap (65531 + (IntKind.i64.wrap ((Int.tmod i1 4))))))]) (mkO o4_3 40)) h_1 fun v_2 h_2 =>
 ∃ (a1 : OA) (n1 elk1 : Nat), v_2 = vL a1 n1 elk1 ∧
 ∃ (I_1 : Nat → Int → PHeap → Prop), (∃ (m2 : Nat), I_1 m2 (0 : Int) h_2) ∧
 ∀ (m1 : Nat) (i3 : Int) (h_3 : PHeap), I_1 m1 i3 h_3 →
 br (decide (i3 < ((n1 : Nat) : Int)))
 (∃ (b1 o1 : Nat), a1 = some ⟨b1, o1, none⟩ ∧ (0 ≤ i3 ∧ i3 < n1) ∧
 ∃ (l1 : List Value) (t1 : TypeId) (z1 : Nat × Nat), h_3 b1 = some (.cells ⟨l1⟩ t1 z1) ∧ ((o1 + (i3).toNat * 1) + 1 ≤ l1.length ∧ z1.2 ≤ (o1 + (i3).toNat * 1)) ∧
 ∀ (h_4 : PHeap), h_4 = h_3.put b1 (.cells ⟨splice l1 (o1 + (i3).toNat * 1) [vU 32]⟩ t1 z1) →
 ∃ (m3 : Nat), m3 < m1 ∧ I_1 m3 (IntKind.i64.wrap (i3 + 1)) h_4 ∧
 True)
 (∃ (l2 : Bs), BytesAt h_3 a1 n1 l2 ∧
 l2.length + ([104, 97, 108, 116] : Bs).length ≤ 9223372036854775807 ∧
 Tri Tryz.prog 13 [vS (l2 ++ ([104, 97, 108, 116] : Bs))] h_3 fun v_3 h_5 =>
 ∃ (a2 : OA) (n2 k2 : Nat) (l3 : Bs) (i4 i5 : Int) (a3 : OA) (n3 k3 : Nat) (i6 i7 : Int), v_3 = vT [vA [vL a2 n2 k2, vS l3, vI i4, vI i5, vL a3 n3 k3], vI i6, vI i7] ∧
 br (decide ((IntKind.i64.wrap ((Int.tmod i1 4))) > 1))
 (br (i7 != 5)
 (Q (vB false) h_5)
 (br (i6 != 0)
 (Q (vB false) h_5)
 (br (decide ((IntKind.i64.wrap ((Int.tmod i1 4))) ≤ 1))
 (br (i7 != 0)
 (Q (vB false) h_5)
 (Tri Tryz.prog 18 [vI (Int.tmod (IntKind.i64.wrap (i2)) 4200)] h_5 fun v_4 h_6 =>
 ∃ (l4 : Bs), v_4 = vS l4 ∧
 ([104, 97, 108, 116, 10, 46, 100, 97, 116, 97, 10, 46, 115, 112, 97, 99, 101, 32, 49, 48, 48, 10, 46, 122, 101, 114, 111, 32] : Bs).length + l4.length ≤ 9223372036854775807 ∧
 Tri Tryz.prog 13 [vS (([104, 97, 108, 116, 10, 46, 100, 97, 116, 97, 10, 46, 115, 112, 97, 99, 101, 32, 49, 48, 48, 10, 46, 122, 101, 114, 111, 32] : Bs) ++ l4)] h_6 fun v_5 h_7 =>
 ∃ (a4 : OA) (n4 k4 : Nat) (l5 : Bs) (i8 i9 : Int) (a5 : OA) (n5 k5 : Nat) (i10 i11 : Int), v_5 = vT [vA [vL a4 n4 k4, vS l5, vI i8, vI i9, vL a5 n5 k5], vI i10, vI i11] ∧
 br (decide ((Int.tmod (IntKind.i64.wrap (i2)) 4200) > 4096))
 (br (i11 == 2)
 (Q (vB (i10 == 4)) h_7)
 (Q (vB false) h_7))
 (br (decide ((Int.tmod (IntKind.i64.wrap (i2)) 4200) > 3932))
 (br (i11 == 9)
 (Q (vB (i10 == 0)) h_7)
 (Q (vB false) h_7))
 (br (i11 == 0)
 (br (i8 == (Int.tmod (IntKind.i64.wrap (i2)) 4200))
 (Q (vB ((l5.length : Int) == 100)) h_7)
 (Q (vB false) h_7))
 (Q (vB false) h_7)))))
 (Tri Tryz.prog 18 [vI (Int.tmod (IntKind.i64.wrap (i2)) 4200)] h_5 fun v_6 h_8 =>
 ∃ (l6 : Bs), v_6 = vS l6 ∧
 ([104, 97, 108, 116, 10, 46, 100, 97, 116, 97, 10, 46, 115, 112, 97, 99, 101, 32, 49, 48, 48, 10, 46, 122, 101, 114, 111, 32] : Bs).length + l6.length ≤ 9223372036854775807 ∧
 Tri Tryz.prog 13 [vS (([104, 97, 108, 116, 10, 46, 100, 97, 116, 97, 10, 46, 115, 112, 97, 99, 101, 32, 49, 48, 48, 10, 46, 122, 101, 114, 111, 32] : Bs) ++ l6)] h_8 fun v_7 h_9 =>
 ∃ (a6 : OA) (n6 k6 : Nat) (l7 : Bs) (i12 i13 : Int) (a7 : OA) (n7 k7 : Nat) (i14 i15 : Int), v_7 = vT [vA [vL a6 n6 k6, vS l7, vI i12, vI i13, vL a7 n7 k7], vI i14, vI i15] ∧
 br (decide ((Int.tmod (IntKind.i64.wrap (i2)) 4200) > 4096))
 (br (i15 == 2)
 (Q (vB (i14 == 4)) h_9)
 (Q (vB false) h_9))
 (br (decide ((Int.tmod (IntKind.i64.wrap (i2)) 4200) > 3932))
 (br (i15 == 9)
 (Q (vB (i14 == 0)) h_9)
 (Q (vB false) h_9))
 (br (i15 == 0)
 (br (i12 == (Int.tmod (IntKind.i64.wrap (i2)) 4200))
 (Q (vB ((l7.length : Int) == 100)) h_9)
 (Q (vB false) h_9))
 (Q (vB false) h_9)))))))
 (br (decide ((IntKind.i64.wrap ((Int.tmod i1 4))) ≤ 1))
 (br (i7 != 0)
 (Q (vB false) h_5)
 (Tri Tryz.prog 18 [vI (Int.tmod (IntKind.i64.wrap (i2)) 4200)] h_5 fun v_8 h_10 =>
 ∃ (l8 : Bs), v_8 = vS l8 ∧
 ([104, 97, 108, 116, 10, 46, 100, 97, 116, 97, 10, 46, 115, 112, 97, 99, 101, 32, 49, 48, 48, 10, 46, 122, 101, 114, 111, 32] : Bs).length + l8.length ≤ 9223372036854775807 ∧
 Tri Tryz.prog 13 [vS (([104, 97, 108, 116, 10, 46, 100, 97, 116, 97, 10, 46, 115, 112, 97, 99, 101, 32, 49, 48, 48, 10, 46, 122, 101, 114, 111, 32] : Bs) ++ l8)] h_10 fun v_9 h_11 =>
 ∃ (a8 : OA) (n8 k8 : Nat) (l9 : Bs) (i16 i17 : Int) (a9 : OA) (n9 k9 : Nat) (i18 i19 : Int), v_9 = vT [vA [vL a8 n8 k8, vS l9, vI i16, vI i17, vL a9 n9 k9], vI i18, vI i19] ∧
 br (decide ((Int.tmod (IntKind.i64.wrap (i2)) 4200) > 4096))
 (br (i19 == 2)
 (Q (vB (i18 == 4)) h_11)
 (Q (vB false) h_11))
 (br (decide ((Int.tmod (IntKind.i64.wrap (i2)) 4200) > 3932))
 (br (i19 == 9)
 (Q (vB (i18 == 0)) h_11)
 (Q (vB false) h_11))
 (br (i19 == 0)
 (br (i16 == (Int.tmod (IntKind.i64.wrap (i2)) 4200))
 (Q (vB ((l9.length : Int) == 100)) h_11)
 (Q (vB false) h_11))
 (Q (vB false) h_11)))))
 (Tri Tryz.prog 18 [vI (Int.tmod (IntKind.i64.wrap (i2)) 4200)] h_5 fun v_10 h_12 =>
 ∃ (l10 : Bs), v_10 = vS l10 ∧
 ([104, 97, 108, 116, 10, 46, 100, 97, 116, 97, 10, 46, 115, 112, 97, 99, 101, 32, 49, 48, 48, 10, 46, 122, 101, 114, 111, 32] : Bs).length + l10.length ≤ 9223372036854775807 ∧
 Tri Tryz.prog 13 [vS (([104, 97, 108, 116, 10, 46, 100, 97, 116, 97, 10, 46, 115, 112, 97, 99, 101, 32, 49, 48, 48, 10, 46, 122, 101, 114, 111, 32] : Bs) ++ l10)] h_12 fun v_11 h_13 =>
 ∃ (a10 : OA) (n10 k10 : Nat) (l11 : Bs) (i20 i21 : Int) (a11 : OA) (n11 k11 : Nat) (i22 i23 : Int), v_11 = vT [vA [vL a10 n10 k10, vS l11, vI i20, vI i21, vL a11 n11 k11], vI i22, vI i23] ∧
 br (decide ((Int.tmod (IntKind.i64.wrap (i2)) 4200) > 4096))
 (br (i23 == 2)
 (Q (vB (i22 == 4)) h_13)
 (Q (vB false) h_13))
 (br (decide ((Int.tmod (IntKind.i64.wrap (i2)) 4200) > 3932))
 (br (i23 == 9)
 (Q (vB (i22 == 0)) h_13)
 (Q (vB false) h_13))
 (br (i23 == 0)
 (br (i20 == (Int.tmod (IntKind.i64.wrap (i2)) 4200))
 (Q (vB ((l11.length : Int) == 100)) h_13)
 (Q (vB false) h_13))
 (Q (vB false) h_13)))))))
theorem T4 {i1 : Int} {i2 : Int} {h : PHeap} {Q : Value → PHeap → Prop} (hR : R4 i1 i2 h Q) : Tri Tryz.prog 4 [vU i1, .int .u16 i2] h Q :=
 tri_of_dn mixed Tryz.func4 rfl (by kernel_rfl) low4 (rs := [.tmp 4]) (by kernel_rfl) rfl (Eq.mpr (by kernel_rfl : dnF Tryz.prog Tryz.f4.ntmps d4 [.tmp 4] [vU i1, .int .u16 i2] h Q = R4 i1 i2 h Q) hR)
noncomputable def d18 : DCode := up ⟨[(8, .c (.one false [.str])), (19, .c (.one false [.str]))], [], []⟩ (low Tryz.prog (fun _ => false) (Tryz.f18.body.getD .skip))
theorem low18 : low Tryz.prog (fun _ => false) (Tryz.f18.body.getD .skip) = some (eC d18) := by kernel_rfl
def R18 (i1 : Int) (h : PHeap) (Q : Value → PHeap → Prop) : Prop :=
 br (decide (i1 < 0))
 (Tri Tryz.prog 18 [vI (IntKind.i64.wrap (0 - i1))] h fun v_1 h_1 =>
 ∃ (l1 : Bs), v_1 = vS l1 ∧
 ([45] : Bs).length + l1.length ≤ 9223372036854775807 ∧
 Q (vS (([45] : Bs) ++ l1)) h_1)
 (br (decide (i1 < 10))
 ((0 ≤ i1 ∧ i1 ≤ (IntKind.i64.wrap (i1 + 1)) ∧ (IntKind.i64.wrap (i1 + 1)) ≤ (10 : Int)) ∧
 Q (vS ((([48, 49, 50, 51, 52, 53, 54, 55, 56, 57] : Bs).drop (i1).toNat).take ((IntKind.i64.wrap (i1 + 1)).toNat - (i1).toNat))) h)
 ((0 ≤ (Int.tmod i1 10) ∧ (Int.tmod i1 10) ≤ (IntKind.i64.wrap ((Int.tmod i1 10) + 1)) ∧ (IntKind.i64.wrap ((Int.tmod i1 10) + 1)) ≤ (10 : Int)) ∧
 Tri Tryz.prog 18 [vI (IntKind.i64.wrap (Int.tdiv i1 10))] h fun v_2 h_2 =>
 ∃ (l2 : Bs), v_2 = vS l2 ∧
 l2.length + ((([48, 49, 50, 51, 52, 53, 54, 55, 56, 57] : Bs).drop (Int.tmod i1 10).toNat).take ((IntKind.i64.wrap ((Int.tmod i1 10) + 1)).toNat - (Int.tmod i1 10).toNat)).length ≤ 9223372036854775807 ∧
 Q (vS (l2 ++ ((([48, 49, 50, 51, 52, 53, 54, 55, 56, 57] : Bs).drop (Int.tmod i1 10).toNat).take ((IntKind.i64.wrap ((Int.tmod i1 10) + 1)).toNat - (Int.tmod i1 10).toNat)))) h_2))
theorem T18 {i1 : Int} {h : PHeap} {Q : Value → PHeap → Prop} (hR : R18 i1 h Q) : Tri Tryz.prog 18 [vI i1] h Q :=
 tri_of_dn mixed Tryz.func18 rfl (by kernel_rfl) low18 (rs := [.tmp 2]) (by kernel_rfl) rfl (Eq.mpr (by kernel_rfl : dnF Tryz.prog Tryz.f18.ntmps d18 [.tmp 2] [vI i1] h Q = R18 i1 h Q) hR)
end Go.Proofs.D
namespace Go.Proofs.D
open Go Go.Den Go.As
set_option maxRecDepth 100000
def tenS : Bytes := [48, 49, 50, 51, 52, 53, 54, 55, 56, 57]
theorem ten_tab : ∀ n : Fin 10, (tenS.drop n.val).take 1 = [UInt8.ofNat (48 + n.val)] := by decide +kernel
theorem ten_at {n : Nat} (h : n < 10) : (tenS.drop n).take 1 = [UInt8.ofNat (48 + n)] := ten_tab ⟨n, h⟩
attribute [local irreducible] IntKind.wrap Tri
theorem decimal_t : ∀ (n : Nat), n ≤ 1000000000000 → ∀ {h : PHeap}, Tri Tryz.prog 18 [vI (n : Int)] h fun v h' => v = vS (digs n) ∧ h' = h := by
 intro n
 induction n using Nat.strongRecOn with
 | ind n ih =>
   intro hn h
   refine T18 ?_
   unfold R18
   refine br_neg (decide_eq_false (by omega)) (br_split (fun e => ?_) fun e => ?_)
   · have e := of_decide_eq_true e
     have e : n < 10 := by omega
     have hw : IntKind.i64.wrap ((n : Int) + 1) = ((n + 1 : Nat) : Int) := by rw [wrap64 (by omega) (by omega)]; omega
     rw [hw]
     refine ⟨⟨by omega, by omega, by omega⟩, ?_, rfl⟩
     rw [Int.toNat_natCast, Int.toNat_natCast, Nat.add_sub_cancel_left]
     rw [digs, dif_pos e]
     exact congrArg vS (ten_at e)
   · have e := of_decide_eq_false e
     have hm : Int.tmod (n : Int) 10 = ((n % 10 : Nat) : Int) := by rw [Int.tmod_eq_emod_of_nonneg (by omega)]; omega
     have hd : Int.tdiv (n : Int) 10 = ((n / 10 : Nat) : Int) := by rw [Int.tdiv_eq_ediv_of_nonneg (by omega)]; omega
     have hw : IntKind.i64.wrap (((n % 10 : Nat) : Int) + 1) = ((n % 10 + 1 : Nat) : Int) := by rw [wrap64 (by omega) (by omega)]; omega
     have hw2 : IntKind.i64.wrap ((n / 10 : Nat) : Int) = ((n / 10 : Nat) : Int) := wrap64 (by omega) (by omega)
     rw [hm, hd, hw, hw2]
     refine ⟨⟨by omega, by omega, by omega⟩, ?_⟩
     refine Tri.mono (ih (n / 10) (by omega) (by omega)) ?_
     rintro _ h1 ⟨rfl, rfl⟩
     have ht : (tenS.drop ((n % 10 : Nat) : Int).toNat).take (((n % 10 + 1 : Nat) : Int).toNat - ((n % 10 : Nat) : Int).toNat) = [UInt8.ofNat (48 + n % 10)] := by
      rw [Int.toNat_natCast, Int.toNat_natCast, Nat.add_sub_cancel_left]
      exact ten_at (Nat.mod_lt _ (by decide))
     unfold tenS at ht
     rw [ht]
     have hl := digs_len 12 (n / 10) (by omega)
     refine ⟨_, rfl, by rw [List.length_singleton]; omega, ?_, rfl⟩
     conv => rhs; rw [digs, dif_neg (by omega)]
def tail4 (i2 : Int) (h_5 : PHeap) (Q : Value → PHeap → Prop) : Prop :=
 (Tri Tryz.prog 18 [vI (Int.tmod (IntKind.i64.wrap (i2)) 4200)] h_5 fun v_4 h_6 =>
 ∃ (l4 : Bs), v_4 = vS l4 ∧
 ([104, 97, 108, 116, 10, 46, 100, 97, 116, 97, 10, 46, 115, 112, 97, 99, 101, 32, 49, 48, 48, 10, 46, 122, 101, 114, 111, 32] : Bs).length + l4.length ≤ 9223372036854775807 ∧
 Tri Tryz.prog 13 [vS (([104, 97, 108, 116, 10, 46, 100, 97, 116, 97, 10, 46, 115, 112, 97, 99, 101, 32, 49, 48, 48, 10, 46, 122, 101, 114, 111, 32] : Bs) ++ l4)] h_6 fun v_5 h_7 =>
 ∃ (a4 : OA) (n4 k4 : Nat) (l5 : Bs) (i8 i9 : Int) (a5 : OA) (n5 k5 : Nat) (i10 i11 : Int), v_5 = vT [vA [vL a4 n4 k4, vS l5, vI i8, vI i9, vL a5 n5 k5], vI i10, vI i11] ∧
 br (decide ((Int.tmod (IntKind.i64.wrap (i2)) 4200) > 4096))
 (br (i11 == 2)
 (Q (vB (i10 == 4)) h_7)
 (Q (vB false) h_7))
 (br (decide ((Int.tmod (IntKind.i64.wrap (i2)) 4200) > 3932))
 (br (i11 == 9)
 (Q (vB (i10 == 0)) h_7)
 (Q (vB false) h_7))
 (br (i11 == 0)
 (br (i8 == (Int.tmod (IntKind.i64.wrap (i2)) 4200))
 (Q (vB ((l5.length : Int) == 100)) h_7)
 (Q (vB false) h_7))
 (Q (vB false) h_7))))
theorem tail_4 {h : PHeap} (hO : OpTab h) (hM : MaxLen h) {k2 : Nat} (hk2 : k2 < 65536) {Q : Value → PHeap → Prop} (hQ : ∀ h', Ext h h' → Q (vB true) h') : tail4 (k2 : Int) h Q := by
 unfold tail4
 have hz : Int.tmod (IntKind.i64.wrap (k2 : Int)) 4200 = ((k2 % 4200 : Nat) : Int) := by
  rw [wrap64 (by omega) (by omega), Int.tmod_eq_emod_of_nonneg (by omega)]; omega
 rw [hz]
 have hlt : k2 % 4200 < 4200 := Nat.mod_lt _ (by decide)
 generalize k2 % 4200 = z at *
 refine Tri.mono (decimal_t z (by omega)) ?_
 rintro _ h1 ⟨rfl, rfl⟩
 obtain ⟨d1, d2, d3⟩ := digs_ok z
 have d4 := digs_len 4 z (by omega)
 refine ⟨_, rfl, by simp only [List.length_cons, List.length_nil]; omega, ?_⟩
 refine Tri.mono (asm_t (zText (digs z)) hO hM) ?_
 rintro v h2 ⟨x2, hr⟩
 rw [limits_zero d1 d3 (by omega), d2] at hr
 by_cases h1 : 4096 < z
 · rw [if_pos h1] at hr
   obtain ⟨_, rfl⟩ := hr
   exact ⟨_, _, _, _, _, _, _, _, _, _, _, rfl, br_pos (by simp; omega) (br_pos rfl (hQ _ x2))⟩
 rw [if_neg h1] at hr
 by_cases h3 : 3932 < z
 · rw [if_pos h3] at hr
   obtain ⟨_, rfl⟩ := hr
   exact ⟨_, _, _, _, _, _, _, _, _, _, _, rfl, br_neg (by simp; omega) (br_pos (by simp; omega) (br_pos rfl (hQ _ x2)))⟩
 rw [if_neg h3] at hr
 obtain ⟨a1, k1, a2, k2, rfl, _⟩ := hr
 exact ⟨_, _, _, _, _, _, _, _, _, _, _, rfl, br_neg (by simp; omega) (br_neg (by simp; omega) (br_pos rfl (br_pos (by simp) (hQ _ x2))))⟩
theorem limits_tri {h : PHeap} (hO : OpTab h) (hM : MaxLen h) {k1 k2 : Nat} (hk1 : k1 < 256) (hk2 : k2 < 65536) : Tri Tryz.prog 4 [vU (k1 : Int), .int .u16 (k2 : Int)] h fun v h' => v = vB true ∧ ∀ k o, h k = some o → h' k = some o := by
 refine T4 ?_
 unfold R4
 refine Tri.mono (known_t hO hM) ?_
 rintro _ h1 ⟨rfl, x1⟩
 refine ⟨_, rfl, br_neg rfl ?_⟩
 have hn : IntKind.i64.wrap (Int.tmod (k1 : Int) 4) = ((k1 % 4 : Nat) : Int) := by
  rw [Int.tmod_eq_emod_of_nonneg (by omega), wrap64 (by omega) (by omega)]; omega
 have hlt : k1 % 4 < 4 := Nat.mod_lt _ (by decide)
 rw [hn]
 generalize k1 % 4 = n at *
 have hN : IntKind.i64.wrap (65531 + (n : Int)) = ((65531 + n : Nat) : Int) := by rw [wrap64 (by omega) (by omega)]; omega
 rw [hN]
 refine Raw.mono (raw_makeB (N := 65531 + n) rfl rfl (by omega)) ?_
 rintro _ h2 ⟨b, hb, rfl, hh2⟩
 have hxb : ∀ o, Ext h1 (h1.put b o) := fun o => Ext.put hb o
 refine ⟨_, _, _, rfl, ?_⟩
 refine ⟨fun m i h' => ∃ j : Nat, i = (j : Int) ∧ j + m = 65531 + n ∧ h' = h1.put b (.cells ⟨List.replicate j (byteV 32) ++ List.replicate (65531 + n - j) (byteV 0)⟩ 5 (0, 0)), ⟨65531 + n, 0, rfl, by omega, by rw [hh2]; rfl⟩, ?_⟩
 rintro m _ h3 ⟨j, rfl, hjm, rfl⟩
 refine br_split (fun e => ?_) fun e => ?_
 · have hlt2 : j < 65531 + n := by have := of_decide_eq_true e; omega
   refine ⟨b, 0, rfl, ⟨by omega, by omega⟩, _, _, _, put_same _ _ _, ⟨?_, Nat.zero_le _⟩, ?_⟩
   · rw [Int.toNat_natCast, List.length_append, List.length_replicate, List.length_replicate]; omega
   rintro h4 rfl
   refine ⟨m - 1, by omega, ⟨j + 1, by rw [wrap64 (by omega) (by omega)]; omega, by omega, ?_⟩, trivial⟩
   rw [put_put, Int.toNat_natCast, Nat.zero_add, Nat.mul_one]
   have hsp : splice (List.replicate j (byteV 32) ++ List.replicate (65531 + n - j) (byteV 0)) j [vU 32] = List.replicate (j + 1) (byteV 32) ++ List.replicate (65531 + n - (j + 1)) (byteV 0) := by
    unfold splice
    have h1 : (List.replicate j (byteV 32) ++ List.replicate (65531 + n - j) (byteV 0)).take j = List.replicate j (byteV 32) := by
     rw [List.take_append_of_le_length (by simp), List.take_of_length_le (by simp)]
    have h2 : (List.replicate j (byteV 32) ++ List.replicate (65531 + n - j) (byteV 0)).drop (j + [vU 32].length) = List.replicate (65531 + n - (j + 1)) (byteV 0) := by
     rw [List.drop_append, List.length_replicate]
     simp only [List.length_cons, List.length_nil, List.drop_replicate]
     rw [show j - (j + (0 + 1)) = 0 by omega, show 65531 + n - j - (j + (0 + 1) - j) = 65531 + n - (j + 1) by omega]; rfl
    rw [h1, h2, List.replicate_succ']; rfl
   rw [hsp]
 · have hj : j = 65531 + n := by have := of_decide_eq_false e; omega
   subst hj
   refine ⟨List.replicate (65531 + n) 32, .inr ⟨b, 0, rfl, by simp, ?_⟩, by simp only [List.length_replicate, List.length_cons, List.length_nil]; omega, ?_⟩
   · rw [List.map_replicate]
     refine row_lit (put_same _ _ _) fun j v hj => ?_
     rw [Nat.zero_add, List.getElem?_append_left (List.getElem?_eq_some_iff.1 hj).1]; exact hj
   have x3 := x1.trans (hxb (.cells ⟨List.replicate (65531 + n) (byteV 32) ++ List.replicate (65531 + n - (65531 + n)) (byteV 0)⟩ 5 (0, 0)))
   generalize h1.put b _ = h3 at *
   refine Tri.mono (asm_t (List.replicate (65531 + n) 32 ++ haltB) (hO.ext x3) (hM.ext x3)) ?_
   rintro v h4 ⟨x4, hr⟩
   have x34 := x3.trans x4
   have tl : tail4 (k2 : Int) h4 fun v h' => v = vB true ∧ ∀ k o, h k = some o → h' k = some o := tail_4 (hO.ext x34) (hM.ext x34) hk2 fun h' x => ⟨rfl, x34.trans x⟩
   rw [limits_long] at hr
   by_cases h1 : 1 < n
   · rw [if_pos h1] at hr
     obtain ⟨_, rfl⟩ := hr
     refine ⟨_, _, _, _, _, _, _, _, _, _, _, rfl, br_pos (by simp; omega) (br_neg rfl (br_neg rfl (br_neg (by simp; omega) tl)))⟩
   · rw [if_neg h1] at hr
     obtain ⟨a1, k1, a2, k2', rfl, _⟩ := hr
     refine ⟨_, _, _, _, _, _, _, _, _, _, _, rfl, br_neg (by simp; omega) (br_pos (by simp; omega) (br_neg rfl tl))⟩
end Go.Proofs.D
namespace Go.Proofs.D
open Go Go.Den
set_option maxRecDepth 100000
set_option maxHeartbeats 4000000
noncomputable def d63 : DCode := up ⟨[], [], []⟩ (low Tryz.prog (fun _ => false) (Tryz.f63.body.getD .skip))
theorem low63 : low Tryz.prog (fun _ => false) (Tryz.f63.body.getD .skip) = some (eC d63) := by kernel_rfl
def R63 (i1 : Int) (h : PHeap) (Q : Value → PHeap → Prop) : Prop :=
 br (decide (i1 < 0))
 (Q (vT [vI 0, vI 11]) h)
 (br (decide (i1 > 26))
 (Q (vT [vI 0, vI 11]) h)
 (br (i1 == 0)
 (Q (vT [vI 0, vI 0]) h)
 (br (i1 == 1)
 (Q (vT [vI 2, vI 0]) h)
 (br (i1 == 2)
 (Q (vT [vI 4, vI 0]) h)
 (br (i1 == 3)
 (Q (vT [vI 4, vI 0]) h)
 (br (decide (i1 ≥ 22))
 (br (decide (i1 ≤ 24))
 (Q (vT [vI 4, vI 0]) h)
 (br (decide (i1 ≤ 15))
 (Q (vT [vI 3, vI 0]) h)
 (br (decide (i1 ≤ 20))
 (Q (vT [vI 5, vI 0]) h)
 (br (i1 == 25)
 (Q (vT [vI 1, vI 0]) h)
 (Q (vT [vI 6, vI 0]) h)))))
 (br (decide (i1 ≤ 15))
 (Q (vT [vI 3, vI 0]) h)
 (br (decide (i1 ≤ 20))
 (Q (vT [vI 5, vI 0]) h)
 (br (i1 == 25)
 (Q (vT [vI 1, vI 0]) h)
 (Q (vT [vI 6, vI 0]) h))))))))))
theorem T63 {i1 : Int} {h : PHeap} {Q : Value → PHeap → Prop} (hR : R63 i1 h Q) : Tri Tryz.prog 63 [vI i1] h Q :=
 tri_of_dn mixed Tryz.func63 rfl (by kernel_rfl) low63 (rs := [.tmp 2, .tmp 3]) (by kernel_rfl) rfl (Eq.mpr (by kernel_rfl : dnF Tryz.prog Tryz.f63.ntmps d63 [.tmp 2, .tmp 3] [vI i1] h Q = R63 i1 h Q) hR)
noncomputable def d64 : DCode := up ⟨[], [], []⟩ (low Tryz.prog (fun _ => false) (Tryz.f64.body.getD .skip))
theorem low64 : low Tryz.prog (fun _ => false) (Tryz.f64.body.getD .skip) = some (eC d64) := by kernel_rfl
def R64 (i1 : Int) (h : PHeap) (Q : Value → PHeap → Prop) : Prop :=
 br (decide (i1 ≥ 1))
 (Q (vB (decide (i1 ≤ 5))) h)
 (Q (vB false) h)
theorem T64 {i1 : Int} {h : PHeap} {Q : Value → PHeap → Prop} (hR : R64 i1 h Q) : Tri Tryz.prog 64 [vI i1] h Q :=
 tri_of_dn mixed Tryz.func64 rfl (by kernel_rfl) low64 (rs := [.tmp 2]) (by kernel_rfl) rfl (Eq.mpr (by kernel_rfl : dnF Tryz.prog Tryz.f64.ntmps d64 [.tmp 2] [vI i1] h Q = R64 i1 h Q) hR)
noncomputable def d65 : DCode := up ⟨[], [], []⟩ (low Tryz.prog (fun _ => false) (Tryz.f65.body.getD .skip))
theorem low65 : low Tryz.prog (fun _ => false) (Tryz.f65.body.getD .skip) = some (eC d65) := by kernel_rfl
def R65 (i1 : Int) (h : PHeap) (Q : Value → PHeap → Prop) : Prop :=
 br (i1 == 2)
 (Q (vB true) h)
 (br (i1 == 3)
 (Q (vB true) h)
 (Q (vB (i1 == 5)) h))
theorem T65 {i1 : Int} {h : PHeap} {Q : Value → PHeap → Prop} (hR : R65 i1 h Q) : Tri Tryz.prog 65 [vI i1] h Q :=
 tri_of_dn mixed Tryz.func65 rfl (by kernel_rfl) low65 (rs := [.tmp 2]) (by kernel_rfl) rfl (Eq.mpr (by kernel_rfl : dnF Tryz.prog Tryz.f65.ntmps d65 [.tmp 2] [vI i1] h Q = R65 i1 h Q) hR)
noncomputable def d66 : DCode := up ⟨[], [], []⟩ (low Tryz.prog (fun _ => false) (Tryz.f66.body.getD .skip))
theorem low66 : low Tryz.prog (fun _ => false) (Tryz.f66.body.getD .skip) = some (eC d66) := by kernel_rfl
def R66 (i1 : Int) (h : PHeap) (Q : Value → PHeap → Prop) : Prop :=
 Q (vB (decide (i1 ≥ 3))) h
theorem T66 {i1 : Int} {h : PHeap} {Q : Value → PHeap → Prop} (hR : R66 i1 h Q) : Tri Tryz.prog 66 [vI i1] h Q :=
 tri_of_dn mixed Tryz.func66 rfl (by kernel_rfl) low66 (rs := [.tmp 2]) (by kernel_rfl) rfl (Eq.mpr (by kernel_rfl : dnF Tryz.prog Tryz.f66.ntmps d66 [.tmp 2] [vI i1] h Q = R66 i1 h Q) hR)
noncomputable def d67 : DCode := up ⟨[(9, .c (.tup [(false, [qi]), (false, [qi])]))], [], []⟩ (low Tryz.prog (fun _ => false) (Tryz.f67.body.getD .skip))
theorem low67 : low Tryz.prog (fun _ => false) (Tryz.f67.body.getD .skip) = some (eC d67) := by kernel_rfl
def R67 (i1 : Int) (h : PHeap) (Q : Value → PHeap → Prop) : Prop :=
 Tri Tryz.prog 63 [vI i1] h fun v_1 h_1 =>
 ∃ (i2 i3 : Int), v_1 = vT [vI i2, vI i3] ∧
 br (i3 != 0)
 (Q (vT [vI 0, vI 0, vI i3]) h_1)
 (br (decide (i2 < 4))
 (Q (vT [vI 0, vI 0, vI 1]) h_1)
 (br (i1 == 3)
 (Q (vT [vI 0, vI 65535, vI 0]) h_1)
 (br (i1 == 26)
 (Q (vT [vI 0, vI 255, vI 0]) h_1)
 (br (decide (i1 > 20))
 (Q (vT [vI 0, vI 4095, vI 0]) h_1)
 (Q (vT [vI (-32768), vI 32767, vI 0]) h_1)))))
theorem T67 {i1 : Int} {h : PHeap} {Q : Value → PHeap → Prop} (hR : R67 i1 h Q) : Tri Tryz.prog 67 [vI i1] h Q :=
 tri_of_dn mixed Tryz.func67 rfl (by kernel_rfl) low67 (rs := [.tmp 2, .tmp 3, .tmp 4]) (by kernel_rfl) rfl (Eq.mpr (by kernel_rfl : dnF Tryz.prog Tryz.f67.ntmps d67 [.tmp 2, .tmp 3, .tmp 4] [vI i1] h Q = R67 i1 h Q) hR)
noncomputable def d68 : DCode := up ⟨[(9, .c (.one false [.slice])), (12, .l [.str])], [], []⟩ (low Tryz.prog (fun _ => false) (Tryz.f68.body.getD .skip))
theorem low68 : low Tryz.prog (fun _ => false) (Tryz.f68.body.getD .skip) = some (eC d68) := by kernel_rfl
def R68 (i1 : Int) (h : PHeap) (Q : Value → PHeap → Prop) : Prop :=
 br (decide (i1 < 0))
 (Q (vS []) h)
 (br (decide (i1 > 26))
 (Q (vS []) h)
 (Tri Tryz.prog 106 [] h fun v_1 h_1 =>
 ∃ (a1 : OA) (n1 k1 : Nat), v_1 = vL a1 n1 k1 ∧
 ∃ (b1 o1 : Nat), a1 = some ⟨b1, o1, none⟩ ∧ (0 ≤ i1 ∧ i1 < n1) ∧
 ∃ (l1 : Bs), h_1.cell b1 (o1 + (i1).toNat * 1) = some (vS l1) ∧
 Q (vS l1) h_1))
theorem T68 {i1 : Int} {h : PHeap} {Q : Value → PHeap → Prop} (hR : R68 i1 h Q) : Tri Tryz.prog 68 [vI i1] h Q :=
 tri_of_dn mixed Tryz.func68 rfl (by kernel_rfl) low68 (rs := [.tmp 2]) (by kernel_rfl) rfl (Eq.mpr (by kernel_rfl : dnF Tryz.prog Tryz.f68.ntmps d68 [.tmp 2] [vI i1] h Q = R68 i1 h Q) hR)
end Go.Proofs.D
namespace Go.Proofs.D
open Go Go.Den Go.As
set_option maxRecDepth 100000
attribute [local irreducible] IntKind.wrap Tri
theorem form_tab : ∀ k : Fin 27, form k.val = if k.val = 0 then 0 else if k.val = 1 then 2 else if k.val = 2 ∨ k.val = 3 ∨ (22 ≤ k.val ∧ k.val ≤ 24) then 4 else if k.val ≤ 15 then 3 else if k.val ≤ 20 then 5 else if k.val = 25 then 1 else 6 := by decide
section
variable {h : PHeap}
theorem rform_t (i : Int) : Tri Tryz.prog 63 [vI i] h fun v h' => v = (if 0 ≤ i ∧ i ≤ 26 then vT [vI (form i.toNat), vI 0] else vT [vI 0, vI 11]) ∧ h' = h := by
 refine T63 ?_
 unfold R63
 refine br_split (fun e => ⟨by have := of_decide_eq_true e; rw [if_neg (by omega)], rfl⟩) fun e => br_split (fun e' => ⟨by have := of_decide_eq_true e'; rw [if_neg (by omega)], rfl⟩) fun e' => ?_
 have e := of_decide_eq_false e
 have e' := of_decide_eq_false e'
 rw [if_pos (by omega)]
 obtain ⟨k, rfl⟩ : ∃ k : Nat, i = (k : Int) := ⟨i.toNat, by omega⟩
 rw [Int.toNat_natCast]
 have hk : k < 27 := by omega
 have key : ∀ n : Nat, form k = n → ∀ h', h' = h → vT [vI (n : Int), vI 0] = vT [vI (form k), vI 0] ∧ h' = h := fun n hn h' hh => ⟨by rw [hn], hh⟩
 have eqk : ∀ (n : Nat) (b : Bool), (((k : Nat) : Int) == (n : Int)) = b → (k = n ↔ b = true) := fun n b hb => by rw [← hb]; simp; omega
 have tl : k ≠ 0 → k ≠ 1 → k ≠ 2 → k ≠ 3 → ¬ (22 ≤ k ∧ k ≤ 24) → br (decide ((k : Int) ≤ 15)) (vT [vI 3, vI 0] = vT [vI (form k), vI 0] ∧ h = h) (br (decide ((k : Int) ≤ 20)) (vT [vI 5, vI 0] = vT [vI (form k), vI 0] ∧ h = h) (br ((k : Int) == 25) (vT [vI 1, vI 0] = vT [vI (form k), vI 0] ∧ h = h) (vT [vI 6, vI 0] = vT [vI (form k), vI 0] ∧ h = h))) := fun k0 k1 k2 k3 k4 => by
  have hf : form k = if k ≤ 15 then 3 else if k ≤ 20 then 5 else if k = 25 then 1 else 6 := by
   unfold form; rw [if_neg k0, if_neg k1, if_neg (by omega)]
  refine br_split (fun g => ?_) fun g => br_split (fun g2 => ?_) fun g2 => br_split (fun g3 => ?_) fun g3 => ?_
  · have g := of_decide_eq_true g
    exact key 3 (by rw [hf, if_pos (by omega)]) _ rfl
  · have g := of_decide_eq_false g
    have g2 := of_decide_eq_true g2
    exact key 5 (by rw [hf, if_neg (by omega), if_pos (by omega)]) _ rfl
  · have g := of_decide_eq_false g
    have g2 := of_decide_eq_false g2
    exact key 1 (by rw [hf, if_neg (by omega), if_neg (by omega), if_pos ((eqk 25 _ g3).2 rfl)]) _ rfl
  · have g := of_decide_eq_false g
    have g2 := of_decide_eq_false g2
    have n25 : k ≠ 25 := fun hh => by have := (eqk 25 _ g3).1 hh; cases this
    exact key 6 (by rw [hf, if_neg (by omega), if_neg (by omega), if_neg n25]) _ rfl
 refine br_split (fun g0 => ?_) fun g0 => br_split (fun g1 => ?_) fun g1 => br_split (fun g2 => ?_) fun g2 => br_split (fun g3 => ?_) fun g3 => ?_
 · exact key 0 (by rw [(eqk 0 _ g0).2 rfl]; rfl) _ rfl
 · exact key 2 (by rw [(eqk 1 _ g1).2 rfl]; rfl) _ rfl
 · exact key 4 (by rw [(eqk 2 _ g2).2 rfl]; rfl) _ rfl
 · exact key 4 (by rw [(eqk 3 _ g3).2 rfl]; rfl) _ rfl
 · have n0 : k ≠ 0 := fun hh => by have := (eqk 0 _ g0).1 hh; cases this
   have n1 : k ≠ 1 := fun hh => by have := (eqk 1 _ g1).1 hh; cases this
   have n2 : k ≠ 2 := fun hh => by have := (eqk 2 _ g2).1 hh; cases this
   have n3 : k ≠ 3 := fun hh => by have := (eqk 3 _ g3).1 hh; cases this
   refine br_split (fun g => br_split (fun g' => ?_) fun g' => ?_) fun g => ?_
   · have g := of_decide_eq_true g
     have g' := of_decide_eq_true g'
     exact key 4 (by unfold form; rw [if_neg n0, if_neg n1, if_pos (by omega)]) _ rfl
   · have g' := of_decide_eq_false g'
     exact tl n0 n1 n2 n3 (by omega)
   · have g := of_decide_eq_false g
     exact tl n0 n1 n2 n3 (by omega)
theorem rhasA_t (f : Nat) : Tri Tryz.prog 64 [vI (f : Int)] h fun v h' => v = vB (hasA f) ∧ h' = h := by
 refine T64 ?_
 unfold R64 hasA
 refine br_split (fun e => ⟨?_, rfl⟩) fun e => ⟨?_, rfl⟩
 · have e := of_decide_eq_true e
   congr 1; rw [Bool.eq_iff_iff]; simp; omega
 · have e := of_decide_eq_false e
   congr 1; rw [Bool.eq_iff_iff]; simp; omega
theorem rhasB_t (f : Nat) : Tri Tryz.prog 65 [vI (f : Int)] h fun v h' => v = vB (hasB f) ∧ h' = h := by
 refine T65 ?_
 unfold R65 hasB
 refine br_split (fun e => ⟨?_, rfl⟩) fun e => br_split (fun e' => ⟨?_, rfl⟩) fun e' => ⟨?_, rfl⟩
 all_goals congr 1; rw [Bool.eq_iff_iff]; simp at *; omega
theorem rhasC_t (f : Nat) : Tri Tryz.prog 66 [vI (f : Int)] h fun v h' => v = vB (hasC f) ∧ h' = h := by
 refine T66 ?_
 unfold R66 hasC
 refine ⟨?_, rfl⟩
 congr 1; rw [Bool.eq_iff_iff]; simp; omega
theorem rlimits_t {k : Nat} (hk : k < 27) (hf : 4 ≤ form k) : Tri Tryz.prog 67 [vI (k : Int)] h fun v h' => v = vT [vI (limits k).1, vI (limits k).2, vI 0] ∧ h' = h := by
 refine T67 ?_
 unfold R67
 refine Tri.mono (rform_t (k : Int)) ?_
 rintro _ h1 ⟨rfl, rfl⟩
 rw [if_pos (by omega), Int.toNat_natCast]
 refine ⟨_, _, rfl, br_neg rfl (br_neg (decide_eq_false (by omega)) ?_)⟩
 have eqk : ∀ (n : Nat) (b : Bool), (((k : Nat) : Int) == (n : Int)) = b → (k = n ↔ b = true) := fun n b hb => by rw [← hb]; simp; omega
 unfold limits
 refine br_split (fun g => ?_) fun g => br_split (fun g2 => ?_) fun g2 => br_split (fun g3 => ?_) fun g3 => ?_
 · rw [if_pos ((eqk 3 _ g).2 rfl)]; exact ⟨rfl, rfl⟩
 · have n3 : k ≠ 3 := fun hh => by have := (eqk 3 _ g).1 hh; cases this
   rw [if_neg n3, if_pos ((eqk 26 _ g2).2 rfl)]; exact ⟨rfl, rfl⟩
 · have n3 : k ≠ 3 := fun hh => by have := (eqk 3 _ g).1 hh; cases this
   have n26 : k ≠ 26 := fun hh => by have := (eqk 26 _ g2).1 hh; cases this
   have g3 := of_decide_eq_true g3
   rw [if_neg n3, if_neg n26, if_pos (by omega)]; exact ⟨rfl, rfl⟩
 · have n3 : k ≠ 3 := fun hh => by have := (eqk 3 _ g).1 hh; cases this
   have n26 : k ≠ 26 := fun hh => by have := (eqk 26 _ g2).1 hh; cases this
   have g3 := of_decide_eq_false g3
   rw [if_neg n3, if_neg n26, if_neg (by omega)]; exact ⟨rfl, rfl⟩
end
end Go.Proofs.D
namespace Go.Proofs.D
open Go Go.Den Go.As
set_option maxRecDepth 100000
attribute [local irreducible] IntKind.wrap Tri
section
variable {h : PHeap}
def lo33 (i2 i3 i4 i5 lo hi : Int) (h_5 : PHeap) (Q : Value → PHeap → Prop) : Prop :=
 br (decide (i2 < 0))
 (Q (vI 2) h_5)
 (br (decide (i2 > 7))
 (Q (vI 2) h_5)
 (br (decide (i3 < 0))
 (Q (vI 2) h_5)
 (br (decide (i3 > 7))
 (Q (vI 2) h_5)
 (Tri Tryz.prog 66 [vI i5] h_5 fun v_6 h_6 =>
 ∃ (c4 : Bool), v_6 = vB c4 ∧
 br c4
 (br (decide (i4 < lo))
 (Q (vI 2) h_6)
 (br (decide (i4 > hi))
 (Q (vI 2) h_6)
 (Q (vI 0) h_6)))
 (Q (vI 0) h_6)))))
def lim33 (i1 i2 i3 i4 i5 : Int) (h_4 : PHeap) (Q : Value → PHeap → Prop) : Prop :=
 br (decide (i5 ≥ 4))
 (Tri Tryz.prog 67 [vI i1] h_4 fun v_5 h_5 =>
 ∃ (i7 i8 i9 : Int), v_5 = vT [vI i7, vI i8, vI i9] ∧ lo33 i2 i3 i4 i5 i7 i8 h_5 Q)
 (lo33 i2 i3 i4 i5 0 7 h_4 Q)
def c33 (i1 i2 i3 i4 i5 : Int) (h_3 : PHeap) (Q : Value → PHeap → Prop) : Prop :=
 Tri Tryz.prog 66 [vI i5] h_3 fun v_4 h_4 =>
 ∃ (c3 : Bool), v_4 = vB c3 ∧
 br (!c3)
 (br (i4 != 0)
 (Q (vI 1) h_4)
 (lim33 i1 i2 i3 i4 i5 h_4 Q))
 (lim33 i1 i2 i3 i4 i5 h_4 Q)
def b33 (i1 i2 i3 i4 i5 : Int) (h_2 : PHeap) (Q : Value → PHeap → Prop) : Prop :=
 Tri Tryz.prog 65 [vI i5] h_2 fun v_3 h_3 =>
 ∃ (c2 : Bool), v_3 = vB c2 ∧
 br (!c2)
 (br (i3 != 0)
 (Q (vI 1) h_3)
 (c33 i1 i2 i3 i4 i5 h_3 Q))
 (c33 i1 i2 i3 i4 i5 h_3 Q)
theorem rcheck_t (x : Ins) : Tri Tryz.prog 33 [vA (insC x)] h fun v h' => v = vI (checkI x : Int) ∧ h' = h := by
 refine T33 ?_
 unfold R33
 refine Tri.mono (rform_t x.op) ?_
 rintro _ h1 ⟨rfl, rfl⟩
 by_cases hop : 0 ≤ x.op ∧ x.op ≤ 26
 rotate_left
 · rw [if_neg hop]
   refine ⟨_, _, rfl, br_pos rfl ?_⟩
   have : checkI x = 11 := by unfold checkI; rw [if_pos (by omega)]
   rw [this]; exact ⟨rfl, rfl⟩
 rw [if_pos hop]
 refine ⟨_, _, rfl, br_neg rfl ?_⟩
 obtain ⟨op, xa, xb, xc⟩ := x
 obtain ⟨k, hk⟩ : ∃ k : Nat, op = (k : Int) := ⟨op.toNat, by simp only at hop; omega⟩
 subst hk
 simp only at hop
 have hk27 : k < 27 := by omega
 show Tri Tryz.prog 64 [vI (form ((k : Int)).toNat : Nat)] h1 _
 have hck : checkI ⟨(k : Int), xa, xb, xc⟩ = if (!hasA (form k) && xa != 0) || (!hasB (form k) && xb != 0) || (!hasC (form k) && xc != 0) then 1
  else if xa < 0 ∨ 7 < xa ∨ xb < 0 ∨ 7 < xb ∨ (hasC (form k) = true ∧ (xc < (if 4 ≤ form k then limits k else (0, 7)).1 ∨ (if 4 ≤ form k then limits k else (0, 7)).2 < xc)) then 2 else 0 := by
  unfold checkI
  rw [if_neg (by simp only; omega)]
  simp only [Int.toNat_natCast]
 rw [Int.toNat_natCast]
 have lo : ∀ (lo hi : Int), (if 4 ≤ form k then limits k else (0, 7)) = (lo, hi) → ((!hasA (form k) && xa != 0) || (!hasB (form k) && xb != 0) || (!hasC (form k) && xc != 0)) = false →
  lo33 xa xb xc (form k : Nat) lo hi h1 fun v h' => v = vI (checkI ⟨(k : Int), xa, xb, xc⟩ : Int) ∧ h' = h1 := fun lo hi hlh hno => by
  rw [hno, hlh] at hck
  simp only [Bool.false_eq_true, if_false] at hck
  unfold lo33
  have two : xa < 0 ∨ 7 < xa ∨ xb < 0 ∨ 7 < xb ∨ (hasC (form k) = true ∧ (xc < lo ∨ hi < xc)) → vI 2 = vI (checkI ⟨(k : Int), xa, xb, xc⟩ : Int) := fun hh => by rw [hck, if_pos hh]; rfl
  refine br_split (fun e1 => ⟨two (.inl (of_decide_eq_true e1)), rfl⟩) fun e1 => br_split (fun e2 => ⟨two (.inr (.inl (of_decide_eq_true e2))), rfl⟩) fun e2 => br_split (fun e3 => ⟨two (.inr (.inr (.inl (of_decide_eq_true e3)))), rfl⟩) fun e3 => br_split (fun e4 => ⟨two (.inr (.inr (.inr (.inl (of_decide_eq_true e4))))), rfl⟩) fun e4 => ?_
  have e1 := of_decide_eq_false e1
  have e2 := of_decide_eq_false e2
  have e3 := of_decide_eq_false e3
  have e4 := of_decide_eq_false e4
  refine Tri.mono (rhasC_t (form k)) ?_
  rintro _ h2 ⟨rfl, rfl⟩
  refine ⟨_, rfl, br_split (fun e5 => br_split (fun e6 => ⟨two (.inr (.inr (.inr (.inr ⟨e5, .inl (of_decide_eq_true e6)⟩)))), rfl⟩) fun e6 => br_split (fun e7 => ⟨two (.inr (.inr (.inr (.inr ⟨e5, .inr (of_decide_eq_true e7)⟩)))), rfl⟩) fun e7 => ?_) fun e5 => ?_⟩
  · have e6 := of_decide_eq_false e6
    have e7 := of_decide_eq_false e7
    rw [hck, if_neg (by rintro (hh | hh | hh | hh | ⟨_, hh⟩) <;> omega)]; exact ⟨rfl, rfl⟩
  · rw [hck, if_neg (by rintro (hh | hh | hh | hh | ⟨hh, _⟩); omega; omega; omega; omega; rw [e5] at hh; cases hh)]; exact ⟨rfl, rfl⟩
 have lim : ((!hasA (form k) && xa != 0) || (!hasB (form k) && xb != 0) || (!hasC (form k) && xc != 0)) = false →
  lim33 (k : Int) xa xb xc (form k : Nat) h1 fun v h' => v = vI (checkI ⟨(k : Int), xa, xb, xc⟩ : Int) ∧ h' = h1 := fun hno => by
  unfold lim33
  refine br_split (fun e => ?_) fun e => ?_
  · have e := of_decide_eq_true e
    refine Tri.mono (rlimits_t hk27 (by omega)) ?_
    rintro _ h2 ⟨rfl, rfl⟩
    exact ⟨_, _, _, rfl, lo _ _ (by rw [if_pos (by omega)]) hno⟩
  · have e := of_decide_eq_false e
    exact lo 0 7 (by rw [if_neg (by omega)]) hno
 have one : ((!hasA (form k) && xa != 0) || (!hasB (form k) && xb != 0) || (!hasC (form k) && xc != 0)) = true → vI 1 = vI (checkI ⟨(k : Int), xa, xb, xc⟩ : Int) ∧ h1 = h1 := fun hh => ⟨by rw [hck, if_pos hh]; rfl, rfl⟩
 have cc : ((!hasA (form k) && xa != 0) || (!hasB (form k) && xb != 0)) = false → c33 (k : Int) xa xb xc (form k : Nat) h1 fun v h' => v = vI (checkI ⟨(k : Int), xa, xb, xc⟩ : Int) ∧ h' = h1 := fun hno => by
  unfold c33
  refine Tri.mono (rhasC_t (form k)) ?_
  rintro _ h2 ⟨rfl, rfl⟩
  refine ⟨_, rfl, br_split (fun e => br_split (fun e' => one (by rw [e, e']; simp)) fun e' => lim (by rw [hno, e']; simp)) fun e => lim (by rw [hno, e]; rfl)⟩
 have bb : (!hasA (form k) && xa != 0) = false → b33 (k : Int) xa xb xc (form k : Nat) h1 fun v h' => v = vI (checkI ⟨(k : Int), xa, xb, xc⟩ : Int) ∧ h' = h1 := fun hno => by
  unfold b33
  refine Tri.mono (rhasB_t (form k)) ?_
  rintro _ h2 ⟨rfl, rfl⟩
  refine ⟨_, rfl, br_split (fun e => br_split (fun e' => one (by rw [e, e']; simp)) fun e' => cc (by rw [hno, e']; simp)) fun e => cc (by rw [hno, e]; rfl)⟩
 refine Tri.mono (rhasA_t (form k)) ?_
 rintro _ h2 ⟨rfl, rfl⟩
 refine ⟨_, rfl, br_split (fun e => br_split (fun e' => one (by rw [e, e']; simp)) fun e' => bb (by rw [e']; simp)) fun e => bb (by rw [e]; rfl)⟩
end
end Go.Proofs.D
namespace Go.Proofs.D
open Go Go.Den
set_option maxRecDepth 100000
set_option maxHeartbeats 4000000
noncomputable def d106 : DCode := up ⟨[], [], []⟩ (low Tryz.prog (fun _ => false) (Tryz.f106.body.getD .skip))
theorem low106 : low Tryz.prog (fun _ => false) (Tryz.f106.body.getD .skip) = some (eC d106) := by kernel_rfl
def R106 (h : PHeap) (Q : Value → PHeap → Prop) : Prop :=
 ∀ (b1 : Nat), h b1 = none → ∀ (h_1 : PHeap), h_1 = h.put b1 (.cells ⟨[vS [104, 97, 108, 116], vS [109, 111, 118, 101], vS [115, 101, 116], vS [104, 105, 103, 104], vS [97, 100, 100], vS [115, 117, 98], vS [109, 117, 108], vS [100, 105, 118], vS [109, 111, 100], vS [97, 110, 100], vS [111, 114], vS [120, 111, 114], vS [115, 104, 108], vS [115, 104, 114], vS [108, 101, 115, 115], vS [101, 113, 117, 97, 108], vS [97, 100, 100, 105], vS [108, 111, 97, 100], vS [115, 116, 111, 114, 101], vS [108, 111, 97, 100, 98], vS [115, 116, 111, 114, 101, 98], vS [106, 117, 109, 112], vS [106, 117, 109, 112, 122], vS [106, 117, 109, 112, 110, 122], vS [99, 97, 108, 108], vS [98, 97, 99, 107], vS [116, 114, 97, 112]]⟩ 9) →
 Q (vL (ad b1 0) 27 27) h_1
theorem T106 {h : PHeap} {Q : Value → PHeap → Prop} (hR : R106  h Q) : Tri Tryz.prog 106 [] h Q :=
 tri_of_dn mixed Tryz.func106 rfl (by kernel_rfl) low106 (rs := [.tmp 0]) (by kernel_rfl) rfl (Eq.mpr (by kernel_rfl : dnF Tryz.prog Tryz.f106.ntmps d106 [.tmp 0] [] h Q = R106  h Q) hR)
end Go.Proofs.D
namespace Go.Proofs.D
open Go Go.Den Go.As
set_option maxRecDepth 100000
theorem word_cell (k : Nat) (hk : k < 27) : (wordsB.map vS)[k]? = some (vS (wordT k)) := by
 rw [List.getElem?_map]
 have : k < wordsB.length := hk
 rw [List.getElem?_eq_getElem this]
 unfold wordT
 rw [List.getD_eq_getElem?_getD, List.getElem?_eq_getElem this]; rfl
attribute [local irreducible] IntKind.wrap Tri
section
variable {h : PHeap}
theorem decI_t (n : Int) (h1 : -1000000000 ≤ n) (h2 : n ≤ 1000000000) : Tri Tryz.prog 18 [vI n] h fun v h' => v = vS (decI n) ∧ h' = h := by
 by_cases hn : n < 0
 · refine T18 ?_
   unfold R18
   refine br_pos (decide_eq_true hn) ?_
   have hw : IntKind.i64.wrap (0 - n) = ((n.natAbs : Nat) : Int) := by rw [wrap64 (by omega) (by omega)]; omega
   rw [hw]
   refine Tri.mono (decimal_t n.natAbs (by omega)) ?_
   rintro _ h1 ⟨rfl, rfl⟩
   have := digs_len 12 n.natAbs (by omega)
   refine ⟨_, rfl, by rw [List.length_singleton]; omega, ?_, rfl⟩
   unfold decI; rw [if_pos hn]; rfl
 · have := decimal_t n.toNat (by omega) (h := h)
   rw [show ((n.toNat : Nat) : Int) = n by omega] at this
   unfold decI
   rw [if_neg hn]
   exact this
theorem rword_t {k : Nat} (hk : k < 27) : Tri Tryz.prog 68 [vI (k : Int)] h fun v h' => v = vS (wordT k) ∧ Ext h h' := by
 refine T68 ?_
 unfold R68
 refine br_neg (decide_eq_false (by omega)) (br_neg (decide_eq_false (by omega)) ?_)
 refine T106 ?_
 unfold R106
 intro b1 hb1 h1 hh1
 refine ⟨_, _, _, rfl, b1, 0, rfl, ⟨by omega, by omega⟩, _, ?_, rfl, Put.ext hh1 hb1⟩
 rw [Int.toNat_natCast, Nat.zero_add, Nat.mul_one, cell_of (Put.at hh1)]
 exact word_cell k hk
theorem rline_t {x : Ins} (e : checkI x = 0) : Tri Tryz.prog 34 [vA (insC x)] h fun v h' => v = vS (lineT x) ∧ Ext h h' := by
 refine T34 ?_
 unfold R34
 have hok := ins_ok e
 have hll := line_len e
 obtain ⟨op, xa, xb, xc⟩ := x
 obtain ⟨k, hk⟩ : ∃ k : Nat, op = (k : Int) := ⟨op.toNat, by have := hok.op; simp only at this; omega⟩
 subst hk
 have hk27 : k < 27 := by have := hok.op; simp only at this; omega
 have ha := hok.a
 have hb := hok.b
 have hc : -100000 ≤ xc ∧ xc ≤ 100000 := by
  have h3 := hok.c3
  have h4 := hok.c4
  have h0 := hok.c0
  have hlim := limits_small k
  simp only [Int.toNat_natCast] at h3 h4 h0
  by_cases f3 : form k = 3
  · have := h3 f3; omega
  by_cases f4 : 4 ≤ form k
  · have := h4 f4; omega
  · have : xc = 0 := h0 (by unfold hasC; have := form_le k; simp; omega)
    omega
 simp only at ha hb
 have la := regT_len ha
 have lb := regT_len hb
 have lc : (decI xc).length ≤ 11 := decI_len (by omega) (by omega)
 have wl : (wordT k).length ≤ 6 := (word_all ⟨k, hk27⟩).2.2.2
 refine Tri.mono (rform_t (k : Int)) ?_
 rintro _ h1 ⟨rfl, rfl⟩
 rw [if_pos (by omega), Int.toNat_natCast]
 refine ⟨_, _, rfl, ?_⟩
 refine Tri.mono (rword_t hk27) ?_
 rintro _ h2 ⟨rfl, x2⟩
 refine ⟨_, rfl, ?_⟩
 refine Tri.mono (decI_t xa (by omega) (by omega)) ?_
 rintro _ h3 ⟨rfl, rfl⟩
 refine ⟨_, rfl, rfl, rfl, by rw [List.length_singleton]; omega, ?_⟩
 refine Tri.mono (decI_t xb (by omega) (by omega)) ?_
 rintro _ h3 ⟨rfl, rfl⟩
 refine ⟨_, rfl, rfl, by rw [List.length_singleton]; omega, ?_⟩
 refine Tri.mono (decI_t xc (by omega) (by omega)) ?_
 rintro _ h3 ⟨rfl, rfl⟩
 refine ⟨_, rfl, by rw [List.length_singleton]; omega, ?_⟩
 refine Tri.mono (decI_t xc (by omega) (by omega)) ?_
 rintro _ h3 ⟨rfl, rfl⟩
 refine ⟨_, rfl, ?_⟩
 iterate 18 (refine ⟨by simp only [List.length_append, List.length_cons, List.length_nil]; omega, ?_⟩)
 intro b1 hb1 h4 hh4
 have x4 := Put.ext hh4 hb1
 have f6 := form_le k
 have hlt : lineT ⟨(k : Int), xa, xb, xc⟩ = stmtT (wordT k) (operT ⟨(k : Int), xa, xb, xc⟩) := by unfold lineT; rw [Int.toNat_natCast]
 refine ⟨b1, 0, rfl, ⟨by omega, by omega⟩, ?_⟩
 rw [Int.toNat_natCast, Nat.zero_add, Nat.mul_one, cell_of (Put.at hh4)]
 have hop : operT ⟨(k : Int), xa, xb, xc⟩ = operT ⟨((k : Nat) : Int), xa, xb, xc⟩ := rfl
 unfold operT at hlt
 rw [Int.toNat_natCast] at hlt
 have fin : ∀ l6 : Bytes, lineT ⟨(k : Int), xa, xb, xc⟩ = wordT k ++ l6 → (wordT k).length + l6.length ≤ 9223372036854775807 ∧ vS (wordT k ++ l6) = vS (lineT ⟨(k : Int), xa, xb, xc⟩) ∧ Ext h1 h4 := fun l6 hl6 => by
  refine ⟨?_, by rw [hl6], x2.trans x4⟩
  have := congrArg List.length hl6
  rw [List.length_append] at this
  omega
 generalize form k = f at *
 match f, f6 with
 | 0, _ => exact ⟨_, rfl, fin _ (by rw [hlt]; simp [stmtT])⟩
 | 1, _ => exact ⟨_, rfl, fin _ (by rw [hlt]; simp [stmtT, commaT, regT])⟩
 | 2, _ => exact ⟨_, rfl, fin _ (by rw [hlt]; simp [stmtT, commaT, regT])⟩
 | 3, _ => exact ⟨_, rfl, fin _ (by rw [hlt]; simp [stmtT, commaT, regT])⟩
 | 4, _ => exact ⟨_, rfl, fin _ (by rw [hlt]; simp [stmtT, commaT, regT])⟩
 | 5, _ => exact ⟨_, rfl, fin _ (by rw [hlt]; simp [stmtT, commaT, regT])⟩
 | 6, _ => exact ⟨_, rfl, fin _ (by rw [hlt]; simp [stmtT, commaT, regT])⟩
 | n + 7, hh => omega
end
theorem lines_tri {h : PHeap} (hO : OpTab h) (hM : MaxLen h) (hP : PowTab h) (x : Ins) : Tri Tryz.prog 10 [vA (insC x)] h fun v h' => v = vB true ∧ ∀ k o, h k = some o → h' k = some o := by
 refine T10 ?_
 unfold R10
 refine Tri.mono (line32_t hO hP x) ?_
 rintro _ h1 ⟨rfl, x1⟩
 have kn : Tri Tryz.prog 15 [] h1 fun v h' => v = vB true ∧ Ext h1 h' := known_t (hO.ext x1) (hM.ext x1)
 by_cases e : checkI x = 0
 · refine ⟨lineT x, 0, by unfold lineV; rw [if_neg (by simp [e])], ?_⟩
   refine Tri.mono kn ?_
   rintro _ h2 ⟨rfl, x2⟩
   have x12 := x1.trans x2
   refine ⟨_, rfl, br_neg rfl ?_⟩
   refine Tri.mono (rcheck_t x) ?_
   rintro _ h3 ⟨rfl, rfl⟩
   rw [e]
   refine ⟨_, rfl, br_neg rfl (br_neg rfl ?_)⟩
   refine Tri.mono (asm_t (lineT x) (hO.ext x12) (hM.ext x12)) ?_
   rintro v h4 ⟨x4, hr⟩
   rw [line_back e] at hr
   obtain ⟨a1, k1, a2, k2, rfl, hI, hL, _, _⟩ := hr
   refine ⟨_, _, _, _, _, _, _, _, _, _, _, rfl, ?_⟩
   refine Tri.mono (rline_t e) ?_
   rintro _ h5 ⟨rfl, x5⟩
   obtain ⟨b, o, ha, hrow⟩ := (hI.ext x5).get (j := 0) rfl
   rw [Nat.zero_mul, Nat.add_zero] at hrow
   exact ⟨_, rfl, br_pos (by simp) (br_pos rfl (br_pos rfl ⟨b, o, ha, (by show 0 ≤ (0 : Int) ∧ (0 : Int) < ((1 : Nat) : Int); decide), _, _, _, _, hrow, true, by
    have := pure_eql (ρ := rho [(59, vA (insC x)), (60, vA (insC x))]) (x := .tmp 59) (y := .tmp 60) (t' := 58) (ty := 4) (b := decide (x = x)) (xs := insC x) (ys := insC x) rfl rfl (by kernel_rfl) (eq_ins x x)
    rw [decide_eq_true rfl] at this
    exact this, rfl, (x12.trans x4).trans x5⟩))⟩
 · refine ⟨[], (checkI x : Int), by unfold lineV; rw [if_pos e], ?_⟩
   refine Tri.mono kn ?_
   rintro _ h2 ⟨rfl, x2⟩
   refine ⟨_, rfl, br_neg rfl ?_⟩
   refine Tri.mono (rcheck_t x) ?_
   rintro _ h3 ⟨rfl, rfl⟩
   exact ⟨_, rfl, br_neg (by simp) (br_pos (by simp; omega) ⟨rfl, x1.trans x2⟩)⟩
end Go.Proofs.D
namespace Go.Proofs.D
open Go Go.Den
set_option maxRecDepth 100000
set_option maxHeartbeats 4000000
abbrev erk1 : List CK := [qi, qi, qi, qi]
abbrev erk2 : List CK := [.slice, .str, qi, qi, .slice]
noncomputable def d22 : DCode := up ⟨[(11, .l [.slice]), (17, .l [.slice]), (20, .l erk1), (21, .c (.one false [qi])), (26, .l [qi]), (30, .l [qi]), (34, .l erk2), (35, .c (.one false [qi])), (37, .l [.str]), (41, .l [qi]), (47, .l [.slice]), (52, .l [qi]), (56, .l [qi]), (62, .l [qi]), (64, .l [.slice]), (71, .l [.slice]), (77, .l [.slice]), (80, .l [.str, .bool, qi]), (83, .l [.str]), (84, .c (.one false [.bool])), (88, .l [qi]), (92, .l [.bool]), (96, .l [qi]), (101, .l [qi]), (103, .l [.slice]), (112, .l [.bool]), (115, .l [qi]), (117, .l [.str]), (120, .l [qi]), (130, .l [.slice]), (134, .l [.str, .bool, qi]), (135, .l [.str, .bool, qi]), (136, .c (.one false [.bool])), (141, .l [.slice]), (152, .l [.slice]), (156, .l [.str]), (158, .l [.slice]), (162, .l [.str])], [], [(9, 19, [(3, qi)], []), (69, 73, [(5, qi)], []), (139, 28, [(7, qi)], []), (146, 20, [(8, qi)], [])]⟩ (low Tryz.prog (fun _ => false) (Tryz.f22.body.getD .skip))
theorem low22 : low Tryz.prog (fun _ => false) (Tryz.f22.body.getD .skip) = some (eC d22) := by kernel_rfl
def R22 (a1 : OA) (n1 : Nat) (erk1 : Nat) (l1 : Bs) (i1 : Int) (i2 : Int) (a2 : OA) (n2 : Nat) (erk2 : Nat) (h : PHeap) (Q : Value → PHeap → Prop) : Prop :=
 ∃ (I_1 : Nat → Int → PHeap → Prop), (∃ (m2 : Nat), I_1 m2 (0 : Int) h) ∧
 ∀ (m1 : Nat) (i3 : Int) (h_1 : PHeap), I_1 m1 i3 h_1 →
 br (decide (i3 < ((n1 : Nat) : Int)))
 (∃ (b1 o1 : Nat), a1 = some ⟨b1, o1, none⟩ ∧ (0 ≤ i3 ∧ i3 < n1) ∧
 ∃ (i4 i5 i6 i7 : Int), h_1.row b1 (o1 + (i3).toNat * 4) [vI i4, vI i5, vI i6, vI i7] ∧
 Tri Tryz.prog 33 [vA [vI i4, vI i5, vI i6, vI i7]] h_1 fun v_1 h_2 =>
 ∃ (i8 : Int), v_1 = vI i8 ∧
 br (i8 != 0)
 (Q (vI i8) h_2)
 (∃ (m3 : Nat), m3 < m1 ∧ I_1 m3 (IntKind.i64.wrap (i3 + 1)) h_2 ∧
 tv [vL a1 n1 erk1, vS l1, vI i1, vI i2, vL a2 n2 erk2] ∧ True))
 (br (decide (i1 < 0))
 ((tv [vI i1]) ∧
 Q (vI 9) h_1)
 (br (decide (i1 > 4096))
 ((tv [vI i1]) ∧
 (tv [vI i1]) ∧
 Q (vI 9) h_1)
 (Tri Tryz.prog 26 [vA [vL a1 n1 erk1, vS l1, vI i1, vI i2, vL a2 n2 erk2]] h_1 fun v_2 h_3 =>
 ∃ (i9 : Int), v_2 = vI i9 ∧
 (tv [vI i1]) ∧
 (tv [vS l1]) ∧
 (tv [vI i1]) ∧
 (tv [vI i1]) ∧
 br (decide ((IntKind.i64.wrap ((IntKind.i64.wrap (i9 + (l1.length : Int))) + i1)) > 4096))
 (Q (vI 9) h_3)
 (br (decide (((n2 : Nat) : Int) > 1024))
 (Q (vI 9) h_3)
 (br (decide (i2 < 0))
 (Q (vI 2) h_3)
 (br ((Int.tmod i2 4) != 0)
 (Q (vI 2) h_3)
 (br (decide (i2 ≥ (IntKind.i64.wrap (4 * ((n1 : Nat) : Int)))))
 (Q (vI 2) h_3)
 (∃ (I_2 : Nat → Int → PHeap → Prop), (∃ (m5 : Nat), I_2 m5 (0 : Int) h_3) ∧
 ∀ (m4 : Nat) (i10 : Int) (h_4 : PHeap), I_2 m4 i10 h_4 →
 br (decide (i10 < ((n2 : Nat) : Int)))
 (∃ (b2 o2 : Nat), a2 = some ⟨b2, o2, none⟩ ∧ (0 ≤ i10 ∧ i10 < n2) ∧
 ∃ (l2 : Bs) (c1 : Bool) (i11 : Int), h_4.row b2 (o2 + (i10).toNat * 3) [vS l2, vB c1, vI i11] ∧
 Tri Tryz.prog 28 [vS l2] h_4 fun v_3 h_5 =>
 ∃ (c2 : Bool), v_3 = vB c2 ∧
 br (!c2)
 (Q (vI 12) h_5)
 (br (decide (i11 < 0))
 (Q (vI 2) h_5)
 (br (!c1)
 (br ((Int.tmod i11 4) != 0)
 (Q (vI 2) h_5)
 (br (decide (i11 > (IntKind.i64.wrap (4 * ((n1 : Nat) : Int)))))
 (Q (vI 2) h_5)
 (br c1
 (br (decide (i11 > (IntKind.i64.wrap ((l1.length : Int) + i1))))
 (Q (vI 2) h_5)
 (br (decide (i10 > 0))
 (∃ (b3 o3 : Nat), a2 = some ⟨b3, o3, none⟩ ∧ (0 ≤ (IntKind.i64.wrap (i10 - 1)) ∧ (IntKind.i64.wrap (i10 - 1)) < n2) ∧
 ∃ (l3 : Bs) (c3 : Bool) (i12 : Int), h_5.row b3 (o3 + (IntKind.i64.wrap (i10 - 1)).toNat * 3) [vS l3, vB c3, vI i12] ∧
 Tri Tryz.prog 45 [vA [vS l3, vB c3, vI i12], vA [vS l2, vB c1, vI i11]] h_5 fun v_4 h_6 =>
 ∃ (c4 : Bool), v_4 = vB c4 ∧
 (tv [vL a2 n2 erk2]) ∧
 br (!c4)
 (Q (vI 32) h_6)
 (∃ (m6 : Nat), m6 < m4 ∧ I_2 m6 (IntKind.i64.wrap (i10 + 1)) h_6 ∧
 tv [vL a1 n1 erk1, vS l1, vI i1, vI i2, vL a2 n2 erk2] ∧ True))
 (∃ (m7 : Nat), m7 < m4 ∧ I_2 m7 (IntKind.i64.wrap (i10 + 1)) h_5 ∧
 tv [vL a1 n1 erk1, vS l1, vI i1, vI i2, vL a2 n2 erk2] ∧ True)))
 (br (decide (i10 > 0))
 (∃ (b4 o4 : Nat), a2 = some ⟨b4, o4, none⟩ ∧ (0 ≤ (IntKind.i64.wrap (i10 - 1)) ∧ (IntKind.i64.wrap (i10 - 1)) < n2) ∧
 ∃ (l4 : Bs) (c5 : Bool) (i13 : Int), h_5.row b4 (o4 + (IntKind.i64.wrap (i10 - 1)).toNat * 3) [vS l4, vB c5, vI i13] ∧
 Tri Tryz.prog 45 [vA [vS l4, vB c5, vI i13], vA [vS l2, vB c1, vI i11]] h_5 fun v_5 h_7 =>
 ∃ (c6 : Bool), v_5 = vB c6 ∧
 (tv [vL a2 n2 erk2]) ∧
 br (!c6)
 (Q (vI 32) h_7)
 (∃ (m8 : Nat), m8 < m4 ∧ I_2 m8 (IntKind.i64.wrap (i10 + 1)) h_7 ∧
 tv [vL a1 n1 erk1, vS l1, vI i1, vI i2, vL a2 n2 erk2] ∧ True))
 (∃ (m9 : Nat), m9 < m4 ∧ I_2 m9 (IntKind.i64.wrap (i10 + 1)) h_5 ∧
 tv [vL a1 n1 erk1, vS l1, vI i1, vI i2, vL a2 n2 erk2] ∧ True)))))
 (br c1
 (br (decide (i11 > (IntKind.i64.wrap ((l1.length : Int) + i1))))
 (Q (vI 2) h_5)
 (br (decide (i10 > 0))
 (∃ (b5 o5 : Nat), a2 = some ⟨b5, o5, none⟩ ∧ (0 ≤ (IntKind.i64.wrap (i10 - 1)) ∧ (IntKind.i64.wrap (i10 - 1)) < n2) ∧
 ∃ (l5 : Bs) (c7 : Bool) (i14 : Int), h_5.row b5 (o5 + (IntKind.i64.wrap (i10 - 1)).toNat * 3) [vS l5, vB c7, vI i14] ∧
 Tri Tryz.prog 45 [vA [vS l5, vB c7, vI i14], vA [vS l2, vB c1, vI i11]] h_5 fun v_6 h_8 =>
 ∃ (c8 : Bool), v_6 = vB c8 ∧
 (tv [vL a2 n2 erk2]) ∧
 br (!c8)
 (Q (vI 32) h_8)
 (∃ (m10 : Nat), m10 < m4 ∧ I_2 m10 (IntKind.i64.wrap (i10 + 1)) h_8 ∧
 tv [vL a1 n1 erk1, vS l1, vI i1, vI i2, vL a2 n2 erk2] ∧ True))
 (∃ (m11 : Nat), m11 < m4 ∧ I_2 m11 (IntKind.i64.wrap (i10 + 1)) h_5 ∧
 tv [vL a1 n1 erk1, vS l1, vI i1, vI i2, vL a2 n2 erk2] ∧ True)))
 (br (decide (i10 > 0))
 (∃ (b6 o6 : Nat), a2 = some ⟨b6, o6, none⟩ ∧ (0 ≤ (IntKind.i64.wrap (i10 - 1)) ∧ (IntKind.i64.wrap (i10 - 1)) < n2) ∧
 ∃ (l6 : Bs) (c9 : Bool) (i15 : Int), h_5.row b6 (o6 + (IntKind.i64.wrap (i10 - 1)).toNat * 3) [vS l6, vB c9, vI i15] ∧
 Tri Tryz.prog 45 [vA [vS l6, vB c9, vI i15], vA [vS l2, vB c1, vI i11]] h_5 fun v_7 h_9 =>
 ∃ (c10 : Bool), v_7 = vB c10 ∧
 (tv [vL a2 n2 erk2]) ∧
 br (!c10)
 (Q (vI 32) h_9)
 (∃ (m12 : Nat), m12 < m4 ∧ I_2 m12 (IntKind.i64.wrap (i10 + 1)) h_9 ∧
 tv [vL a1 n1 erk1, vS l1, vI i1, vI i2, vL a2 n2 erk2] ∧ True))
 (∃ (m13 : Nat), m13 < m4 ∧ I_2 m13 (IntKind.i64.wrap (i10 + 1)) h_5 ∧
 tv [vL a1 n1 erk1, vS l1, vI i1, vI i2, vL a2 n2 erk2] ∧ True))))))
 (∃ (I_3 : Nat → Int → PHeap → Prop), (∃ (m15 : Nat), I_3 m15 (0 : Int) h_4) ∧
 ∀ (m14 : Nat) (i16 : Int) (h_10 : PHeap), I_3 m14 i16 h_10 →
 br (decide (i16 < ((n2 : Nat) : Int)))
 (∃ (I_4 : Nat → Int → PHeap → Prop), (∃ (m17 : Nat), I_4 m17 (0 : Int) h_10) ∧
 ∀ (m16 : Nat) (i17 : Int) (h_11 : PHeap), I_4 m16 i17 h_11 →
 br (decide (i17 < i16))
 (∃ (b7 o7 : Nat), a2 = some ⟨b7, o7, none⟩ ∧ (0 ≤ i17 ∧ i17 < n2) ∧
 ∃ (l7 : Bs), h_11.cell b7 (o7 + (i17).toNat * 3) = some (vS l7) ∧
 ∃ (b8 o8 : Nat), a2 = some ⟨b8, o8, none⟩ ∧ (0 ≤ i16 ∧ i16 < n2) ∧
 ∃ (l8 : Bs), h_11.cell b8 (o8 + (i16).toNat * 3) = some (vS l8) ∧
 br (l7 == l8)
 (Q (vI 7) h_11)
 (∃ (m18 : Nat), m18 < m16 ∧ I_4 m18 (IntKind.i64.wrap (i17 + 1)) h_11 ∧
 tv [vL a1 n1 erk1, vS l1, vI i1, vI i2, vL a2 n2 erk2] ∧ True))
 (∃ (m19 : Nat), m19 < m14 ∧ I_3 m19 (IntKind.i64.wrap (i16 + 1)) h_11 ∧
 tv [vL a1 n1 erk1, vS l1, vI i1, vI i2, vL a2 n2 erk2] ∧ True))
 (Q (vI 0) h_10))))))))))
theorem T22 {a1 : OA} {n1 : Nat} {erk1 : Nat} {l1 : Bs} {i1 : Int} {i2 : Int} {a2 : OA} {n2 : Nat} {erk2 : Nat} {h : PHeap} {Q : Value → PHeap → Prop} (hR : R22 a1 n1 erk1 l1 i1 i2 a2 n2 erk2 h Q) : Tri Tryz.prog 22 [vA [vL a1 n1 erk1, vS l1, vI i1, vI i2, vL a2 n2 erk2]] h Q :=
 tri_of_dn mixed Tryz.func22 rfl (by kernel_rfl) low22 (rs := [.tmp 2]) (by kernel_rfl) rfl (Eq.mpr (by kernel_rfl : dnF Tryz.prog Tryz.f22.ntmps d22 [.tmp 2] [vA [vL a1 n1 erk1, vS l1, vI i1, vI i2, vL a2 n2 erk2]] h Q = R22 a1 n1 erk1 l1 i1 i2 a2 n2 erk2 h Q) hR)
noncomputable def d23 : DCode := up ⟨[(8, .l [.slice]), (14, .l [.slice]), (18, .l [.str]), (23, .l [.slice]), (27, .l [.bool]), (29, .l erk2), (30, .c (.one false [qi])), (32, .l [.slice]), (36, .l [qi]), (39, .l [.slice]), (43, .l [.str]), (47, .l [.slice]), (51, .l [qi])], [], [(6, 48, [(5, qi)], [])]⟩ (low Tryz.prog (fun _ => false) (Tryz.f23.body.getD .skip))
theorem low23 : low Tryz.prog (fun _ => false) (Tryz.f23.body.getD .skip) = some (eC d23) := by kernel_rfl
def R23 (a1 : OA) (n1 : Nat) (erk1 : Nat) (l1 : Bs) (i1 : Int) (i2 : Int) (a2 : OA) (n2 : Nat) (erk2 : Nat) (l2 : Bs) (h : PHeap) (Q : Value → PHeap → Prop) : Prop :=
 ∃ (I_1 : Nat → Int → PHeap → Prop), (∃ (m2 : Nat), I_1 m2 (0 : Int) h) ∧
 ∀ (m1 : Nat) (i3 : Int) (h_1 : PHeap), I_1 m1 i3 h_1 →
 br (decide (i3 < ((n2 : Nat) : Int)))
 (∃ (b1 o1 : Nat), a2 = some ⟨b1, o1, none⟩ ∧ (0 ≤ i3 ∧ i3 < n2) ∧
 ∃ (l3 : Bs), h_1.cell b1 (o1 + (i3).toNat * 3) = some (vS l3) ∧
 br (l3 == l2)
 (∃ (b2 o2 : Nat), a2 = some ⟨b2, o2, none⟩ ∧ (0 ≤ i3 ∧ i3 < n2) ∧
 ∃ (c1 : Bool), h_1.cell b2 ((o2 + (i3).toNat * 3) + 1) = some (vB c1) ∧
 br c1
 (∃ (b3 o3 : Nat), a2 = some ⟨b3, o3, none⟩ ∧ (0 ≤ i3 ∧ i3 < n2) ∧
 ∃ (i4 : Int), h_1.cell b3 ((o3 + (i3).toNat * 3) + 2) = some (vI i4) ∧
 Tri Tryz.prog 26 [vA [vL a1 n1 erk1, vS l1, vI i1, vI i2, vL a2 n2 erk2]] h_1 fun v_1 h_2 =>
 ∃ (i5 : Int), v_1 = vI i5 ∧
 (h_2.cell b3 ((o3 + (i3).toNat * 3) + 2) = some (vI i4)) ∧
 (tv [vL a2 n2 erk2]) ∧
 Q (vI (IntKind.i64.wrap (i5 + i4))) h_2)
 (∃ (b4 o4 : Nat), a2 = some ⟨b4, o4, none⟩ ∧ (0 ≤ i3 ∧ i3 < n2) ∧
 ∃ (l4 : Bs), h_1.cell b4 (o4 + (i3).toNat * 3) = some (vS l4) ∧
 br (l4 == l2)
 (∃ (b5 o5 : Nat), a2 = some ⟨b5, o5, none⟩ ∧ (0 ≤ i3 ∧ i3 < n2) ∧
 ∃ (i6 : Int), h_1.cell b5 ((o5 + (i3).toNat * 3) + 2) = some (vI i6) ∧
 Q (vI i6) h_1)
 (∃ (m3 : Nat), m3 < m1 ∧ I_1 m3 (IntKind.i64.wrap (i3 + 1)) h_1 ∧
 tv [vL a1 n1 erk1, vS l1, vI i1, vI i2, vL a2 n2 erk2] ∧ True)))
 (∃ (b6 o6 : Nat), a2 = some ⟨b6, o6, none⟩ ∧ (0 ≤ i3 ∧ i3 < n2) ∧
 ∃ (l5 : Bs), h_1.cell b6 (o6 + (i3).toNat * 3) = some (vS l5) ∧
 br (l5 == l2)
 (∃ (b7 o7 : Nat), a2 = some ⟨b7, o7, none⟩ ∧ (0 ≤ i3 ∧ i3 < n2) ∧
 ∃ (i7 : Int), h_1.cell b7 ((o7 + (i3).toNat * 3) + 2) = some (vI i7) ∧
 Q (vI i7) h_1)
 (∃ (m4 : Nat), m4 < m1 ∧ I_1 m4 (IntKind.i64.wrap (i3 + 1)) h_1 ∧
 tv [vL a1 n1 erk1, vS l1, vI i1, vI i2, vL a2 n2 erk2] ∧ True)))
 (Q (vI (-1)) h_1)
theorem T23 {a1 : OA} {n1 : Nat} {erk1 : Nat} {l1 : Bs} {i1 : Int} {i2 : Int} {a2 : OA} {n2 : Nat} {erk2 : Nat} {l2 : Bs} {h : PHeap} {Q : Value → PHeap → Prop} (hR : R23 a1 n1 erk1 l1 i1 i2 a2 n2 erk2 l2 h Q) : Tri Tryz.prog 23 [vA [vL a1 n1 erk1, vS l1, vI i1, vI i2, vL a2 n2 erk2], vS l2] h Q :=
 tri_of_dn mixed Tryz.func23 rfl (by kernel_rfl) low23 (rs := [.tmp 4]) (by kernel_rfl) rfl (Eq.mpr (by kernel_rfl : dnF Tryz.prog Tryz.f23.ntmps d23 [.tmp 4] [vA [vL a1 n1 erk1, vS l1, vI i1, vI i2, vL a2 n2 erk2], vS l2] h Q = R23 a1 n1 erk1 l1 i1 i2 a2 n2 erk2 l2 h Q) hR)
noncomputable def d26 : DCode := up ⟨[(4, .l [.slice])], [], []⟩ (low Tryz.prog (fun _ => false) (Tryz.f26.body.getD .skip))
theorem low26 : low Tryz.prog (fun _ => false) (Tryz.f26.body.getD .skip) = some (eC d26) := by kernel_rfl
def R26 (a1 : OA) (n1 : Nat) (erk1 : Nat) (l1 : Bs) (i1 : Int) (i2 : Int) (a2 : OA) (n2 : Nat) (erk2 : Nat) (h : PHeap) (Q : Value → PHeap → Prop) : Prop :=
 Q (vI (IntKind.i64.wrap ((IntKind.i64.wrap (Int.tdiv (IntKind.i64.wrap ((IntKind.i64.wrap (4 * ((n1 : Nat) : Int))) + 63)) 64)) * 64))) h
theorem T26 {a1 : OA} {n1 : Nat} {erk1 : Nat} {l1 : Bs} {i1 : Int} {i2 : Int} {a2 : OA} {n2 : Nat} {erk2 : Nat} {h : PHeap} {Q : Value → PHeap → Prop} (hR : R26 a1 n1 erk1 l1 i1 i2 a2 n2 erk2 h Q) : Tri Tryz.prog 26 [vA [vL a1 n1 erk1, vS l1, vI i1, vI i2, vL a2 n2 erk2]] h Q :=
 tri_of_dn mixed Tryz.func26 rfl (by kernel_rfl) low26 (rs := [.tmp 2]) (by kernel_rfl) rfl (Eq.mpr (by kernel_rfl : dnF Tryz.prog Tryz.f26.ntmps d26 [.tmp 2] [vA [vL a1 n1 erk1, vS l1, vI i1, vI i2, vL a2 n2 erk2]] h Q = R26 a1 n1 erk1 l1 i1 i2 a2 n2 erk2 h Q) hR)
abbrev o45_3 : Op := .binOp .lss 9 (.tmp 25) (.tmp 27) 9
noncomputable def d45 : DCode := up ⟨[(7, .l [.bool]), (9, .l [.bool]), (12, .l [.bool]), (15, .l [qi]), (17, .l [qi]), (20, .l [qi]), (22, .l [qi]), (25, .l [.str]), (27, .l [.str]), (28, .c (.one false [.bool]))], [], []⟩ (low Tryz.prog (fun _ => false) (Tryz.f45.body.getD .skip))
theorem low45 : low Tryz.prog (fun _ => false) (Tryz.f45.body.getD .skip) = some (eC d45) := by kernel_rfl
def R45 (l1 : Bs) (c1 : Bool) (i1 : Int) (l2 : Bs) (c2 : Bool) (i2 : Int) (h : PHeap) (Q : Value → PHeap → Prop) : Prop :=
 br (!(c1 == c2))
 (Q (vB c2) h)
 (br (i1 != i2)
 (Q (vB (decide (i1 < i2))) h)
 (∃ (c3 : Bool), PureRun Tryz.prog (execOp (rho [(25, vS l1), (27, vS l2)]) (mkO o45_3 4)) (vB c3) ∧
 Q (vB c3) h))
theorem T45 {l1 : Bs} {c1 : Bool} {i1 : Int} {l2 : Bs} {c2 : Bool} {i2 : Int} {h : PHeap} {Q : Value → PHeap → Prop} (hR : R45 l1 c1 i1 l2 c2 i2 h Q) : Tri Tryz.prog 45 [vA [vS l1, vB c1, vI i1], vA [vS l2, vB c2, vI i2]] h Q :=
 tri_of_dn mixed Tryz.func45 rfl (by kernel_rfl) low45 (rs := [.tmp 4]) (by kernel_rfl) rfl (Eq.mpr (by kernel_rfl : dnF Tryz.prog Tryz.f45.ntmps d45 [.tmp 4] [vA [vS l1, vB c1, vI i1], vA [vS l2, vB c2, vI i2]] h Q = R45 l1 c1 i1 l2 c2 i2 h Q) hR)
abbrev o19_0 : Op := .call { callee := (.builtin .min), args := #[(.tmp 10), (.const (vI 24))], argTypes := #[3, 3] }
abbrev o19_1 : Op := .call { callee := (.builtin .min), args := #[(.tmp 17), (.const (vI 200))], argTypes := #[3, 3] }
abbrev o19_4 : Op := .call { callee := (.builtin .min), args := #[(.tmp 42), (.const (vI 60))], argTypes := #[3, 3] }
abbrev o19_5 : Op := .call { callee := (.builtin .append), args := #[(.tmp 46), (.tmp 48)], argTypes := #[30, 30] }
noncomputable def d19 : DCode := up ⟨[(7, .l [.slice]), (9, .l [.slice]), (11, .c (.one false [qi])), (14, .l [.str]), (16, .l [.str]), (18, .c (.one false [qi])), (24, .l [.slice]), (34, .l [.slice]), (37, .l [.str, .bool, qi]), (39, .l [.str]), (41, .l [.str]), (43, .c (.one false [qi])), (47, .l [.str, .bool, qi]), (49, .c (.one false [.slice])), (52, .l erk2)], [], [(22, 31, [(3, .slice), (4, qi)], [])]⟩ (low Tryz.prog (fun _ => false) (Tryz.f19.body.getD .skip))
theorem low19 : low Tryz.prog (fun _ => false) (Tryz.f19.body.getD .skip) = some (eC d19) := by kernel_rfl
def R19 (a1 : OA) (n1 : Nat) (erk1 : Nat) (l1 : Bs) (i1 : Int) (i2 : Int) (a2 : OA) (n2 : Nat) (erk2 : Nat) (h : PHeap) (Q : Value → PHeap → Prop) : Prop :=
 ∃ (i3 : Int), PureRun Tryz.prog (execOp (rho [(10, vI ((n1 : Nat) : Int))]) (mkO o19_0 3)) (vI i3) ∧
 (okA a1 n1 erk1 ∧ 0 ≤ (0 : Int) ∧ (0 : Int) ≤ i3 ∧ i3 ≤ erk1) ∧ ∀ (a3 : OA), SlA a1 a3 0 erk1 4 →
 ∃ (i4 : Int), PureRun Tryz.prog (execOp (rho [(17, vI (l1.length : Int))]) (mkO o19_1 3)) (vI i4) ∧
 (0 ≤ (0 : Int) ∧ (0 : Int) ≤ i4 ∧ i4 ≤ (l1.length : Int)) ∧
 ∃ (I_1 : Nat → OA → Nat → Nat → Int → PHeap → Prop), (∃ (m2 : Nat), I_1 m2 none 0 0 (0 : Int) h) ∧
 ∀ (m1 : Nat) (a4 : OA) (n3 : Nat) (k3 : Nat) (i5 : Int) (h_1 : PHeap), I_1 m1 a4 n3 k3 i5 h_1 →
 br (decide (i5 < ((n2 : Nat) : Int)))
 (br (decide (i5 < 12))
 (∃ (b1 o1 : Nat), a2 = some ⟨b1, o1, none⟩ ∧ (0 ≤ i5 ∧ i5 < n2) ∧
 ∃ (l2 : Bs) (c1 : Bool) (i6 : Int), h_1.row b1 (o1 + (i5).toNat * 3) [vS l2, vB c1, vI i6] ∧
 ∃ (i7 : Int), PureRun Tryz.prog (execOp (rho [(42, vI (l2.length : Int))]) (mkO o19_4 3)) (vI i7) ∧
 (0 ≤ (0 : Int) ∧ (0 : Int) ≤ i7 ∧ i7 ≤ (l2.length : Int)) ∧
 ∀ (b2 : Nat), h_1 b2 = none → ∀ (h_2 : PHeap), h_2 = h_1.put b2 (.cells ⟨[vS ((l2.drop 0).take ((i7).toNat - 0)), vB c1, vI i6]⟩ 89) →
 Raw Tryz.prog (execOp (rho [(46, vL a4 n3 k3), (48, vL (ad b2 0) 1 1)]) (mkO o19_5 30)) h_2 fun v_1 h_3 =>
 ∃ (a5 : OA) (n4 k4 : Nat), v_1 = vL a5 n4 k4 ∧
 ∃ (m3 : Nat), m3 < m1 ∧ I_1 m3 a5 n4 k4 (IntKind.i64.wrap (i5 + 1)) h_3 ∧
 tv [vL none 0 0, vS [], vI 0, vI 0, vL none 0 0] ∧ tv [vL a3 ((i3).toNat - 0) (erk1 - 0), vS ((l1.drop 0).take ((i4).toNat - 0)), vI i1, vI i2, vL a2 n2 erk2] ∧ True)
 (Q (vA [vL a3 ((i3).toNat - 0) (erk1 - 0), vS ((l1.drop 0).take ((i4).toNat - 0)), vI i1, vI i2, vL a4 n3 k3]) h_1))
 (Q (vA [vL a3 ((i3).toNat - 0) (erk1 - 0), vS ((l1.drop 0).take ((i4).toNat - 0)), vI i1, vI i2, vL a4 n3 k3]) h_1)
theorem T19 {a1 : OA} {n1 : Nat} {erk1 : Nat} {l1 : Bs} {i1 : Int} {i2 : Int} {a2 : OA} {n2 : Nat} {erk2 : Nat} {h : PHeap} {Q : Value → PHeap → Prop} (hR : R19 a1 n1 erk1 l1 i1 i2 a2 n2 erk2 h Q) : Tri Tryz.prog 19 [vA [vL a1 n1 erk1, vS l1, vI i1, vI i2, vL a2 n2 erk2]] h Q :=
 tri_of_dn mixed Tryz.func19 rfl (by kernel_rfl) low19 (rs := [.cell 2 true 5]) (by kernel_rfl) rfl (Eq.mpr (by kernel_rfl : dnF Tryz.prog Tryz.f19.ntmps d19 [.cell 2 true 5] [vA [vL a1 n1 erk1, vS l1, vI i1, vI i2, vL a2 n2 erk2]] h Q = R19 a1 n1 erk1 l1 i1 i2 a2 n2 erk2 h Q) hR)
abbrev o20_1 : Op := .call { callee := (.builtin .append), args := #[(.tmp 28), (.tmp 38)], argTypes := #[22, 22] }
abbrev o20_4 : Op := .call { callee := (.builtin .append), args := #[(.tmp 54), (.tmp 62)], argTypes := #[23, 23] }
noncomputable def d20 : DCode := up ⟨[(9, .l [.str]), (11, .l [qi]), (13, .l [qi]), (17, .l [.slice]), (23, .l [.slice]), (26, .l erk1), (28, .l [.slice]), (30, .l [qi]), (32, .l [qi]), (34, .l [qi]), (36, .l [qi]), (39, .c (.one false [.slice])), (43, .l [.slice]), (49, .l [.slice]), (52, .l [.str, .bool, qi]), (54, .l [.slice]), (56, .l [.str]), (58, .l [.bool]), (60, .l [qi]), (63, .c (.one false [.slice])), (65, .l erk2)], [], [(15, 28, [(4, qi)], [(3, erk2)]), (41, 26, [(6, qi)], [(3, erk2)])]⟩ (low Tryz.prog (fun _ => false) (Tryz.f20.body.getD .skip))
theorem low20 : low Tryz.prog (fun _ => false) (Tryz.f20.body.getD .skip) = some (eC d20) := by kernel_rfl
def R20 (a1 : OA) (n1 : Nat) (erk1 : Nat) (l1 : Bs) (i1 : Int) (i2 : Int) (a2 : OA) (n2 : Nat) (erk2 : Nat) (h : PHeap) (Q : Value → PHeap → Prop) : Prop :=
 ∃ (I_1 : Nat → Int → OA → Nat → Nat → Bs → Int → Int → OA → Nat → Nat → PHeap → Prop), (∃ (m2 : Nat), I_1 m2 (0 : Int) none 0 0 l1 i1 i2 none 0 0 h) ∧
 ∀ (m1 : Nat) (i3 : Int) (a3 : OA) (n3 : Nat) (k3 : Nat) (l2 : Bs) (i4 : Int) (i5 : Int) (a4 : OA) (n4 : Nat) (k4 : Nat) (h_1 : PHeap), I_1 m1 i3 a3 n3 k3 l2 i4 i5 a4 n4 k4 h_1 →
 br (decide (i3 < ((n1 : Nat) : Int)))
 (∃ (b1 o1 : Nat), a1 = some ⟨b1, o1, none⟩ ∧ (0 ≤ i3 ∧ i3 < n1) ∧
 ∃ (i6 i7 i8 i9 : Int), h_1.row b1 (o1 + (i3).toNat * 4) [vI i6, vI i7, vI i8, vI i9] ∧
 ∀ (b2 : Nat), h_1 b2 = none → ∀ (h_2 : PHeap), h_2 = h_1.put b2 (.cells ⟨[vI i6, vI i7, vI i8, vI i9]⟩ 58) →
 Raw Tryz.prog (execOp (rho [(28, vL a3 n3 k3), (38, vL (ad b2 0) 1 1)]) (mkO o20_1 22)) h_2 fun v_1 h_3 =>
 ∃ (a5 : OA) (n5 k5 : Nat), v_1 = vL a5 n5 k5 ∧
 ∃ (m3 : Nat), m3 < m1 ∧ I_1 m3 (IntKind.i64.wrap (i3 + 1)) a5 n5 k5 l2 i4 i5 a4 n4 k4 h_3 ∧
 tv [vL none 0 0, vS [], vI 0, vI 0, vL none 0 0] ∧ tv [vL a1 n1 erk1, vS l1, vI i1, vI i2, vL a2 n2 erk2] ∧ True)
 (∃ (I_2 : Nat → Int → OA → Nat → Nat → Bs → Int → Int → OA → Nat → Nat → PHeap → Prop), (∃ (m5 : Nat), I_2 m5 (0 : Int) a3 n3 k3 l2 i4 i5 a4 n4 k4 h_1) ∧
 ∀ (m4 : Nat) (i10 : Int) (a6 : OA) (n6 : Nat) (k6 : Nat) (l3 : Bs) (i11 : Int) (i12 : Int) (a7 : OA) (n7 : Nat) (k7 : Nat) (h_4 : PHeap), I_2 m4 i10 a6 n6 k6 l3 i11 i12 a7 n7 k7 h_4 →
 br (decide (i10 < ((n2 : Nat) : Int)))
 (∃ (b3 o2 : Nat), a2 = some ⟨b3, o2, none⟩ ∧ (0 ≤ i10 ∧ i10 < n2) ∧
 ∃ (l4 : Bs) (c1 : Bool) (i13 : Int), h_4.row b3 (o2 + (i10).toNat * 3) [vS l4, vB c1, vI i13] ∧
 ∀ (b4 : Nat), h_4 b4 = none → ∀ (h_5 : PHeap), h_5 = h_4.put b4 (.cells ⟨[vS l4, vB c1, vI i13]⟩ 80) →
 Raw Tryz.prog (execOp (rho [(54, vL a7 n7 k7), (62, vL (ad b4 0) 1 1)]) (mkO o20_4 23)) h_5 fun v_2 h_6 =>
 ∃ (a8 : OA) (n8 k8 : Nat), v_2 = vL a8 n8 k8 ∧
 ∃ (m6 : Nat), m6 < m4 ∧ I_2 m6 (IntKind.i64.wrap (i10 + 1)) a6 n6 k6 l3 i11 i12 a8 n8 k8 h_6 ∧
 tv [vL none 0 0, vS [], vI 0, vI 0, vL none 0 0] ∧ tv [vL a1 n1 erk1, vS l1, vI i1, vI i2, vL a2 n2 erk2] ∧ True)
 (Q (vA [vL a6 n6 k6, vS l3, vI i11, vI i12, vL a7 n7 k7]) h_4))
theorem T20 {a1 : OA} {n1 : Nat} {erk1 : Nat} {l1 : Bs} {i1 : Int} {i2 : Int} {a2 : OA} {n2 : Nat} {erk2 : Nat} {h : PHeap} {Q : Value → PHeap → Prop} (hR : R20 a1 n1 erk1 l1 i1 i2 a2 n2 erk2 h Q) : Tri Tryz.prog 20 [vA [vL a1 n1 erk1, vS l1, vI i1, vI i2, vL a2 n2 erk2]] h Q :=
 tri_of_dn mixed Tryz.func20 rfl (by kernel_rfl) low20 (rs := [.cell 2 true 5]) (by kernel_rfl) rfl (Eq.mpr (by kernel_rfl : dnF Tryz.prog Tryz.f20.ntmps d20 [.cell 2 true 5] [vA [vL a1 n1 erk1, vS l1, vI i1, vI i2, vL a2 n2 erk2]] h Q = R20 a1 n1 erk1 l1 i1 i2 a2 n2 erk2 h Q) hR)
abbrev o5_0 : Op := .call { callee := (.builtin .min), args := #[(.tmp 13), (.const (vI 60))], argTypes := #[3, 3] }
abbrev o5_8 : Op := .call { callee := (.builtin .max), args := #[(.tmp 53), (.const (vI 0))], argTypes := #[3, 3] }
noncomputable def d5 : DCode := up ⟨[(9, .l erk2), (10, .c (.one true erk2)), (14, .c (.one false [qi])), (16, .l erk2), (17, .c (.one true erk2)), (19, .l erk2), (21, .c (.tup [(false, [qi]), (false, [.bool])])), (24, .l erk2), (25, .c (.one false [qi])), (27, .l erk2), (29, .c (.one false [qi])), (30, .c (.one false [.bool])), (32, .l erk2), (33, .c (.one false [qi])), (34, .l erk2), (35, .c (.one false [qi])), (39, .l erk2), (40, .c (.one false [qi])), (41, .l erk2), (42, .c (.one false [qi])), (54, .c (.one false [qi]))], [], []⟩ (low Tryz.prog (fun _ => false) (Tryz.f5.body.getD .skip))
theorem low5 : low Tryz.prog (fun _ => false) (Tryz.f5.body.getD .skip) = some (eC d5) := by kernel_rfl
def R5 (a1 : OA) (n1 : Nat) (erk1 : Nat) (l1 : Bs) (i1 : Int) (i2 : Int) (a2 : OA) (n2 : Nat) (erk2 : Nat) (l2 : Bs) (h : PHeap) (Q : Value → PHeap → Prop) : Prop :=
 Tri Tryz.prog 19 [vA [vL a1 n1 erk1, vS l1, vI i1, vI i2, vL a2 n2 erk2]] h fun v_1 h_1 =>
 ∃ (a3 : OA) (n3 k3 : Nat) (l3 : Bs) (i3 i4 : Int) (a4 : OA) (n4 k4 : Nat), v_1 = vA [vL a3 n3 k3, vS l3, vI i3, vI i4, vL a4 n4 k4] ∧
 ∃ (i5 : Int), PureRun Tryz.prog (execOp (rho [(13, vI (l2.length : Int))]) (mkO o5_0 3)) (vI i5) ∧
 (0 ≤ (0 : Int) ∧ (0 : Int) ≤ i5 ∧ i5 ≤ (l2.length : Int)) ∧
 Tri Tryz.prog 20 [vA [vL a3 n3 k3, vS l3, vI i3, vI i4, vL a4 n4 k4]] h_1 fun v_2 h_2 =>
 ∃ (a5 : OA) (n5 k5 : Nat) (l4 : Bs) (i6 i7 : Int) (a6 : OA) (n6 k6 : Nat), v_2 = vA [vL a5 n5 k5, vS l4, vI i6, vI i7, vL a6 n6 k6] ∧
 Tri Tryz.prog 21 [vA [vL a5 n5 k5, vS l4, vI i6, vI i7, vL a6 n6 k6], vS ((l2.drop 0).take ((i5).toNat - 0))] h_2 fun v_3 h_3 =>
 ∃ (i8 : Int) (c1 : Bool), v_3 = vT [vI i8, vB c1] ∧
 Tri Tryz.prog 22 [vA [vL a3 n3 k3, vS l3, vI i3, vI i4, vL a4 n4 k4]] h_3 fun v_4 h_4 =>
 ∃ (i9 : Int), v_4 = vI i9 ∧
 br (i9 == 0)
 (Tri Tryz.prog 23 [vA [vL a3 n3 k3, vS l3, vI i3, vI i4, vL a4 n4 k4], vS ((l2.drop 0).take ((i5).toNat - 0))] h_4 fun v_5 h_5 =>
 ∃ (i10 : Int), v_5 = vI i10 ∧
 Tri Tryz.prog 15 [] h_5 fun v_6 h_6 =>
 ∃ (c2 : Bool), v_6 = vB c2 ∧
 br c2
 (Tri Tryz.prog 24 [vA [vL a5 n5 k5, vS l4, vI i6, vI i7, vL a6 n6 k6]] h_6 fun v_7 h_7 =>
 ∃ (i11 : Int), v_7 = vI i11 ∧
 (tv [vL a3 n3 k3, vS l3, vI i3, vI i4, vL a4 n4 k4]) ∧
 Tri Tryz.prog 22 [vA [vL a3 n3 k3, vS l3, vI i3, vI i4, vL a4 n4 k4]] h_7 fun v_8 h_8 =>
 ∃ (i12 : Int), v_8 = vI i12 ∧
 br (i11 == i12)
 (Tri Tryz.prog 25 [vA [vL a5 n5 k5, vS l4, vI i6, vI i7, vL a6 n6 k6]] h_8 fun v_9 h_9 =>
 ∃ (i13 : Int), v_9 = vI i13 ∧
 (tv [vL a3 n3 k3, vS l3, vI i3, vI i4, vL a4 n4 k4]) ∧
 Tri Tryz.prog 26 [vA [vL a3 n3 k3, vS l3, vI i3, vI i4, vL a4 n4 k4]] h_9 fun v_10 h_10 =>
 ∃ (i14 : Int), v_10 = vI i14 ∧
 br (i13 == i14)
 (br (c1 == (decide (i10 ≥ 0)))
 (∃ (i15 : Int), PureRun Tryz.prog (execOp (rho [(53, vI i10)]) (mkO o5_8 3)) (vI i15) ∧
 Q (vB (i8 == i15)) h_10)
 (Q (vB false) h_10))
 (Q (vB false) h_10))
 (Q (vB false) h_8))
 (Q (vB false) h_6))
 (Tri Tryz.prog 15 [] h_4 fun v_11 h_11 =>
 ∃ (c3 : Bool), v_11 = vB c3 ∧
 br c3
 (Tri Tryz.prog 24 [vA [vL a5 n5 k5, vS l4, vI i6, vI i7, vL a6 n6 k6]] h_11 fun v_12 h_12 =>
 ∃ (i16 : Int), v_12 = vI i16 ∧
 (tv [vL a3 n3 k3, vS l3, vI i3, vI i4, vL a4 n4 k4]) ∧
 Tri Tryz.prog 22 [vA [vL a3 n3 k3, vS l3, vI i3, vI i4, vL a4 n4 k4]] h_12 fun v_13 h_13 =>
 ∃ (i17 : Int), v_13 = vI i17 ∧
 br (i16 == i17)
 (Tri Tryz.prog 25 [vA [vL a5 n5 k5, vS l4, vI i6, vI i7, vL a6 n6 k6]] h_13 fun v_14 h_14 =>
 ∃ (i18 : Int), v_14 = vI i18 ∧
 (tv [vL a3 n3 k3, vS l3, vI i3, vI i4, vL a4 n4 k4]) ∧
 Tri Tryz.prog 26 [vA [vL a3 n3 k3, vS l3, vI i3, vI i4, vL a4 n4 k4]] h_14 fun v_15 h_15 =>
 ∃ (i19 : Int), v_15 = vI i19 ∧
 br (i18 == i19)
 (br (c1 == false)
 (∃ (i20 : Int), PureRun Tryz.prog (execOp (rho [(53, vI (-1))]) (mkO o5_8 3)) (vI i20) ∧
 Q (vB (i8 == i20)) h_15)
 (Q (vB false) h_15))
 (Q (vB false) h_15))
 (Q (vB false) h_13))
 (Q (vB false) h_11))
theorem T5 {a1 : OA} {n1 : Nat} {erk1 : Nat} {l1 : Bs} {i1 : Int} {i2 : Int} {a2 : OA} {n2 : Nat} {erk2 : Nat} {l2 : Bs} {h : PHeap} {Q : Value → PHeap → Prop} (hR : R5 a1 n1 erk1 l1 i1 i2 a2 n2 erk2 l2 h Q) : Tri Tryz.prog 5 [vA [vL a1 n1 erk1, vS l1, vI i1, vI i2, vL a2 n2 erk2], vS l2] h Q :=
 tri_of_dn mixed Tryz.func5 rfl (by kernel_rfl) low5 (rs := [.tmp 4]) (by kernel_rfl) rfl (Eq.mpr (by kernel_rfl : dnF Tryz.prog Tryz.f5.ntmps d5 [.tmp 4] [vA [vL a1 n1 erk1, vS l1, vI i1, vI i2, vL a2 n2 erk2], vS l2] h Q = R5 a1 n1 erk1 l1 i1 i2 a2 n2 erk2 l2 h Q) hR)
end Go.Proofs.D
namespace Go.As
theorem bytes_less : ∀ a b : Bytes, Op.bytesLess a b = decide (a < b)
 | [], [] => rfl
 | _ :: _, [] => by simp [Op.bytesLess]
 | [], _ :: _ => by simp [Op.bytesLess]
 | x :: a, y :: b => by
   rw [Op.bytesLess, bytes_less a b, Bool.eq_iff_iff]
   simp only [Bool.or_eq_true, Bool.and_eq_true, decide_eq_true_iff, beq_iff_eq, List.cons_lt_cons_iff]
end Go.As
namespace Go.Proofs.D
open Go Go.Den Go.As
set_option maxRecDepth 100000
theorem pure_lss {ρ : Operand → Value} {x y : Operand} {ty t' : TypeId} {a b : Bytes} (hx : ρ x = vS a) (hy : ρ y = vS b) : PureRun Tryz.prog (execOp ρ (mkO (.binOp .lss 9 x y t') ty)) (vB (decide (a < b))) := by
 intro w
 have h2 : (binOp .lss 9 (vS a) (vS b)).run Tryz.prog w = .ok (vB (decide (a < b))) w := by
  rw [show (vS a) = .string ⟨⟨a⟩⟩ from rfl, show (vS b) = .string ⟨⟨b⟩⟩ from rfl, binOp_string_lss, ByteArray.toList_eq, ByteArray.toList_eq, bytes_less]; rfl
 have h3 : (eqGuard .lss 9 x y (vS a) (vS b)).run Tryz.prog w = .ok () w := by simp [eqGuard]
 simp only [execOp, mkO, hx, hy, Sem.run_bind, h3, h2, Result.andThen_ok, Sem.run_pure]
attribute [local irreducible] IntKind.wrap Tri
section
variable {h : PHeap}
theorem rfollows_t (a b : Lb) : Tri Tryz.prog 45 [vA (lbC a), vA (lbC b)] h fun v h' => v = vB (follows a b) ∧ h' = h := by
 refine T45 ?_
 unfold R45
 unfold follows
 refine br_split (fun e => ⟨?_, rfl⟩) fun e => br_split (fun e1 => ⟨?_, rfl⟩) fun e1 => ⟨_, pure_lss rfl rfl, ?_, rfl⟩
 · rw [if_pos (by simpa using e)]
 · have e1 : a.off ≠ b.off := by simpa using e1
   rw [if_neg (by simpa using e), if_pos e1]
 · have e1 : a.off = b.off := by simpa using e1
   rw [if_neg (by simpa using e), if_neg (fun hh => hh e1)]
theorem rdataAt_t {a1 : OA} {k1 : Nat} {d : Bytes} {z e : Int} {a2 : OA} {n2 k2 : Nat} {p : Pg} (hn : p.code.length ≤ 1000000) : Tri Tryz.prog 26 [vA [vL a1 p.code.length k1, vS d, vI z, vI e, vL a2 n2 k2]] h fun v h' => v = vI (dataAt p) ∧ h' = h := by
 refine T26 ?_
 unfold R26
 refine ⟨?_, rfl⟩
 rw [wrap64 (n := 4 * ((p.code.length : Nat) : Int)) (by omega) (by omega), wrap64 (n := 4 * ((p.code.length : Nat) : Int) + 63) (by omega) (by omega)]
 rw [Int.tdiv_eq_ediv_of_nonneg (by omega)]
 rw [wrap64 (n := (4 * ((p.code.length : Nat) : Int) + 63) / 64) (by omega) (by omega), wrap64 (by omega) (by omega)]
 unfold dataAt
 congr 1
theorem raddr_t {a1 : OA} {k1 : Nat} {a2 : OA} {k2 : Nat} {p : Pg} {n : Bytes} (hL : LbAt h a2 p.labels) (hn : p.code.length ≤ 1000000) (hls : p.labels.length ≤ 1000000) (ho : ∀ l ∈ p.labels, 0 ≤ l.off ∧ l.off ≤ 1000000000) :
 Tri Tryz.prog 23 [vA [vL a1 p.code.length k1, vS p.data, vI p.zero, vI p.entry, vL a2 p.labels.length k2], vS n] h fun v h' => v = vI ((address p n).getD (-1)) ∧ h' = h := by
 refine T23 ?_
 unfold R23
 refine ⟨fun m i h' => ∃ j : Nat, i = (j : Int) ∧ j + m = p.labels.length ∧ h' = h ∧ (p.labels.find? fun l => l.name == n) = ((p.labels.drop j).find? fun l => l.name == n), ⟨p.labels.length, 0, rfl, by omega, rfl, rfl⟩, ?_⟩
 rintro m _ h1 ⟨j, rfl, hjm, rfl, hf⟩
 refine br_split (fun e => ?_) fun e => ?_
 · have hlt : j < p.labels.length := by have := of_decide_eq_true e; omega
   have hg : p.labels[j]? = some p.labels[j] := by simp [hlt]
   have hdr := List.drop_eq_getElem_cons hlt
   have hmem := List.getElem_mem hlt
   rw [hdr, List.find?_cons] at hf
   generalize p.labels[j] = l at *
   have hlo := ho l hmem
   obtain ⟨b, o, ha, hr⟩ := hL.get hg
   have hz : (0 : Int) ≤ (j : Int) ∧ (j : Int) < p.labels.length := ⟨by omega, by omega⟩
   have r0 : h1.cell b (o + ((j : Nat) : Int).toNat * 3) = some (vS l.name) := by rw [Int.toNat_natCast]; exact hr.1
   have r1 : h1.cell b ((o + ((j : Nat) : Int).toNat * 3) + 1) = some (vB l.data) := by rw [Int.toNat_natCast]; exact hr.2.1
   have r2 : h1.cell b ((o + ((j : Nat) : Int).toNat * 3) + 2) = some (vI l.off) := by rw [Int.toNat_natCast]; exact hr.2.2
   have next : (l.name == n) = false → ∃ (m3 : Nat), m3 < m ∧ (∃ j' : Nat, IntKind.i64.wrap ((j : Int) + 1) = (j' : Int) ∧ j' + m3 = p.labels.length ∧ h1 = h1 ∧ (p.labels.find? fun l => l.name == n) = ((p.labels.drop j').find? fun l => l.name == n)) ∧ tv [vL a1 p.code.length k1, vS p.data, vI p.zero, vI p.entry, vL a2 p.labels.length k2] ∧ True := fun e2 => by
    rw [e2] at hf
    exact ⟨m - 1, by omega, ⟨j + 1, by rw [wrap64 (by omega) (by omega)]; omega, by omega, rfl, hf⟩, rfl, trivial⟩
   have res : (l.name == n) = true → (address p n).getD (-1) = placeOf p l := fun e2 => by
    rw [e2] at hf
    unfold address; rw [hf]; rfl
   refine ⟨b, o, ha, hz, _, r0, br_split (fun e2 => ⟨b, o, ha, hz, _, r1, br_split (fun e3 => ⟨b, o, ha, hz, _, r2, ?_⟩) fun e3 => ⟨b, o, ha, hz, _, r0, br_split (fun _ => ⟨b, o, ha, hz, _, r2, ?_, rfl⟩) fun e4 => by rw [e2] at e4; cases e4⟩⟩) fun e2 => ⟨b, o, ha, hz, _, r0, br_split (fun e4 => by rw [e2] at e4; cases e4) fun e4 => next e2⟩⟩
   · refine Tri.mono (rdataAt_t (p := p) hn) ?_
     rintro _ h2 ⟨rfl, rfl⟩
     have hda : 0 ≤ dataAt p ∧ dataAt p ≤ 4000100 := by unfold dataAt; omega
     refine ⟨_, rfl, r2, rfl, ?_, rfl⟩
     rw [res e2, wrap64 (by omega) (by omega)]
     unfold placeOf; rw [if_pos e3]
   · rw [res e2]
     unfold placeOf; rw [if_neg (by rw [e3]; decide)]
 · have hj : j = p.labels.length := by have := of_decide_eq_false e; omega
   subst hj
   rw [List.drop_length] at hf
   refine ⟨?_, rfl⟩
   unfold address; rw [hf]; rfl
end
end Go.Proofs.D
namespace Go.Proofs.D
open Go Go.Den Go.As
set_option maxRecDepth 100000
attribute [local irreducible] IntKind.wrap Tri
section
variable {h : PHeap}
theorem rcheckP_t {a1 : OA} {k1 : Nat} {a2 : OA} {k2 : Nat} {p : Pg} (hI : InAt h a1 p.code) (hL : LbAt h a2 p.labels) (hn : p.code.length ≤ 1000000) (hd : p.data.length ≤ 1000000) (hls : p.labels.length ≤ 1000000) :
 Tri Tryz.prog 22 [vA [vL a1 p.code.length k1, vS p.data, vI p.zero, vI p.entry, vL a2 p.labels.length k2]] h fun v h' => v = vI (checkP p : Int) ∧ h' = h := by
 refine T22 ?_
 unfold R22
 refine ⟨fun m i h' => ∃ j : Nat, i = (j : Int) ∧ j + m = p.code.length ∧ h' = h ∧ ∀ k x, k < j → p.code[k]? = some x → checkI x = 0, ⟨p.code.length, 0, rfl, by omega, rfl, fun k x hk => absurd hk (Nat.not_lt_zero k)⟩, ?_⟩
 rintro m _ h1 ⟨j, rfl, hjm, rfl, hu⟩
 refine br_split (fun e => ?_) fun e => ?_
 · have hlt : j < p.code.length := by have := of_decide_eq_true e; omega
   have hg : p.code[j]? = some p.code[j] := by simp [hlt]
   have hdr := List.drop_eq_getElem_cons hlt
   generalize p.code[j] = x at *
   obtain ⟨b, o, ha, hr⟩ := hI.get hg
   refine ⟨b, o, ha, ⟨by omega, by omega⟩, _, _, _, _, (by rw [Int.toNat_natCast]; exact hr), ?_⟩
   refine Tri.mono (rcheck_t x) ?_
   rintro _ h1 ⟨rfl, rfl⟩
   refine ⟨_, rfl, br_split (fun e1 => ?_) fun e1 => ?_⟩
   · have e1 : checkI x ≠ 0 := by simpa using e1
     have : checkP p = checkI x := by
      unfold checkP
      rw [find_take hu, hdr, List.map_cons, List.find?_cons, decide_eq_true e1]
     rw [this]
     exact ⟨rfl, rfl⟩
   · have e1 : checkI x = 0 := by simpa using e1
     refine ⟨m - 1, by omega, ⟨j + 1, ?_, by omega, rfl, fun k y h1 h2 => ?_⟩, rfl, trivial⟩
     · rw [wrap64 (by omega) (by omega)]; omega
     · by_cases hk : k = j
       · subst hk; rw [hg] at h2; injection h2 with h2; rw [← h2]; exact e1
       · exact hu k y (by omega) h2
 have hj : j = p.code.length := by have := of_decide_eq_false e; omega
 subst hj
 have hc : checkP p = if p.zero < 0 ∨ 4096 < p.zero ∨ 4096 < dataAt p + p.data.length + p.zero ∨ 1024 < p.labels.length then 9
  else if p.entry < 0 ∨ p.entry % 4 ≠ 0 ∨ 4 * (p.code.length : Int) ≤ p.entry then 2
  else if labelsErr p none p.labels ≠ 0 then labelsErr p none p.labels else if twice (p.labels.map (·.name)) then 7 else 0 := by
  unfold checkP
  rw [find_take hu, List.drop_length]; rfl
 have nine : (p.zero < 0 ∨ 4096 < p.zero ∨ 4096 < dataAt p + p.data.length + p.zero ∨ 1024 < p.labels.length) → vI 9 = vI (checkP p : Int) := fun hh => by rw [hc, if_pos hh]; rfl
 refine br_split (fun e1 => ?_) fun e1 => br_split (fun e2 => ?_) fun e2 => ?_
 · exact ⟨rfl, nine (.inl (of_decide_eq_true e1)), rfl⟩
 · exact ⟨rfl, rfl, nine (.inr (.inl (of_decide_eq_true e2))), rfl⟩
 have e1 := of_decide_eq_false e1
 have e2 := of_decide_eq_false e2
 refine Tri.mono (rdataAt_t hn) ?_
 rintro _ h1 ⟨rfl, rfl⟩
 have hda : 0 ≤ dataAt p ∧ dataAt p ≤ 4000100 := by unfold dataAt; omega
 refine ⟨_, rfl, rfl, rfl, rfl, rfl, ?_⟩
 rw [wrap64 (n := dataAt p + _) (by omega) (by omega), wrap64 (n := dataAt p + _ + _) (by omega) (by omega)]
 refine br_split (fun e3 => ⟨nine (.inr (.inr (.inl (of_decide_eq_true e3)))), rfl⟩) fun e3 => br_split (fun e4 => ⟨nine (.inr (.inr (.inr (by have := of_decide_eq_true e4; omega)))), rfl⟩) fun e4 => ?_
 have e3 := of_decide_eq_false e3
 have e4 := of_decide_eq_false e4
 rw [if_neg (by omega)] at hc
 have ent : (p.entry < 0 ∨ p.entry % 4 ≠ 0 ∨ 4 * (p.code.length : Int) ≤ p.entry) → vI 2 = vI (checkP p : Int) := fun hh => by rw [hc, if_pos hh]; rfl
 have hw4 : IntKind.i64.wrap (4 * ((p.code.length : Nat) : Int)) = 4 * (p.code.length : Int) := wrap64 (by omega) (by omega)
 have hwd : IntKind.i64.wrap ((p.data.length : Int) + p.zero) = (p.data.length : Int) + p.zero := wrap64 (by omega) (by omega)
 rw [hw4]
 refine br_split (fun e5 => ⟨ent (.inl (of_decide_eq_true e5)), rfl⟩) fun e5 => ?_
 have e5 := of_decide_eq_false e5
 have htm : Int.tmod p.entry 4 = p.entry % 4 := Int.tmod_eq_emod_of_nonneg (by omega)
 rw [htm]
 refine br_split (fun e6 => ⟨ent (.inr (.inl (by simpa using e6))), rfl⟩) fun e6 => br_split (fun e7 => ⟨ent (.inr (.inr (by have := of_decide_eq_true e7; omega))), rfl⟩) fun e7 => ?_
 have e6 : p.entry % 4 = 0 := by simpa using e6
 have e7 := of_decide_eq_false e7
 rw [if_neg (by omega)] at hc
 refine ⟨fun m i h' => ∃ j : Nat, i = (j : Int) ∧ j + m = p.labels.length ∧ h' = h1 ∧ labelsErr p none p.labels = labelsErr p (prevL p.labels j) (p.labels.drop j), ⟨p.labels.length, 0, rfl, by omega, rfl, rfl⟩, ?_⟩
 rintro m _ h2 ⟨j, rfl, hjm, rfl, hu2⟩
 refine br_split (fun e => ?_) fun e => ?_
 · have hlt : j < p.labels.length := by have := of_decide_eq_true e; omega
   have hg : p.labels[j]? = some p.labels[j] := by simp [hlt]
   have hdr := List.drop_eq_getElem_cons hlt
   rw [hdr, labels_cons] at hu2
   generalize p.labels[j] = l at *
   obtain ⟨b, o, ha, hr⟩ := hL.get hg
   have bad : ∀ e : Nat, labelsErr p none p.labels = e → e ≠ 0 → vI (e : Int) = vI (checkP p : Int) ∧ h2 = h2 := fun e h1 h2 => by
    rw [hc, h1, if_pos h2]; exact ⟨rfl, rfl⟩
   refine ⟨b, o, ha, ⟨by omega, by omega⟩, _, _, _, (by rw [Int.toNat_natCast]; exact hr), ?_⟩
   refine Tri.mono (rlabel_t h2 l.name) ?_
   rintro _ h2 ⟨rfl, rfl⟩
   refine ⟨_, rfl, br_split (fun g1 => bad 12 (by rw [hu2, if_pos (not_f g1)]) (by decide)) fun g1 => ?_⟩
   rw [if_neg (by rw [not_t g1]; decide)] at hu2
   have hw1 : IntKind.i64.wrap ((j : Int) + 1) = ((j + 1 : Nat) : Int) := by rw [wrap64 (by omega) (by omega)]; omega
   have two : (l.off < 0 ∨ (l.data = false ∧ (l.off % 4 ≠ 0 ∨ 4 * (p.code.length : Int) < l.off)) ∨ (l.data = true ∧ (p.data.length : Int) + p.zero < l.off)) → _ := fun hh => bad 2 (by rw [hu2, if_pos hh]) (by decide)
   have tail : ¬ (l.off < 0 ∨ (l.data = false ∧ (l.off % 4 ≠ 0 ∨ 4 * (p.code.length : Int) < l.off)) ∨ (l.data = true ∧ (p.data.length : Int) + p.zero < l.off)) →
    br (decide ((j : Int) > 0))
     (∃ (b2 o2 : Nat), a2 = some ⟨b2, o2, none⟩ ∧ (0 ≤ (IntKind.i64.wrap ((j : Int) - 1)) ∧ (IntKind.i64.wrap ((j : Int) - 1)) < p.labels.length) ∧
     ∃ (l3 : Bs) (c4 : Bool) (i5 : Int), h2.row b2 (o2 + (IntKind.i64.wrap ((j : Int) - 1)).toNat * 3) [vS l3, vB c4, vI i5] ∧
     Tri Tryz.prog 45 [vA [vS l3, vB c4, vI i5], vA (lbC l)] h2 fun v_3 h_4 =>
     ∃ (c6 : Bool), v_3 = vB c6 ∧
     (tv [vL a2 p.labels.length k2]) ∧
     br (!c6)
     (vI 32 = vI (checkP p : Int) ∧ h_4 = h2)
     (∃ (m3 : Nat), m3 < m ∧ (∃ j' : Nat, IntKind.i64.wrap ((j : Int) + 1) = (j' : Int) ∧ j' + m3 = p.labels.length ∧ h_4 = h2 ∧ labelsErr p none p.labels = labelsErr p (prevL p.labels j') (p.labels.drop j')) ∧
     tv [vL a1 p.code.length k1, vS p.data, vI p.zero, vI p.entry, vL a2 p.labels.length k2] ∧ True))
     (∃ (m4 : Nat), m4 < m ∧ (∃ j' : Nat, IntKind.i64.wrap ((j : Int) + 1) = (j' : Int) ∧ j' + m4 = p.labels.length ∧ h2 = h2 ∧ labelsErr p none p.labels = labelsErr p (prevL p.labels j') (p.labels.drop j')) ∧
     tv [vL a1 p.code.length k1, vS p.data, vI p.zero, vI p.entry, vL a2 p.labels.length k2] ∧ True) := fun hno => by
    rw [if_neg hno] at hu2
    have hpj : prevL p.labels (j + 1) = some l := by unfold prevL; rw [if_neg (by omega), Nat.add_sub_cancel, hg]
    refine br_split (fun q1 => ?_) fun q1 => ?_
    · have hj0 : 0 < j := by have := of_decide_eq_true q1; omega
      have hwj : IntKind.i64.wrap ((j : Int) - 1) = ((j - 1 : Nat) : Int) := by rw [wrap64 (by omega) (by omega)]; omega
      have hlt' : j - 1 < p.labels.length := by omega
      have hg' : p.labels[j - 1]? = some p.labels[j - 1] := by simp [hlt']
      have hpv : prevL p.labels j = some p.labels[j - 1] := by unfold prevL; rw [if_neg (by omega), hg']
      rw [hpv] at hu2
      generalize p.labels[j - 1] = q at *
      obtain ⟨b', o', ha', hr'⟩ := hL.get hg'
      rw [hwj]
      refine ⟨b', o', ha', ⟨by omega, by omega⟩, _, _, _, (by rw [Int.toNat_natCast]; exact hr'), ?_⟩
      refine Tri.mono (rfollows_t q l) ?_
      rintro _ h3 ⟨rfl, rfl⟩
      refine ⟨_, rfl, rfl, br_split (fun q2 => ?_) fun q2 => ?_⟩
      · simp only [q2, if_true] at hu2
        exact bad 32 hu2 (by decide)
      · simp only [q2, Bool.false_eq_true, if_false] at hu2
        exact ⟨m - 1, by omega, ⟨j + 1, hw1, by omega, rfl, by rw [hpj]; exact hu2⟩, rfl, trivial⟩
    · have hj0 : j = 0 := by have := of_decide_eq_false q1; omega
      have hpv : prevL p.labels j = none := by unfold prevL; rw [if_pos hj0]
      rw [hpv] at hu2
      exact ⟨m - 1, by omega, ⟨j + 1, hw1, by omega, rfl, by rw [hpj]; exact hu2⟩, rfl, trivial⟩
   refine br_split (fun g2 => two (.inl (of_decide_eq_true g2))) fun g2 => ?_
   have g2 := of_decide_eq_false g2
   have htm2 : Int.tmod l.off 4 = l.off % 4 := Int.tmod_eq_emod_of_nonneg (by omega)
   rw [htm2, hwd]
   refine br_split (fun g3 => ?_) fun g3 => ?_
   · have g3 : l.data = false := not_f g3
     refine br_split (fun g4 => two (.inr (.inl ⟨g3, .inl (by simpa using g4)⟩))) fun g4 => br_split (fun g5 => two (.inr (.inl ⟨g3, .inr (by have := of_decide_eq_true g5; omega)⟩))) fun g5 => br_neg g3 (tail ?_)
     have g4 : l.off % 4 = 0 := by simpa using g4
     have g5 := of_decide_eq_false g5
     rw [g3]; simp; omega
   · have g3 : l.data = true := not_t g3
     refine br_pos g3 (br_split (fun g4 => two (.inr (.inr ⟨g3, of_decide_eq_true g4⟩))) fun g4 => tail ?_)
     have g4 := of_decide_eq_false g4
     rw [g3]; simp; omega
 · have hj : j = p.labels.length := by have := of_decide_eq_false e; omega
   subst hj
   rw [List.drop_length] at hu2
   have hu2 : labelsErr p none p.labels = 0 := by rw [hu2]; unfold labelsErr; rfl
   rw [hu2, if_neg (by decide)] at hc
   have seven : twice (p.labels.map (·.name)) = true → vI 7 = vI (checkP p : Int) := fun hh => by rw [hc, hh]; rfl
   refine ⟨fun m i h' => ∃ j : Nat, i = (j : Int) ∧ j + m = p.labels.length ∧ h' = h2 ∧ twice ((p.labels.take j).map (·.name)) = false, ⟨p.labels.length, 0, rfl, by omega, rfl, rfl⟩, ?_⟩
   rintro m _ h3 ⟨j, rfl, hjm, rfl, htw⟩
   refine br_split (fun e => ?_) fun e => ?_
   · have hlt : j < p.labels.length := by have := of_decide_eq_true e; omega
     have hg : p.labels[j]? = some p.labels[j] := by simp [hlt]
     have htk := List.take_append_getElem hlt
     generalize p.labels[j] = l at *
     have hsn : (p.labels.take (j + 1)).map (·.name) = (p.labels.take j).map (·.name) ++ [l.name] := by rw [← htk]; simp
     obtain ⟨b, o, ha, hr⟩ := hL.get hg
     refine ⟨fun m2 i h' => ∃ t : Nat, i = (t : Int) ∧ t + m2 = j ∧ h' = h3 ∧ ((p.labels.take t).map (·.name)).contains l.name = false, ⟨j, 0, rfl, by omega, rfl, rfl⟩, ?_⟩
     rintro m2 _ h4 ⟨t, rfl, htm3, rfl, hnc⟩
     refine br_split (fun q => ?_) fun q => ?_
     · have hlt2 : t < j := by have := of_decide_eq_true q; omega
       have hlt3 : t < p.labels.length := by omega
       have hg2 : p.labels[t]? = some p.labels[t] := by simp [hlt3]
       have htk2 := List.take_append_getElem hlt3
       have hmem : p.labels[t] ∈ p.labels.take j := by
        rw [List.mem_take_iff_getElem]
        exact ⟨t, by omega, rfl⟩
       generalize p.labels[t] = y at *
       obtain ⟨b', o', ha', hr'⟩ := hL.get hg2
       refine ⟨b', o', ha', ⟨by omega, by omega⟩, y.name, (by rw [Int.toNat_natCast]; exact hr'.1), b, o, ha, ⟨by omega, by omega⟩, l.name, (by rw [Int.toNat_natCast]; exact hr.1), br_split (fun q1 => ⟨seven ?_, rfl⟩) fun q1 => ?_⟩
       · have q1 : y.name = l.name := by simpa using q1
         have h1 : twice ((p.labels.take (j + 1)).map (·.name)) = true := by
          rw [hsn, twice_snoc]
          have : ((p.labels.take j).map (·.name)).contains l.name = true := by
           rw [List.contains_iff_mem, ← q1]; exact List.mem_map_of_mem hmem
          rw [this]; simp
         have := twice_pre _ ((p.labels.drop (j + 1)).map (·.name)) h1
         rwa [← List.map_append, List.take_append_drop] at this
       · refine ⟨m2 - 1, by omega, ⟨t + 1, by rw [wrap64 (by omega) (by omega)]; omega, by omega, rfl, ?_⟩, rfl, trivial⟩
         have q1 : y.name ≠ l.name := by simpa using q1
         cases hcc : ((p.labels.take (t + 1)).map (·.name)).contains l.name with
         | false => rfl
         | true =>
           rw [← htk2, List.map_append, List.contains_iff_mem, List.mem_append] at hcc
           rcases hcc with hcc | hcc
           · rw [← List.contains_iff_mem, hnc] at hcc; cases hcc
           · exact absurd (by simpa using hcc : l.name = y.name).symm q1
     · have htj : t = j := by have := of_decide_eq_false q; omega
       subst htj
       refine ⟨m - 1, by omega, ⟨t + 1, by rw [wrap64 (by omega) (by omega)]; omega, by omega, rfl, ?_⟩, rfl, trivial⟩
       rw [hsn, twice_snoc, htw, hnc]; rfl
   · have hj : j = p.labels.length := by have := of_decide_eq_false e; omega
     subst hj
     rw [List.take_length] at htw
     rw [htw] at hc
     exact ⟨by rw [hc]; rfl, rfl⟩
end
end Go.Proofs.D
