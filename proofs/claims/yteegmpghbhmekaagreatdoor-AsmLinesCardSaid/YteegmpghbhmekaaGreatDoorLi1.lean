import Derived.Test.YteegmpghbhmekaaGreatDoorB7
import Derived.Laws.StructEq
import Derived.Shelf.Strings.OnBuilder
import Derived.Shelf.Strconv.Itoa3
import Derived.Lib.AppendIntMem
import Derived.Laws.MakeOwn
import Derived.Lib.SmallJoins
namespace Go.Proofs.D
open Go Go.Den
set_option maxRecDepth 100000
set_option maxHeartbeats 4000000
abbrev emk1 : List CK := [qi, qi, qi, qi]
abbrev emk2 : List CK := [.slice, .str, qi, qi, .slice]
abbrev o57_2 : Op := .binOp .neq 58 (.tmp 19) (.tmp 23) 58
noncomputable def d57 : DCode := up ⟨[(19, .l emk1), (23, .l emk1), (24, .c (.one false [.bool]))], [], [(14, 15, [(13, qi)], [])]⟩ (low Tryz.prog (fun _ => false) (Tryz.f57.body.getD .skip))
theorem low57 : low Tryz.prog (fun _ => false) (Tryz.f57.body.getD .skip) = some (eC d57) := by kernel_rfl
def R57 (a1 : OA) (n1 : Nat) (emk1 : Nat) (a2 : OA) (n2 : Nat) (emk2 : Nat) (h : PHeap) (Q : Value → PHeap → Prop) : Prop :=
 br (((n1 : Nat) : Int) != ((n2 : Nat) : Int))
 (Q (vB false) h)
 (∃ (I_1 : Nat → Int → PHeap → Prop), (∃ (m2 : Nat), I_1 m2 (0 : Int) h) ∧
 ∀ (m1 : Nat) (i1 : Int) (h_1 : PHeap), I_1 m1 i1 h_1 →
 br (decide (i1 < ((n1 : Nat) : Int)))
 (∃ (b1 o1 : Nat), a1 = some ⟨b1, o1, none⟩ ∧ (0 ≤ i1 ∧ i1 < n1) ∧
 ∃ (i2 i3 i4 i5 : Int), h_1.row b1 (o1 + (i1).toNat * 4) [vI i2, vI i3, vI i4, vI i5] ∧
 ∃ (b2 o2 : Nat), a2 = some ⟨b2, o2, none⟩ ∧ (0 ≤ i1 ∧ i1 < n2) ∧
 ∃ (i6 i7 i8 i9 : Int), h_1.row b2 (o2 + (i1).toNat * 4) [vI i6, vI i7, vI i8, vI i9] ∧
 ∃ (c1 : Bool), PureRun Tryz.prog (execOp (rho [(19, vA [vI i2, vI i3, vI i4, vI i5]), (23, vA [vI i6, vI i7, vI i8, vI i9])]) (mkO o57_2 4)) (vB c1) ∧
 br c1
 (Q (vB false) h_1)
 (∃ (m3 : Nat), m3 < m1 ∧ I_1 m3 (IntKind.i64.wrap (i1 + 1)) h_1 ∧
 True))
 (Q (vB true) h_1))
theorem T57 {a1 : OA} {n1 : Nat} {emk1 : Nat} {a2 : OA} {n2 : Nat} {emk2 : Nat} {h : PHeap} {Q : Value → PHeap → Prop} (hR : R57 a1 n1 emk1 a2 n2 emk2 h Q) : Tri Tryz.prog 57 [vL a1 n1 emk1, vL a2 n2 emk2] h Q :=
 tri_of_dn mixed Tryz.func57 rfl (by kernel_rfl) low57 (rs := [.tmp 4]) (by kernel_rfl) rfl (Eq.mpr (by kernel_rfl : dnF Tryz.prog Tryz.f57.ntmps d57 [.tmp 4] [vL a1 n1 emk1, vL a2 n2 emk2] h Q = R57 a1 n1 emk1 a2 n2 emk2 h Q) hR)
abbrev o58_2 : Op := .binOp .neq 80 (.tmp 19) (.tmp 23) 80
noncomputable def d58 : DCode := up ⟨[(19, .l [.str, .bool, qi]), (23, .l [.str, .bool, qi]), (24, .c (.one false [.bool]))], [], [(14, 15, [(13, qi)], [])]⟩ (low Tryz.prog (fun _ => false) (Tryz.f58.body.getD .skip))
theorem low58 : low Tryz.prog (fun _ => false) (Tryz.f58.body.getD .skip) = some (eC d58) := by kernel_rfl
def R58 (a1 : OA) (n1 : Nat) (emk1 : Nat) (a2 : OA) (n2 : Nat) (emk2 : Nat) (h : PHeap) (Q : Value → PHeap → Prop) : Prop :=
 br (((n1 : Nat) : Int) != ((n2 : Nat) : Int))
 (Q (vB false) h)
 (∃ (I_1 : Nat → Int → PHeap → Prop), (∃ (m2 : Nat), I_1 m2 (0 : Int) h) ∧
 ∀ (m1 : Nat) (i1 : Int) (h_1 : PHeap), I_1 m1 i1 h_1 →
 br (decide (i1 < ((n1 : Nat) : Int)))
 (∃ (b1 o1 : Nat), a1 = some ⟨b1, o1, none⟩ ∧ (0 ≤ i1 ∧ i1 < n1) ∧
 ∃ (l1 : Bs) (c1 : Bool) (i2 : Int), h_1.row b1 (o1 + (i1).toNat * 3) [vS l1, vB c1, vI i2] ∧
 ∃ (b2 o2 : Nat), a2 = some ⟨b2, o2, none⟩ ∧ (0 ≤ i1 ∧ i1 < n2) ∧
 ∃ (l2 : Bs) (c2 : Bool) (i3 : Int), h_1.row b2 (o2 + (i1).toNat * 3) [vS l2, vB c2, vI i3] ∧
 ∃ (c3 : Bool), PureRun Tryz.prog (execOp (rho [(19, vA [vS l1, vB c1, vI i2]), (23, vA [vS l2, vB c2, vI i3])]) (mkO o58_2 4)) (vB c3) ∧
 br c3
 (Q (vB false) h_1)
 (∃ (m3 : Nat), m3 < m1 ∧ I_1 m3 (IntKind.i64.wrap (i1 + 1)) h_1 ∧
 True))
 (Q (vB true) h_1))
theorem T58 {a1 : OA} {n1 : Nat} {emk1 : Nat} {a2 : OA} {n2 : Nat} {emk2 : Nat} {h : PHeap} {Q : Value → PHeap → Prop} (hR : R58 a1 n1 emk1 a2 n2 emk2 h Q) : Tri Tryz.prog 58 [vL a1 n1 emk1, vL a2 n2 emk2] h Q :=
 tri_of_dn mixed Tryz.func58 rfl (by kernel_rfl) low58 (rs := [.tmp 4]) (by kernel_rfl) rfl (Eq.mpr (by kernel_rfl : dnF Tryz.prog Tryz.f58.ntmps d58 [.tmp 4] [vL a1 n1 emk1, vL a2 n2 emk2] h Q = R58 a1 n1 emk1 a2 n2 emk2 h Q) hR)
noncomputable def d29 : DCode := up ⟨[(6, .l [.slice]), (8, .l [.slice]), (9, .c (.one false [.bool])), (12, .l [.str]), (14, .l [.str]), (19, .l [qi]), (21, .l [qi]), (26, .l [qi]), (28, .l [qi]), (33, .l [.slice]), (35, .l [.slice]), (36, .c (.one false [.bool]))], [], []⟩ (low Tryz.prog (fun _ => false) (Tryz.f29.body.getD .skip))
theorem low29 : low Tryz.prog (fun _ => false) (Tryz.f29.body.getD .skip) = some (eC d29) := by kernel_rfl
def R29 (a1 : OA) (n1 : Nat) (emk1 : Nat) (l1 : Bs) (i1 : Int) (i2 : Int) (a2 : OA) (n2 : Nat) (emk2 : Nat) (a3 : OA) (n3 : Nat) (k3 : Nat) (l2 : Bs) (i3 : Int) (i4 : Int) (a4 : OA) (n4 : Nat) (k4 : Nat) (h : PHeap) (Q : Value → PHeap → Prop) : Prop :=
 Tri Tryz.prog 57 [vL a1 n1 emk1, vL a3 n3 k3] h fun v_1 h_1 =>
 ∃ (c1 : Bool), v_1 = vB c1 ∧
 br c1
 (br (l1 == l2)
 (br (i1 == i3)
 (br (i2 == i4)
 (Tri Tryz.prog 58 [vL a2 n2 emk2, vL a4 n4 k4] h_1 fun v_2 h_2 =>
 ∃ (c2 : Bool), v_2 = vB c2 ∧
 Q (vB c2) h_2)
 (Q (vB false) h_1))
 (Q (vB false) h_1))
 (Q (vB false) h_1))
 (Q (vB false) h_1)
theorem T29 {a1 : OA} {n1 : Nat} {emk1 : Nat} {l1 : Bs} {i1 : Int} {i2 : Int} {a2 : OA} {n2 : Nat} {emk2 : Nat} {a3 : OA} {n3 : Nat} {k3 : Nat} {l2 : Bs} {i3 : Int} {i4 : Int} {a4 : OA} {n4 : Nat} {k4 : Nat} {h : PHeap} {Q : Value → PHeap → Prop} (hR : R29 a1 n1 emk1 l1 i1 i2 a2 n2 emk2 a3 n3 k3 l2 i3 i4 a4 n4 k4 h Q) : Tri Tryz.prog 29 [vA [vL a1 n1 emk1, vS l1, vI i1, vI i2, vL a2 n2 emk2], vA [vL a3 n3 k3, vS l2, vI i3, vI i4, vL a4 n4 k4]] h Q :=
 tri_of_dn mixed Tryz.func29 rfl (by kernel_rfl) low29 (rs := [.tmp 4]) (by kernel_rfl) rfl (Eq.mpr (by kernel_rfl : dnF Tryz.prog Tryz.f29.ntmps d29 [.tmp 4] [vA [vL a1 n1 emk1, vS l1, vI i1, vI i2, vL a2 n2 emk2], vA [vL a3 n3 k3, vS l2, vI i3, vI i4, vL a4 n4 k4]] h Q = R29 a1 n1 emk1 l1 i1 i2 a2 n2 emk2 a3 n3 k3 l2 i3 i4 a4 n4 k4 h Q) hR)
abbrev o7_0 : Op := .call { callee := (.builtin .min), args := #[(.tmp 16), (.const (vI 1500))], argTypes := #[3, 3] }
noncomputable def d7 : DCode := up ⟨[(17, .c (.one false [qi])), (23, .l [.str]), (40, .c (.one false [.bool])), (58, .c (.tup [(true, emk2), (false, [qi]), (false, [qi])])), (68, .c (.tup [(true, emk2), (false, [qi]), (false, [qi])])), (72, .c (.one false [.bool])), (84, .l emk2), (85, .l emk2), (86, .c (.one false [.bool]))], [], [(24, 35, [(5, .str), (7, qi)], [])]⟩ (low Tryz.prog (fun _ => false) (Tryz.f7.body.getD .skip))
theorem low7 : low Tryz.prog (fun _ => false) (Tryz.f7.body.getD .skip) = some (eC d7) := by kernel_rfl
def R7 (l1 : Bs) (i1 : Int) (h : PHeap) (Q : Value → PHeap → Prop) : Prop :=
 ∃ (i2 : Int), PureRun Tryz.prog (execOp (rho [(16, vI (l1.length : Int))]) (mkO o7_0 3)) (vI i2) ∧
 (0 ≤ (0 : Int) ∧ (0 : Int) ≤ i2 ∧ i2 ≤ (l1.length : Int)) ∧
 ∀ (b1 : Nat), h b1 = none → ∀ (h_1 : PHeap), h_1 = h.put b1 (.cells ⟨[vS [32], vS [9, 59, 32, 120, 58, 32, 34], vS [32, 32, 9], vS [59, 44, 58]]⟩ 9) →
 ∃ (b2 o1 : Nat), (ad b1 0) = some ⟨b2, o1, none⟩ ∧ (0 ≤ (Int.tmod i1 4) ∧ (Int.tmod i1 4) < (4 : Nat)) ∧
 ∃ (l2 : Bs), h_1.cell b2 (o1 + (Int.tmod i1 4).toNat * 1) = some (vS l2) ∧
 ∃ (I_1 : Nat → Bs → Int → PHeap → Prop), (∃ (m2 : Nat), I_1 m2 [] (0 : Int) h_1) ∧
 ∀ (m1 : Nat) (l3 : Bs) (i3 : Int) (h_2 : PHeap), I_1 m1 l3 i3 h_2 →
 br (decide (i3 < ((((l1.drop 0).take ((i2).toNat - 0))).length : Int)))
 (0 ≤ i3 ∧ ∃ (c1 : UInt8), (((l1.drop 0).take ((i2).toNat - 0)))[(i3).toNat]? = some c1 ∧
 br ((c1.toNat : Int) == 34)
 (Tri Tryz.prog 15 [] h_2 fun v_1 h_3 =>
 ∃ (c2 : Bool), v_1 = vB c2 ∧
 Q (vB c2) h_3)
 (0 ≤ i3 ∧ ∃ (c3 : UInt8), (((l1.drop 0).take ((i2).toNat - 0)))[(i3).toNat]? = some c3 ∧
 br ((c3.toNat : Int) == 59)
 (Tri Tryz.prog 15 [] h_2 fun v_2 h_4 =>
 ∃ (c4 : Bool), v_2 = vB c4 ∧
 Q (vB c4) h_4)
 (0 ≤ i3 ∧ ∃ (c5 : UInt8), (((l1.drop 0).take ((i2).toNat - 0)))[(i3).toNat]? = some c5 ∧
 br ((c5.toNat : Int) == 10)
 (l3.length + l2.length ≤ 9223372036854775807 ∧
 (l3 ++ l2).length + ([10, 9, 32] : Bs).length ≤ 9223372036854775807 ∧
 ∃ (m3 : Nat), m3 < m1 ∧ I_1 m3 ((l3 ++ l2) ++ ([10, 9, 32] : Bs)) (IntKind.i64.wrap (i3 + 1)) h_2 ∧
 True)
 ((0 ≤ i3 ∧ i3 ≤ (IntKind.i64.wrap (i3 + 1)) ∧ (IntKind.i64.wrap (i3 + 1)) ≤ (((l1.drop 0).take ((i2).toNat - 0)).length : Int)) ∧
 l3.length + ((((l1.drop 0).take ((i2).toNat - 0)).drop (i3).toNat).take ((IntKind.i64.wrap (i3 + 1)).toNat - (i3).toNat)).length ≤ 9223372036854775807 ∧
 ∃ (m4 : Nat), m4 < m1 ∧ I_1 m4 (l3 ++ ((((l1.drop 0).take ((i2).toNat - 0)).drop (i3).toNat).take ((IntKind.i64.wrap (i3 + 1)).toNat - (i3).toNat))) (IntKind.i64.wrap (i3 + 1)) h_2 ∧
 True))))
 (Tri Tryz.prog 13 [vS ((l1.drop 0).take ((i2).toNat - 0))] h_2 fun v_3 h_5 =>
 ∃ (a1 : OA) (n1 emk1 : Nat) (l4 : Bs) (i4 i5 : Int) (a2 : OA) (n2 emk2 : Nat) (i6 i7 : Int), v_3 = vT [vA [vL a1 n1 emk1, vS l4, vI i4, vI i5, vL a2 n2 emk2], vI i6, vI i7] ∧
 ([32] : Bs).length + l3.length ≤ 9223372036854775807 ∧
 (([32] : Bs) ++ l3).length + l2.length ≤ 9223372036854775807 ∧
 ((([32] : Bs) ++ l3) ++ l2).length + ([10, 10, 32, 59, 32, 101, 110, 100] : Bs).length ≤ 9223372036854775807 ∧
 Tri Tryz.prog 13 [vS (((([32] : Bs) ++ l3) ++ l2) ++ ([10, 10, 32, 59, 32, 101, 110, 100] : Bs))] h_5 fun v_4 h_6 =>
 ∃ (a3 : OA) (n3 k3 : Nat) (l5 : Bs) (i8 i9 : Int) (a4 : OA) (n4 k4 : Nat) (i10 i11 : Int), v_4 = vT [vA [vL a3 n3 k3, vS l5, vI i8, vI i9, vL a4 n4 k4], vI i10, vI i11] ∧
 Tri Tryz.prog 15 [] h_6 fun v_5 h_7 =>
 ∃ (c6 : Bool), v_5 = vB c6 ∧
 br c6
 (br (i7 == i11)
 (br (i6 == i10)
 (Tri Tryz.prog 29 [vA [vL a1 n1 emk1, vS l4, vI i4, vI i5, vL a2 n2 emk2], vA [vL a3 n3 k3, vS l5, vI i8, vI i9, vL a4 n4 k4]] h_7 fun v_6 h_8 =>
 ∃ (c7 : Bool), v_6 = vB c7 ∧
 Q (vB c7) h_8)
 (Q (vB false) h_7))
 (Q (vB false) h_7))
 (Q (vB false) h_7))
theorem T7 {l1 : Bs} {i1 : Int} {h : PHeap} {Q : Value → PHeap → Prop} (hR : R7 l1 i1 h Q) : Tri Tryz.prog 7 [vS l1, vU i1] h Q :=
 tri_of_dn mixed Tryz.func7 rfl (by kernel_rfl) low7 (rs := [.tmp 4]) (by kernel_rfl) rfl (Eq.mpr (by kernel_rfl : dnF Tryz.prog Tryz.f7.ntmps d7 [.tmp 4] [vS l1, vU i1] h Q = R7 l1 i1 h Q) hR)
end Go.Proofs.D
namespace Go.Proofs.D
open Go Go.Den Go.As
set_option maxRecDepth 100000
theorem run_part1 {t : TypeId} {l : List Value} {k : Nat} {v : Value} (w : World) (h2 : (isAgg t).run Tryz.prog w = .ok false w) (h3 : l[k]? = some v) : (part t ⟨l⟩ k).run Tryz.prog w = .ok v w := by
 simp [part, h2, h3]
theorem run_int3 (w : World) (a b : Int) : (Op.equalIn 9999 3 (vI a) (vI b)).run Tryz.prog w = .ok (a == b) w := run_equalIn_int w 9998 3 .i64 .i64 a b Tryz.underlying3
theorem run_str9 (w : World) (a b : Bytes) : (Op.equalIn 9999 9 (vS a) (vS b)).run Tryz.prog w = .ok (a == b) w := by
 have := run_equalIn_string w (P := Tryz.prog) 9998 9 ⟨⟨a⟩⟩ ⟨⟨b⟩⟩ Tryz.underlying9
 rw [show (Op.equalIn 9999 9 (vS a) (vS b)) = Op.equalIn (9998 + 1) 9 (.string ⟨⟨a⟩⟩) (.string ⟨⟨b⟩⟩) from rfl, this, ByteArray.toList_eq, ByteArray.toList_eq]
theorem run_bool4 (w : World) (a b : Bool) : (Op.equalIn 9999 4 (vB a) (vB b)).run Tryz.prog w = .ok (a == b) w := run_equalIn_bool' w 9998 4 a b Tryz.underlying4
theorem eq_ins (x y : Ins) (w : World) : (Op.equalIn 10000 58 (vA (insC x)) (vA (insC y))).run Tryz.prog w = .ok (decide (x = y)) w := by
 have h1 : Tryz.prog.underlying 58 = some (.struct (Tryz.prog.fieldsOf 58)) := by unfold Program.fieldsOf; rw [Tryz.underlying58]
 have h2 : Tryz.prog.stoodInHeld 58 = false := by kernel_rfl
 have := run_equalIn_struct w (P := Tryz.prog) 9999 58 ⟨insC x⟩ ⟨insC y⟩ h1 h2
 rw [show (Op.equalIn 10000 58 (vA (insC x)) (vA (insC y))) = Op.equalIn (9999 + 1) 58 (.agg ⟨insC x⟩) (.agg ⟨insC y⟩) from rfl, this]
 have p : ∀ (x : Ins) (k : Nat) (v : Value), (insC x)[k]? = some v → (part 3 ⟨insC x⟩ k).run Tryz.prog w = .ok v w := fun x k v h => run_part1 w (Tryz.isAgg3 w) h
 simp only [Program.fieldsOf, Tryz.underlying58, Op.eqFields, ne_eq, Sem.run_bind, Sem.run_ite, p _ 0 _ rfl, p _ 1 _ rfl, p _ 2 _ rfl, p _ 3 _ rfl, Result.andThen_ok, run_int3, Sem.run_pure]
 obtain ⟨x1, x2, x3, x4⟩ := x
 obtain ⟨y1, y2, y3, y4⟩ := y
 by_cases e1 : x1 = y1 <;> by_cases e2 : x2 = y2 <;> by_cases e3 : x3 = y3 <;> by_cases e4 : x4 = y4 <;> simp [e1, e2, e3, e4]
theorem eq_lb (x y : Lb) (w : World) : (Op.equalIn 10000 80 (vA (lbC x)) (vA (lbC y))).run Tryz.prog w = .ok (decide (x = y)) w := by
 have h1 : Tryz.prog.underlying 80 = some (.struct (Tryz.prog.fieldsOf 80)) := by unfold Program.fieldsOf; rw [Tryz.underlying80]
 have h2 : Tryz.prog.stoodInHeld 80 = false := by kernel_rfl
 have := run_equalIn_struct w (P := Tryz.prog) 9999 80 ⟨lbC x⟩ ⟨lbC y⟩ h1 h2
 rw [show (Op.equalIn 10000 80 (vA (lbC x)) (vA (lbC y))) = Op.equalIn (9999 + 1) 80 (.agg ⟨lbC x⟩) (.agg ⟨lbC y⟩) from rfl, this]
 have p0 : ∀ (x : Lb), (part 9 ⟨lbC x⟩ 0).run Tryz.prog w = .ok (vS x.name) w := fun x => run_part1 w (Tryz.isAgg9 w) rfl
 have p1 : ∀ (x : Lb), (part 4 ⟨lbC x⟩ 1).run Tryz.prog w = .ok (vB x.data) w := fun x => run_part1 w (Tryz.isAgg4 w) rfl
 have p2 : ∀ (x : Lb), (part 3 ⟨lbC x⟩ 2).run Tryz.prog w = .ok (vI x.off) w := fun x => run_part1 w (Tryz.isAgg3 w) rfl
 simp only [Program.fieldsOf, Tryz.underlying80, Op.eqFields, ne_eq, Sem.run_bind, Sem.run_ite, p0, p1, p2, Result.andThen_ok, run_int3, run_str9, run_bool4, Sem.run_pure]
 obtain ⟨x1, x2, x3⟩ := x
 obtain ⟨y1, y2, y3⟩ := y
 by_cases e1 : x1 = y1 <;> by_cases e2 : x2 = y2 <;> by_cases e3 : x3 = y3 <;> simp [e1, e2, e3]
theorem pure_neq {ρ : Operand → Value} {x y : Operand} {t t' ty : TypeId} {xs ys : List Value} {b : Bool} (hx : ρ x = vA xs) (hy : ρ y = vA ys) (hg : Tryz.prog.eqGuardType Tryz.prog.depth t = false) (h : ∀ w, (Op.equalIn 10000 t (vA xs) (vA ys)).run Tryz.prog w = .ok b w) :
 PureRun Tryz.prog (execOp ρ (mkO (.binOp .neq t x y t') ty)) (vB (!b)) := by
 intro w
 have h1 := h w
 have h2 : (binOp .neq t (vA xs) (vA ys)).run Tryz.prog w = .ok (vB (!b)) w := by
  rw [run_neq_struct, h1]; rfl
 have h3 : (eqGuard .neq t x y (vA xs) (vA ys)).run Tryz.prog w = .ok () w := run_eqGuard_agg (P := Tryz.prog) w .neq t x y ⟨xs⟩ ⟨ys⟩ hg
 simp only [execOp, mkO, hx, hy, Sem.run_bind, h3, h2, Result.andThen_ok, Sem.run_pure]
theorem pure_eql {ρ : Operand → Value} {x y : Operand} {t t' ty : TypeId} {xs ys : List Value} {b : Bool} (hx : ρ x = vA xs) (hy : ρ y = vA ys) (hg : Tryz.prog.eqGuardType Tryz.prog.depth t = false) (h : ∀ w, (Op.equalIn 10000 t (vA xs) (vA ys)).run Tryz.prog w = .ok b w) :
 PureRun Tryz.prog (execOp ρ (mkO (.binOp .eql t x y t') ty)) (vB b) := by
 intro w
 have h1 := h w
 have h2 : (binOp .eql t (vA xs) (vA ys)).run Tryz.prog w = .ok (vB b) w := by
  rw [run_eql_struct, h1]; rfl
 have h3 : (eqGuard .eql t x y (vA xs) (vA ys)).run Tryz.prog w = .ok () w := run_eqGuard_agg (P := Tryz.prog) w .eql t x y ⟨xs⟩ ⟨ys⟩ hg
 simp only [execOp, mkO, hx, hy, Sem.run_bind, h3, h2, Result.andThen_ok, Sem.run_pure]
attribute [local irreducible] IntKind.wrap Tri
section
variable {h : PHeap}
theorem take_eq_iff {α : Type} {l m : List α} {j : Nat} {x y : α} (hl : l[j]? = some x) (hm : m[j]? = some y) : l.take (j + 1) = m.take (j + 1) ↔ l.take j = m.take j ∧ x = y := by
 obtain ⟨h1, rfl⟩ := List.getElem?_eq_some_iff.1 hl
 obtain ⟨h2, rfl⟩ := List.getElem?_eq_some_iff.1 hm
 rw [← List.take_append_getElem h1, ← List.take_append_getElem h2]
 constructor
 · intro h
   have := List.append_inj h (by simp; omega)
   exact ⟨this.1, by simpa using this.2⟩
 · rintro ⟨h, e⟩; rw [h, e]
theorem eqIns_t {a1 a2 : OA} {k1 k2 : Nat} {l m : List Ins} (h1 : InAt h a1 l) (h2 : InAt h a2 m) (hl : l.length ≤ 1000000) : Tri Tryz.prog 57 [vL a1 l.length k1, vL a2 m.length k2] h fun v h' => v = vB (decide (l = m)) ∧ h' = h := by
 refine T57 ?_
 unfold R57
 refine br_split (fun e => ?_) fun e => ?_
 · have : l ≠ m := fun hh => by subst hh; simp at e
   exact ⟨by simp [this], rfl⟩
 have hlen : l.length = m.length := by
  have : (l.length : Int) = (m.length : Int) := by simpa using e
  omega
 refine ⟨fun n i h' => ∃ j : Nat, i = (j : Int) ∧ j + n = l.length ∧ h' = h ∧ l.take j = m.take j, ⟨l.length, 0, rfl, by omega, rfl, rfl⟩, ?_⟩
 rintro n _ h3 ⟨j, rfl, hjn, rfl, ht⟩
 refine br_split (fun e => ?_) fun e => ?_
 · have hlt : j < l.length := by have := of_decide_eq_true e; omega
   have g1 : l[j]? = some l[j] := by simp [hlt]
   have hlt2 : j < m.length := by omega
   have g2 : m[j]? = some m[j] := by simp [hlt2]
   have hiff := take_eq_iff g1 g2
   generalize l[j] = x at *
   generalize m[j] = y at *
   obtain ⟨b1, o1, ha1, r1⟩ := h1.get g1
   obtain ⟨b2, o2, ha2, r2⟩ := h2.get g2
   refine ⟨b1, o1, ha1, ⟨by omega, by omega⟩, _, _, _, _, (by rw [Int.toNat_natCast]; exact r1), b2, o2, ha2, ⟨by omega, by omega⟩, _, _, _, _, (by rw [Int.toNat_natCast]; exact r2), !decide (x = y), pure_neq (xs := insC x) (ys := insC y) rfl rfl (by kernel_rfl) (eq_ins x y), br_split (fun e1 => ?_) fun e1 => ?_⟩
   · have hxy : x ≠ y := by simpa using e1
     have : l ≠ m := fun hh => by subst hh; rw [g1] at g2; injection g2 with g2; exact hxy g2
     exact ⟨by simp [this], rfl⟩
   · have hxy : x = y := by simpa using e1
     exact ⟨n - 1, by omega, ⟨j + 1, by rw [wrap64 (by omega) (by omega)]; omega, by omega, rfl, hiff.2 ⟨ht, hxy⟩⟩, trivial⟩
 · have hj : j = l.length := by have := of_decide_eq_false e; omega
   subst hj
   rw [List.take_length, hlen, List.take_length] at ht
   exact ⟨by simp [ht], rfl⟩
theorem eqLbs_t {a1 a2 : OA} {k1 k2 : Nat} {l m : List Lb} (h1 : LbAt h a1 l) (h2 : LbAt h a2 m) (hl : l.length ≤ 1000000) : Tri Tryz.prog 58 [vL a1 l.length k1, vL a2 m.length k2] h fun v h' => v = vB (decide (l = m)) ∧ h' = h := by
 refine T58 ?_
 unfold R58
 refine br_split (fun e => ?_) fun e => ?_
 · have : l ≠ m := fun hh => by subst hh; simp at e
   exact ⟨by simp [this], rfl⟩
 have hlen : l.length = m.length := by
  have : (l.length : Int) = (m.length : Int) := by simpa using e
  omega
 refine ⟨fun n i h' => ∃ j : Nat, i = (j : Int) ∧ j + n = l.length ∧ h' = h ∧ l.take j = m.take j, ⟨l.length, 0, rfl, by omega, rfl, rfl⟩, ?_⟩
 rintro n _ h3 ⟨j, rfl, hjn, rfl, ht⟩
 refine br_split (fun e => ?_) fun e => ?_
 · have hlt : j < l.length := by have := of_decide_eq_true e; omega
   have g1 : l[j]? = some l[j] := by simp [hlt]
   have hlt2 : j < m.length := by omega
   have g2 : m[j]? = some m[j] := by simp [hlt2]
   have hiff := take_eq_iff g1 g2
   generalize l[j] = x at *
   generalize m[j] = y at *
   obtain ⟨b1, o1, ha1, r1⟩ := h1.get g1
   obtain ⟨b2, o2, ha2, r2⟩ := h2.get g2
   refine ⟨b1, o1, ha1, ⟨by omega, by omega⟩, _, _, _, (by rw [Int.toNat_natCast]; exact r1), b2, o2, ha2, ⟨by omega, by omega⟩, _, _, _, (by rw [Int.toNat_natCast]; exact r2), !decide (x = y), pure_neq (xs := lbC x) (ys := lbC y) rfl rfl (by kernel_rfl) (eq_lb x y), br_split (fun e1 => ?_) fun e1 => ?_⟩
   · have hxy : x ≠ y := by simpa using e1
     have : l ≠ m := fun hh => by subst hh; rw [g1] at g2; injection g2 with g2; exact hxy g2
     exact ⟨by simp [this], rfl⟩
   · have hxy : x = y := by simpa using e1
     exact ⟨n - 1, by omega, ⟨j + 1, by rw [wrap64 (by omega) (by omega)]; omega, by omega, rfl, hiff.2 ⟨ht, hxy⟩⟩, trivial⟩
 · have hj : j = l.length := by have := of_decide_eq_false e; omega
   subst hj
   rw [List.take_length, hlen, List.take_length] at ht
   exact ⟨by simp [ht], rfl⟩
def PV (a1 : OA) (k1 : Nat) (a2 : OA) (k2 : Nat) (q : Pg) : Value := vA [vL a1 q.code.length k1, vS q.data, vI q.zero, vI q.entry, vL a2 q.labels.length k2]
structure PgAt (h : PHeap) (a1 : OA) (k1 : Nat) (a2 : OA) (k2 : Nat) (q : Pg) : Prop where
 ins : InAt h a1 q.code
 lbs : LbAt h a2 q.labels
 ok1 : okN a1 q.code.length k1
 ok2 : okN a2 q.labels.length k2
theorem PgAt.ext {h h' : PHeap} {a1 : OA} {k1 : Nat} {a2 : OA} {k2 : Nat} {q : Pg} (x : Ext h h') (hp : PgAt h a1 k1 a2 k2 q) : PgAt h' a1 k1 a2 k2 q := ⟨hp.ins.ext x, hp.lbs.ext x, hp.ok1, hp.ok2⟩
theorem equal_t {a1 a2 a3 a4 : OA} {k1 k2 k3 k4 : Nat} {p q : Pg} (hp : PgAt h a1 k1 a2 k2 p) (hq : PgAt h a3 k3 a4 k4 q) (h1 : p.code.length ≤ 1000000) (h2 : p.labels.length ≤ 1000000) :
 Tri Tryz.prog 29 [PV a1 k1 a2 k2 p, PV a3 k3 a4 k4 q] h fun v h' => v = vB (decide (p = q)) ∧ h' = h := by
 refine T29 ?_
 unfold R29
 obtain ⟨c1, d1, z1, e1, l1⟩ := p
 obtain ⟨c2, d2, z2, e2, l2⟩ := q
 refine Tri.mono (eqIns_t hp.ins hq.ins h1) ?_
 rintro _ h3 ⟨rfl, rfl⟩
 refine ⟨_, rfl, br_split (fun g1 => br_split (fun g2 => br_split (fun g3 => br_split (fun g4 => ?_) fun g4 => ?_) fun g3 => ?_) fun g2 => ?_) fun g1 => ?_⟩
 · refine Tri.mono (eqLbs_t hp.lbs hq.lbs h2) ?_
   rintro _ h4 ⟨rfl, rfl⟩
   refine ⟨_, rfl, ?_, rfl⟩
   have q1 : c1 = c2 := of_decide_eq_true g1
   have q2 : d1 = d2 := by simpa using g2
   have q3 : z1 = z2 := by simpa using g3
   have q4 : e1 = e2 := by simpa using g4
   clear g1 g2 g3 g4
   subst q1; subst q2; subst q3; subst q4
   simp
 · have g4 : e1 ≠ e2 := by simpa using g4
   exact ⟨by simp [g4], rfl⟩
 · have g3 : z1 ≠ z2 := by simpa using g3
   exact ⟨by simp [g3], rfl⟩
 · have g2 : d1 ≠ d2 := by simpa using g2
   exact ⟨by simp [g2], rfl⟩
 · have g1 : c1 ≠ c2 := of_decide_eq_false g1
   exact ⟨by simp [g1], rfl⟩
end
end Go.Proofs.D
namespace Go.Proofs.D
open Go Go.Den
set_option maxRecDepth 100000
set_option maxHeartbeats 4000000
abbrev enk1 : List CK := [qi, qi, qi, qi]
abbrev enk2 : List CK := [.slice, .str, qi, qi, .slice]
noncomputable def d32 : DCode := up ⟨[(11, .l enk1), (12, .c (.one false [qi])), (18, .l [qi]), (19, .c (.tup [(false, [qi]), (false, [qi])])), (23, .l [qi]), (24, .c (.one false [.str])), (27, .l [qi]), (28, .c (.one false [.str])), (31, .l [qi]), (32, .c (.one false [.str])), (69, .l [qi]), (70, .c (.one false [.str])), (72, .l [qi]), (73, .c (.one false [.str])), (76, .c (.one false [.str]))], [], []⟩ (low Tryz.prog (fun _ => false) (Tryz.f32.body.getD .skip))
theorem low32 : low Tryz.prog (fun _ => false) (Tryz.f32.body.getD .skip) = some (eC d32) := by kernel_rfl
def R32 (i1 : Int) (i2 : Int) (i3 : Int) (i4 : Int) (h : PHeap) (Q : Value → PHeap → Prop) : Prop :=
 Tri Tryz.prog 46 [vA [vI i1, vI i2, vI i3, vI i4]] h fun v_1 h_1 =>
 ∃ (i5 : Int), v_1 = vI i5 ∧
 br (i5 != 0)
 (Q (vT [vS [], vI i5]) h_1)
 (Tri Tryz.prog 59 [vI i1] h_1 fun v_2 h_2 =>
 ∃ (i6 i7 : Int), v_2 = vT [vI i6, vI i7] ∧
 Tri Tryz.prog 60 [vI i2] h_2 fun v_3 h_3 =>
 ∃ (l1 : Bs), v_3 = vS l1 ∧
 (tv [vI i4]) ∧
 (tv [vI i3]) ∧
 ([114] : Bs).length + l1.length ≤ 9223372036854775807 ∧
 Tri Tryz.prog 60 [vI i3] h_3 fun v_4 h_4 =>
 ∃ (l2 : Bs), v_4 = vS l2 ∧
 (tv [vI i4]) ∧
 ([114] : Bs).length + l2.length ≤ 9223372036854775807 ∧
 Tri Tryz.prog 60 [vI i4] h_4 fun v_5 h_5 =>
 ∃ (l3 : Bs), v_5 = vS l3 ∧
 br (i6 == 1)
 (∀ (b1 : Nat), h_5 b1 = none → ∀ (h_6 : PHeap), h_6 = h_5.put b1 (.cells ⟨[vS (([114] : Bs) ++ l1)]⟩ 9) →
 Tri Tryz.prog 61 [vI i1] h_6 fun v_6 h_7 =>
 ∃ (l4 : Bs), v_6 = vS l4 ∧
 l4.length + ([32] : Bs).length ≤ 9223372036854775807 ∧
 Tri Tryz.prog 62 [vL (ad b1 0) 1 1, vS [44, 32]] h_7 fun v_7 h_8 =>
 ∃ (l5 : Bs), v_7 = vS l5 ∧
 (l4 ++ ([32] : Bs)).length + l5.length ≤ 9223372036854775807 ∧
 Q (vT [vS ((l4 ++ ([32] : Bs)) ++ l5), vI 0]) h_8)
 (br (i6 == 2)
 (∀ (b2 : Nat), h_5 b2 = none → ∀ (h_9 : PHeap), h_9 = h_5.put b2 (.cells ⟨[vS (([114] : Bs) ++ l1), vS (([114] : Bs) ++ l2)]⟩ 9) →
 Tri Tryz.prog 61 [vI i1] h_9 fun v_8 h_10 =>
 ∃ (l6 : Bs), v_8 = vS l6 ∧
 l6.length + ([32] : Bs).length ≤ 9223372036854775807 ∧
 Tri Tryz.prog 62 [vL (ad b2 0) 2 2, vS [44, 32]] h_10 fun v_9 h_11 =>
 ∃ (l7 : Bs), v_9 = vS l7 ∧
 (l6 ++ ([32] : Bs)).length + l7.length ≤ 9223372036854775807 ∧
 Q (vT [vS ((l6 ++ ([32] : Bs)) ++ l7), vI 0]) h_11)
 (br (i6 == 3)
 (([114] : Bs).length + l3.length ≤ 9223372036854775807 ∧
 ∀ (b3 : Nat), h_5 b3 = none → ∀ (h_12 : PHeap), h_12 = h_5.put b3 (.cells ⟨[vS (([114] : Bs) ++ l1), vS (([114] : Bs) ++ l2), vS (([114] : Bs) ++ l3)]⟩ 9) →
 Tri Tryz.prog 61 [vI i1] h_12 fun v_10 h_13 =>
 ∃ (l8 : Bs), v_10 = vS l8 ∧
 l8.length + ([32] : Bs).length ≤ 9223372036854775807 ∧
 Tri Tryz.prog 62 [vL (ad b3 0) 3 3, vS [44, 32]] h_13 fun v_11 h_14 =>
 ∃ (l9 : Bs), v_11 = vS l9 ∧
 (l8 ++ ([32] : Bs)).length + l9.length ≤ 9223372036854775807 ∧
 Q (vT [vS ((l8 ++ ([32] : Bs)) ++ l9), vI 0]) h_14)
 (br (i6 == 4)
 (∀ (b4 : Nat), h_5 b4 = none → ∀ (h_15 : PHeap), h_15 = h_5.put b4 (.cells ⟨[vS (([114] : Bs) ++ l1), vS l3]⟩ 9) →
 Tri Tryz.prog 61 [vI i1] h_15 fun v_12 h_16 =>
 ∃ (l10 : Bs), v_12 = vS l10 ∧
 l10.length + ([32] : Bs).length ≤ 9223372036854775807 ∧
 Tri Tryz.prog 62 [vL (ad b4 0) 2 2, vS [44, 32]] h_16 fun v_13 h_17 =>
 ∃ (l11 : Bs), v_13 = vS l11 ∧
 (l10 ++ ([32] : Bs)).length + l11.length ≤ 9223372036854775807 ∧
 Q (vT [vS ((l10 ++ ([32] : Bs)) ++ l11), vI 0]) h_17)
 (br (i6 == 5)
 (∀ (b5 : Nat), h_5 b5 = none → ∀ (h_18 : PHeap), h_18 = h_5.put b5 (.cells ⟨[vS (([114] : Bs) ++ l1), vS (([114] : Bs) ++ l2), vS l3]⟩ 9) →
 Tri Tryz.prog 61 [vI i1] h_18 fun v_14 h_19 =>
 ∃ (l12 : Bs), v_14 = vS l12 ∧
 l12.length + ([32] : Bs).length ≤ 9223372036854775807 ∧
 Tri Tryz.prog 62 [vL (ad b5 0) 3 3, vS [44, 32]] h_19 fun v_15 h_20 =>
 ∃ (l13 : Bs), v_15 = vS l13 ∧
 (l12 ++ ([32] : Bs)).length + l13.length ≤ 9223372036854775807 ∧
 Q (vT [vS ((l12 ++ ([32] : Bs)) ++ l13), vI 0]) h_20)
 (br (i6 == 6)
 (∀ (b6 : Nat), h_5 b6 = none → ∀ (h_21 : PHeap), h_21 = h_5.put b6 (.cells ⟨[vS l3]⟩ 9) →
 Tri Tryz.prog 61 [vI i1] h_21 fun v_16 h_22 =>
 ∃ (l14 : Bs), v_16 = vS l14 ∧
 l14.length + ([32] : Bs).length ≤ 9223372036854775807 ∧
 Tri Tryz.prog 62 [vL (ad b6 0) 1 1, vS [44, 32]] h_22 fun v_17 h_23 =>
 ∃ (l15 : Bs), v_17 = vS l15 ∧
 (l14 ++ ([32] : Bs)).length + l15.length ≤ 9223372036854775807 ∧
 Q (vT [vS ((l14 ++ ([32] : Bs)) ++ l15), vI 0]) h_23)
 (Tri Tryz.prog 61 [vI i1] h_5 fun v_18 h_24 =>
 ∃ (l16 : Bs), v_18 = vS l16 ∧
 Q (vT [vS l16, vI 0]) h_24)))))))
theorem T32 {i1 : Int} {i2 : Int} {i3 : Int} {i4 : Int} {h : PHeap} {Q : Value → PHeap → Prop} (hR : R32 i1 i2 i3 i4 h Q) : Tri Tryz.prog 32 [vA [vI i1, vI i2, vI i3, vI i4]] h Q :=
 tri_of_dn mixed Tryz.func32 rfl (by kernel_rfl) low32 (rs := [.tmp 2, .tmp 3]) (by kernel_rfl) rfl (Eq.mpr (by kernel_rfl : dnF Tryz.prog Tryz.f32.ntmps d32 [.tmp 2, .tmp 3] [vA [vI i1, vI i2, vI i3, vI i4]] h Q = R32 i1 i2 i3 i4 h Q) hR)
noncomputable def d34 : DCode := up ⟨[(12, .l [qi]), (13, .c (.tup [(false, [qi]), (false, [qi])])), (17, .l [qi]), (18, .c (.one false [.str])), (20, .l [qi]), (21, .c (.one false [.str])), (24, .l [qi]), (25, .c (.one false [.str])), (28, .l [qi]), (29, .c (.one false [.str])), (32, .l [qi]), (33, .c (.one false [.str])), (68, .l [.str])], [], []⟩ (low Tryz.prog (fun _ => false) (Tryz.f34.body.getD .skip))
theorem low34 : low Tryz.prog (fun _ => false) (Tryz.f34.body.getD .skip) = some (eC d34) := by kernel_rfl
def R34 (i1 : Int) (i2 : Int) (i3 : Int) (i4 : Int) (h : PHeap) (Q : Value → PHeap → Prop) : Prop :=
 Tri Tryz.prog 63 [vI i1] h fun v_1 h_1 =>
 ∃ (i5 i6 : Int), v_1 = vT [vI i5, vI i6] ∧
 Tri Tryz.prog 68 [vI i1] h_1 fun v_2 h_2 =>
 ∃ (l1 : Bs), v_2 = vS l1 ∧
 Tri Tryz.prog 18 [vI i2] h_2 fun v_3 h_3 =>
 ∃ (l2 : Bs), v_3 = vS l2 ∧
 (tv [vI i4]) ∧
 (tv [vI i3]) ∧
 ([114] : Bs).length + l2.length ≤ 9223372036854775807 ∧
 Tri Tryz.prog 18 [vI i3] h_3 fun v_4 h_4 =>
 ∃ (l3 : Bs), v_4 = vS l3 ∧
 (tv [vI i4]) ∧
 ([114] : Bs).length + l3.length ≤ 9223372036854775807 ∧
 Tri Tryz.prog 18 [vI i4] h_4 fun v_5 h_5 =>
 ∃ (l4 : Bs), v_5 = vS l4 ∧
 ([114] : Bs).length + l4.length ≤ 9223372036854775807 ∧
 Tri Tryz.prog 18 [vI i4] h_5 fun v_6 h_6 =>
 ∃ (l5 : Bs), v_6 = vS l5 ∧
 ([32] : Bs).length + (([114] : Bs) ++ l2).length ≤ 9223372036854775807 ∧
 ([32] : Bs).length + (([114] : Bs) ++ l2).length ≤ 9223372036854775807 ∧
 (([32] : Bs) ++ (([114] : Bs) ++ l2)).length + ([44, 32] : Bs).length ≤ 9223372036854775807 ∧
 ((([32] : Bs) ++ (([114] : Bs) ++ l2)) ++ ([44, 32] : Bs)).length + (([114] : Bs) ++ l3).length ≤ 9223372036854775807 ∧
 ([32] : Bs).length + (([114] : Bs) ++ l2).length ≤ 9223372036854775807 ∧
 (([32] : Bs) ++ (([114] : Bs) ++ l2)).length + ([44, 32] : Bs).length ≤ 9223372036854775807 ∧
 ((([32] : Bs) ++ (([114] : Bs) ++ l2)) ++ ([44, 32] : Bs)).length + (([114] : Bs) ++ l3).length ≤ 9223372036854775807 ∧
 (((([32] : Bs) ++ (([114] : Bs) ++ l2)) ++ ([44, 32] : Bs)) ++ (([114] : Bs) ++ l3)).length + ([44, 32] : Bs).length ≤ 9223372036854775807 ∧
 ((((([32] : Bs) ++ (([114] : Bs) ++ l2)) ++ ([44, 32] : Bs)) ++ (([114] : Bs) ++ l3)) ++ ([44, 32] : Bs)).length + (([114] : Bs) ++ l4).length ≤ 9223372036854775807 ∧
 ([32] : Bs).length + (([114] : Bs) ++ l2).length ≤ 9223372036854775807 ∧
 (([32] : Bs) ++ (([114] : Bs) ++ l2)).length + ([44, 32] : Bs).length ≤ 9223372036854775807 ∧
 ((([32] : Bs) ++ (([114] : Bs) ++ l2)) ++ ([44, 32] : Bs)).length + l5.length ≤ 9223372036854775807 ∧
 ([32] : Bs).length + (([114] : Bs) ++ l2).length ≤ 9223372036854775807 ∧
 (([32] : Bs) ++ (([114] : Bs) ++ l2)).length + ([44, 32] : Bs).length ≤ 9223372036854775807 ∧
 ((([32] : Bs) ++ (([114] : Bs) ++ l2)) ++ ([44, 32] : Bs)).length + (([114] : Bs) ++ l3).length ≤ 9223372036854775807 ∧
 (((([32] : Bs) ++ (([114] : Bs) ++ l2)) ++ ([44, 32] : Bs)) ++ (([114] : Bs) ++ l3)).length + ([44, 32] : Bs).length ≤ 9223372036854775807 ∧
 ((((([32] : Bs) ++ (([114] : Bs) ++ l2)) ++ ([44, 32] : Bs)) ++ (([114] : Bs) ++ l3)) ++ ([44, 32] : Bs)).length + l5.length ≤ 9223372036854775807 ∧
 ([32] : Bs).length + l5.length ≤ 9223372036854775807 ∧
 ∀ (b1 : Nat), h_6 b1 = none → ∀ (h_7 : PHeap), h_7 = h_6.put b1 (.cells ⟨[vS [], vS (([32] : Bs) ++ (([114] : Bs) ++ l2)), vS (((([32] : Bs) ++ (([114] : Bs) ++ l2)) ++ ([44, 32] : Bs)) ++ (([114] : Bs) ++ l3)), vS (((((([32] : Bs) ++ (([114] : Bs) ++ l2)) ++ ([44, 32] : Bs)) ++ (([114] : Bs) ++ l3)) ++ ([44, 32] : Bs)) ++ (([114] : Bs) ++ l4)), vS (((([32] : Bs) ++ (([114] : Bs) ++ l2)) ++ ([44, 32] : Bs)) ++ l5), vS (((((([32] : Bs) ++ (([114] : Bs) ++ l2)) ++ ([44, 32] : Bs)) ++ (([114] : Bs) ++ l3)) ++ ([44, 32] : Bs)) ++ l5), vS (([32] : Bs) ++ l5)]⟩ 9) →
 ∃ (b2 o1 : Nat), (ad b1 0) = some ⟨b2, o1, none⟩ ∧ (0 ≤ i5 ∧ i5 < (7 : Nat)) ∧
 ∃ (l6 : Bs), h_7.cell b2 (o1 + (i5).toNat * 1) = some (vS l6) ∧
 l1.length + l6.length ≤ 9223372036854775807 ∧
 Q (vS (l1 ++ l6)) h_7
theorem T34 {i1 : Int} {i2 : Int} {i3 : Int} {i4 : Int} {h : PHeap} {Q : Value → PHeap → Prop} (hR : R34 i1 i2 i3 i4 h Q) : Tri Tryz.prog 34 [vA [vI i1, vI i2, vI i3, vI i4]] h Q :=
 tri_of_dn mixed Tryz.func34 rfl (by kernel_rfl) low34 (rs := [.tmp 2]) (by kernel_rfl) rfl (Eq.mpr (by kernel_rfl : dnF Tryz.prog Tryz.f34.ntmps d34 [.tmp 2] [vA [vI i1, vI i2, vI i3, vI i4]] h Q = R34 i1 i2 i3 i4 h Q) hR)
noncomputable def d33 : DCode := up ⟨[(9, .l [qi]), (10, .c (.tup [(false, [qi]), (false, [qi])])), (17, .c (.one false [.bool])), (21, .l [qi]), (26, .c (.one false [.bool])), (30, .l [qi]), (36, .c (.one false [.bool])), (40, .l [qi]), (48, .l [qi]), (49, .c (.tup [(false, [qi]), (false, [qi]), (false, [qi])])), (54, .l [qi]), (58, .l [qi]), (63, .l [qi]), (68, .l [qi]), (73, .c (.one false [.bool])), (76, .l [qi]), (81, .l [qi])], [], []⟩ (low Tryz.prog (fun _ => false) (Tryz.f33.body.getD .skip))
theorem low33 : low Tryz.prog (fun _ => false) (Tryz.f33.body.getD .skip) = some (eC d33) := by kernel_rfl
def R33 (i1 : Int) (i2 : Int) (i3 : Int) (i4 : Int) (h : PHeap) (Q : Value → PHeap → Prop) : Prop :=
 Tri Tryz.prog 63 [vI i1] h fun v_1 h_1 =>
 ∃ (i5 i6 : Int), v_1 = vT [vI i5, vI i6] ∧
 br (i6 != 0)
 (Q (vI i6) h_1)
 (Tri Tryz.prog 64 [vI i5] h_1 fun v_2 h_2 =>
 ∃ (c1 : Bool), v_2 = vB c1 ∧
 br (!c1)
 (br (i2 != 0)
 (Q (vI 1) h_2)
 (Tri Tryz.prog 65 [vI i5] h_2 fun v_3 h_3 =>
 ∃ (c2 : Bool), v_3 = vB c2 ∧
 br (!c2)
 (br (i3 != 0)
 (Q (vI 1) h_3)
 (Tri Tryz.prog 66 [vI i5] h_3 fun v_4 h_4 =>
 ∃ (c3 : Bool), v_4 = vB c3 ∧
 br (!c3)
 (br (i4 != 0)
 (Q (vI 1) h_4)
 (br (decide (i5 ≥ 4))
 (Tri Tryz.prog 67 [vI i1] h_4 fun v_5 h_5 =>
 ∃ (i7 i8 i9 : Int), v_5 = vT [vI i7, vI i8, vI i9] ∧
 br (decide (i2 < 0))
 (Q (vI 2) h_5)
 (br (decide (i2 > 7))
 (Q (vI 2) h_5)
 (br (decide (i3 < 0))
 (Q (vI 2) h_5)
 (br (decide (i3 > 7))
 (Q (vI 2) h_5)
 (Tri Tryz.prog 66 [vI i5] h_5 fun v_6 h_6 =>
 ∃ (c4 : Bool), v_6 = vB c4 ∧
 br c4
 (br (decide (i4 < i7))
 (Q (vI 2) h_6)
 (br (decide (i4 > i8))
 (Q (vI 2) h_6)
 (Q (vI 0) h_6)))
 (Q (vI 0) h_6))))))
 (br (decide (i2 < 0))
 (Q (vI 2) h_4)
 (br (decide (i2 > 7))
 (Q (vI 2) h_4)
 (br (decide (i3 < 0))
 (Q (vI 2) h_4)
 (br (decide (i3 > 7))
 (Q (vI 2) h_4)
 (Tri Tryz.prog 66 [vI i5] h_4 fun v_7 h_7 =>
 ∃ (c5 : Bool), v_7 = vB c5 ∧
 br c5
 (br (decide (i4 < 0))
 (Q (vI 2) h_7)
 (br (decide (i4 > 7))
 (Q (vI 2) h_7)
 (Q (vI 0) h_7)))
 (Q (vI 0) h_7))))))))
 (br (decide (i5 ≥ 4))
 (Tri Tryz.prog 67 [vI i1] h_4 fun v_8 h_8 =>
 ∃ (i10 i11 i12 : Int), v_8 = vT [vI i10, vI i11, vI i12] ∧
 br (decide (i2 < 0))
 (Q (vI 2) h_8)
 (br (decide (i2 > 7))
 (Q (vI 2) h_8)
 (br (decide (i3 < 0))
 (Q (vI 2) h_8)
 (br (decide (i3 > 7))
 (Q (vI 2) h_8)
 (Tri Tryz.prog 66 [vI i5] h_8 fun v_9 h_9 =>
 ∃ (c6 : Bool), v_9 = vB c6 ∧
 br c6
 (br (decide (i4 < i10))
 (Q (vI 2) h_9)
 (br (decide (i4 > i11))
 (Q (vI 2) h_9)
 (Q (vI 0) h_9)))
 (Q (vI 0) h_9))))))
 (br (decide (i2 < 0))
 (Q (vI 2) h_4)
 (br (decide (i2 > 7))
 (Q (vI 2) h_4)
 (br (decide (i3 < 0))
 (Q (vI 2) h_4)
 (br (decide (i3 > 7))
 (Q (vI 2) h_4)
 (Tri Tryz.prog 66 [vI i5] h_4 fun v_10 h_10 =>
 ∃ (c7 : Bool), v_10 = vB c7 ∧
 br c7
 (br (decide (i4 < 0))
 (Q (vI 2) h_10)
 (br (decide (i4 > 7))
 (Q (vI 2) h_10)
 (Q (vI 0) h_10)))
 (Q (vI 0) h_10)))))))))
 (Tri Tryz.prog 66 [vI i5] h_3 fun v_11 h_11 =>
 ∃ (c8 : Bool), v_11 = vB c8 ∧
 br (!c8)
 (br (i4 != 0)
 (Q (vI 1) h_11)
 (br (decide (i5 ≥ 4))
 (Tri Tryz.prog 67 [vI i1] h_11 fun v_12 h_12 =>
 ∃ (i13 i14 i15 : Int), v_12 = vT [vI i13, vI i14, vI i15] ∧
 br (decide (i2 < 0))
 (Q (vI 2) h_12)
 (br (decide (i2 > 7))
 (Q (vI 2) h_12)
 (br (decide (i3 < 0))
 (Q (vI 2) h_12)
 (br (decide (i3 > 7))
 (Q (vI 2) h_12)
 (Tri Tryz.prog 66 [vI i5] h_12 fun v_13 h_13 =>
 ∃ (c9 : Bool), v_13 = vB c9 ∧
 br c9
 (br (decide (i4 < i13))
 (Q (vI 2) h_13)
 (br (decide (i4 > i14))
 (Q (vI 2) h_13)
 (Q (vI 0) h_13)))
 (Q (vI 0) h_13))))))
 (br (decide (i2 < 0))
 (Q (vI 2) h_11)
 (br (decide (i2 > 7))
 (Q (vI 2) h_11)
 (br (decide (i3 < 0))
 (Q (vI 2) h_11)
 (br (decide (i3 > 7))
 (Q (vI 2) h_11)
 (Tri Tryz.prog 66 [vI i5] h_11 fun v_14 h_14 =>
 ∃ (c10 : Bool), v_14 = vB c10 ∧
 br c10
 (br (decide (i4 < 0))
 (Q (vI 2) h_14)
 (br (decide (i4 > 7))
 (Q (vI 2) h_14)
 (Q (vI 0) h_14)))
 (Q (vI 0) h_14))))))))
 (br (decide (i5 ≥ 4))
 (Tri Tryz.prog 67 [vI i1] h_11 fun v_15 h_15 =>
 ∃ (i16 i17 i18 : Int), v_15 = vT [vI i16, vI i17, vI i18] ∧
 br (decide (i2 < 0))
 (Q (vI 2) h_15)
 (br (decide (i2 > 7))
 (Q (vI 2) h_15)
 (br (decide (i3 < 0))
 (Q (vI 2) h_15)
 (br (decide (i3 > 7))
 (Q (vI 2) h_15)
 (Tri Tryz.prog 66 [vI i5] h_15 fun v_16 h_16 =>
 ∃ (c11 : Bool), v_16 = vB c11 ∧
 br c11
 (br (decide (i4 < i16))
 (Q (vI 2) h_16)
 (br (decide (i4 > i17))
 (Q (vI 2) h_16)
 (Q (vI 0) h_16)))
 (Q (vI 0) h_16))))))
 (br (decide (i2 < 0))
 (Q (vI 2) h_11)
 (br (decide (i2 > 7))
 (Q (vI 2) h_11)
 (br (decide (i3 < 0))
 (Q (vI 2) h_11)
 (br (decide (i3 > 7))
 (Q (vI 2) h_11)
 (Tri Tryz.prog 66 [vI i5] h_11 fun v_17 h_17 =>
 ∃ (c12 : Bool), v_17 = vB c12 ∧
 br c12
 (br (decide (i4 < 0))
 (Q (vI 2) h_17)
 (br (decide (i4 > 7))
 (Q (vI 2) h_17)
 (Q (vI 0) h_17)))
 (Q (vI 0) h_17))))))))))
 (Tri Tryz.prog 65 [vI i5] h_2 fun v_18 h_18 =>
 ∃ (c13 : Bool), v_18 = vB c13 ∧
 br (!c13)
 (br (i3 != 0)
 (Q (vI 1) h_18)
 (Tri Tryz.prog 66 [vI i5] h_18 fun v_19 h_19 =>
 ∃ (c14 : Bool), v_19 = vB c14 ∧
 br (!c14)
 (br (i4 != 0)
 (Q (vI 1) h_19)
 (br (decide (i5 ≥ 4))
 (Tri Tryz.prog 67 [vI i1] h_19 fun v_20 h_20 =>
 ∃ (i19 i20 i21 : Int), v_20 = vT [vI i19, vI i20, vI i21] ∧
 br (decide (i2 < 0))
 (Q (vI 2) h_20)
 (br (decide (i2 > 7))
 (Q (vI 2) h_20)
 (br (decide (i3 < 0))
 (Q (vI 2) h_20)
 (br (decide (i3 > 7))
 (Q (vI 2) h_20)
 (Tri Tryz.prog 66 [vI i5] h_20 fun v_21 h_21 =>
 ∃ (c15 : Bool), v_21 = vB c15 ∧
 br c15
 (br (decide (i4 < i19))
 (Q (vI 2) h_21)
 (br (decide (i4 > i20))
 (Q (vI 2) h_21)
 (Q (vI 0) h_21)))
 (Q (vI 0) h_21))))))
 (br (decide (i2 < 0))
 (Q (vI 2) h_19)
 (br (decide (i2 > 7))
 (Q (vI 2) h_19)
 (br (decide (i3 < 0))
 (Q (vI 2) h_19)
 (br (decide (i3 > 7))
 (Q (vI 2) h_19)
 (Tri Tryz.prog 66 [vI i5] h_19 fun v_22 h_22 =>
 ∃ (c16 : Bool), v_22 = vB c16 ∧
 br c16
 (br (decide (i4 < 0))
 (Q (vI 2) h_22)
 (br (decide (i4 > 7))
 (Q (vI 2) h_22)
 (Q (vI 0) h_22)))
 (Q (vI 0) h_22))))))))
 (br (decide (i5 ≥ 4))
 (Tri Tryz.prog 67 [vI i1] h_19 fun v_23 h_23 =>
 ∃ (i22 i23 i24 : Int), v_23 = vT [vI i22, vI i23, vI i24] ∧
 br (decide (i2 < 0))
 (Q (vI 2) h_23)
 (br (decide (i2 > 7))
 (Q (vI 2) h_23)
 (br (decide (i3 < 0))
 (Q (vI 2) h_23)
 (br (decide (i3 > 7))
 (Q (vI 2) h_23)
 (Tri Tryz.prog 66 [vI i5] h_23 fun v_24 h_24 =>
 ∃ (c17 : Bool), v_24 = vB c17 ∧
 br c17
 (br (decide (i4 < i22))
 (Q (vI 2) h_24)
 (br (decide (i4 > i23))
 (Q (vI 2) h_24)
 (Q (vI 0) h_24)))
 (Q (vI 0) h_24))))))
 (br (decide (i2 < 0))
 (Q (vI 2) h_19)
 (br (decide (i2 > 7))
 (Q (vI 2) h_19)
 (br (decide (i3 < 0))
 (Q (vI 2) h_19)
 (br (decide (i3 > 7))
 (Q (vI 2) h_19)
 (Tri Tryz.prog 66 [vI i5] h_19 fun v_25 h_25 =>
 ∃ (c18 : Bool), v_25 = vB c18 ∧
 br c18
 (br (decide (i4 < 0))
 (Q (vI 2) h_25)
 (br (decide (i4 > 7))
 (Q (vI 2) h_25)
 (Q (vI 0) h_25)))
 (Q (vI 0) h_25)))))))))
 (Tri Tryz.prog 66 [vI i5] h_18 fun v_26 h_26 =>
 ∃ (c19 : Bool), v_26 = vB c19 ∧
 br (!c19)
 (br (i4 != 0)
 (Q (vI 1) h_26)
 (br (decide (i5 ≥ 4))
 (Tri Tryz.prog 67 [vI i1] h_26 fun v_27 h_27 =>
 ∃ (i25 i26 i27 : Int), v_27 = vT [vI i25, vI i26, vI i27] ∧
 br (decide (i2 < 0))
 (Q (vI 2) h_27)
 (br (decide (i2 > 7))
 (Q (vI 2) h_27)
 (br (decide (i3 < 0))
 (Q (vI 2) h_27)
 (br (decide (i3 > 7))
 (Q (vI 2) h_27)
 (Tri Tryz.prog 66 [vI i5] h_27 fun v_28 h_28 =>
 ∃ (c20 : Bool), v_28 = vB c20 ∧
 br c20
 (br (decide (i4 < i25))
 (Q (vI 2) h_28)
 (br (decide (i4 > i26))
 (Q (vI 2) h_28)
 (Q (vI 0) h_28)))
 (Q (vI 0) h_28))))))
 (br (decide (i2 < 0))
 (Q (vI 2) h_26)
 (br (decide (i2 > 7))
 (Q (vI 2) h_26)
 (br (decide (i3 < 0))
 (Q (vI 2) h_26)
 (br (decide (i3 > 7))
 (Q (vI 2) h_26)
 (Tri Tryz.prog 66 [vI i5] h_26 fun v_29 h_29 =>
 ∃ (c21 : Bool), v_29 = vB c21 ∧
 br c21
 (br (decide (i4 < 0))
 (Q (vI 2) h_29)
 (br (decide (i4 > 7))
 (Q (vI 2) h_29)
 (Q (vI 0) h_29)))
 (Q (vI 0) h_29))))))))
 (br (decide (i5 ≥ 4))
 (Tri Tryz.prog 67 [vI i1] h_26 fun v_30 h_30 =>
 ∃ (i28 i29 i30 : Int), v_30 = vT [vI i28, vI i29, vI i30] ∧
 br (decide (i2 < 0))
 (Q (vI 2) h_30)
 (br (decide (i2 > 7))
 (Q (vI 2) h_30)
 (br (decide (i3 < 0))
 (Q (vI 2) h_30)
 (br (decide (i3 > 7))
 (Q (vI 2) h_30)
 (Tri Tryz.prog 66 [vI i5] h_30 fun v_31 h_31 =>
 ∃ (c22 : Bool), v_31 = vB c22 ∧
 br c22
 (br (decide (i4 < i28))
 (Q (vI 2) h_31)
 (br (decide (i4 > i29))
 (Q (vI 2) h_31)
 (Q (vI 0) h_31)))
 (Q (vI 0) h_31))))))
 (br (decide (i2 < 0))
 (Q (vI 2) h_26)
 (br (decide (i2 > 7))
 (Q (vI 2) h_26)
 (br (decide (i3 < 0))
 (Q (vI 2) h_26)
 (br (decide (i3 > 7))
 (Q (vI 2) h_26)
 (Tri Tryz.prog 66 [vI i5] h_26 fun v_32 h_32 =>
 ∃ (c23 : Bool), v_32 = vB c23 ∧
 br c23
 (br (decide (i4 < 0))
 (Q (vI 2) h_32)
 (br (decide (i4 > 7))
 (Q (vI 2) h_32)
 (Q (vI 0) h_32)))
 (Q (vI 0) h_32))))))))))
theorem T33 {i1 : Int} {i2 : Int} {i3 : Int} {i4 : Int} {h : PHeap} {Q : Value → PHeap → Prop} (hR : R33 i1 i2 i3 i4 h Q) : Tri Tryz.prog 33 [vA [vI i1, vI i2, vI i3, vI i4]] h Q :=
 tri_of_dn mixed Tryz.func33 rfl (by kernel_rfl) low33 (rs := [.tmp 2]) (by kernel_rfl) rfl (Eq.mpr (by kernel_rfl : dnF Tryz.prog Tryz.f33.ntmps d33 [.tmp 2] [vA [vI i1, vI i2, vI i3, vI i4]] h Q = R33 i1 i2 i3 i4 h Q) hR)
abbrev o10_10 : Op := .binOp .eql 58 (.tmp 59) (.tmp 60) 58
noncomputable def d10 : DCode := up ⟨[(10, .l [qi]), (12, .l [qi]), (14, .l [qi]), (16, .l [qi]), (19, .l enk1), (20, .c (.tup [(false, [.str]), (false, [qi])])), (23, .c (.one false [.bool])), (27, .l enk1), (28, .c (.one false [qi])), (37, .c (.tup [(true, enk2), (false, [qi]), (false, [qi])])), (42, .l enk1), (43, .c (.one false [.str])), (51, .l [.slice]), (57, .l [.slice]), (59, .l enk1), (60, .l enk1), (61, .c (.one false [.bool]))], [], []⟩ (low Tryz.prog (fun _ => false) (Tryz.f10.body.getD .skip))
theorem low10 : low Tryz.prog (fun _ => false) (Tryz.f10.body.getD .skip) = some (eC d10) := by kernel_rfl
def R10 (i1 : Int) (i2 : Int) (i3 : Int) (i4 : Int) (h : PHeap) (Q : Value → PHeap → Prop) : Prop :=
 Tri Tryz.prog 32 [vA [vI i1, vI i2, vI i3, vI i4]] h fun v_1 h_1 =>
 ∃ (l1 : Bs) (i5 : Int), v_1 = vT [vS l1, vI i5] ∧
 Tri Tryz.prog 15 [] h_1 fun v_2 h_2 =>
 ∃ (c1 : Bool), v_2 = vB c1 ∧
 br (!c1)
 (Q (vB false) h_2)
 (Tri Tryz.prog 33 [vA [vI i1, vI i2, vI i3, vI i4]] h_2 fun v_3 h_3 =>
 ∃ (i6 : Int), v_3 = vI i6 ∧
 br (i5 != i6)
 (Q (vB false) h_3)
 (br (i5 != 0)
 (Q (vB (l1 == [])) h_3)
 (Tri Tryz.prog 13 [vS l1] h_3 fun v_4 h_4 =>
 ∃ (a1 : OA) (n1 enk1 : Nat) (l2 : Bs) (i7 i8 : Int) (a2 : OA) (n2 enk2 : Nat) (i9 i10 : Int), v_4 = vT [vA [vL a1 n1 enk1, vS l2, vI i7, vI i8, vL a2 n2 enk2], vI i9, vI i10] ∧
 Tri Tryz.prog 34 [vA [vI i1, vI i2, vI i3, vI i4]] h_4 fun v_5 h_5 =>
 ∃ (l3 : Bs), v_5 = vS l3 ∧
 br (l1 == l3)
 (br (i10 == 0)
 (br (((n1 : Nat) : Int) == 1)
 (∃ (b1 o1 : Nat), a1 = some ⟨b1, o1, none⟩ ∧ (0 ≤ (0 : Int) ∧ (0 : Int) < n1) ∧
 ∃ (i11 i12 i13 i14 : Int), h_5.row b1 o1 [vI i11, vI i12, vI i13, vI i14] ∧
 ∃ (c2 : Bool), PureRun Tryz.prog (execOp (rho [(59, vA [vI i11, vI i12, vI i13, vI i14]), (60, vA [vI i1, vI i2, vI i3, vI i4])]) (mkO o10_10 4)) (vB c2) ∧
 Q (vB c2) h_5)
 (Q (vB false) h_5))
 (Q (vB false) h_5))
 (Q (vB false) h_5))))
theorem T10 {i1 : Int} {i2 : Int} {i3 : Int} {i4 : Int} {h : PHeap} {Q : Value → PHeap → Prop} (hR : R10 i1 i2 i3 i4 h Q) : Tri Tryz.prog 10 [vA [vI i1, vI i2, vI i3, vI i4]] h Q :=
 tri_of_dn mixed Tryz.func10 rfl (by kernel_rfl) low10 (rs := [.tmp 2]) (by kernel_rfl) rfl (Eq.mpr (by kernel_rfl : dnF Tryz.prog Tryz.f10.ntmps d10 [.tmp 2] [vA [vI i1, vI i2, vI i3, vI i4]] h Q = R10 i1 i2 i3 i4 h Q) hR)
end Go.Proofs.D
namespace Go.As
theorem decDigits_eq (n : Nat) : Lib.decDigits n = digs n := by
 induction n using Nat.strongRecOn with
 | ind n ih =>
   rw [Lib.decDigits, digs]
   split
   · rfl
   · rw [ih (n / 10) (by omega)]
theorem join_cons2 (x y : Bytes) (l : List Bytes) : Lib.join (x :: y :: l) [44, 32] = x ++ ([44, 32] ++ Lib.join (y :: l) [44, 32]) := by
 rw [Lib.join_cons, Lib.join_cons]
 unfold Lib.joinTail
 rw [List.map_cons, List.flatten_cons, List.append_assoc]
theorem join_comma : ∀ (l : List Bytes), Lib.join l [44, 32] = commaT l
 | [] => rfl
 | [x] => by rw [Lib.join_cons]; simp [Lib.joinTail, commaT]
 | x :: y :: l => by rw [join_cons2, join_comma (y :: l)]; rfl
end Go.As
namespace Go.Proofs.D
open Go Go.Den Go.As Go.Shelf
set_option maxRecDepth 100000
def layI_ren : Go.Shelf.Ren := ⟨fun | 171 => 60 | 243 => 103 | 246 => 138 | 283 => 156 | 284 => 157 | 285 => 158 | 286 => 159 | 129 => 130 | 317 => 174 | 318 => 175 | 319 => 176 | 320 => 177 | 337 => 184 | 338 => 185 | n => n, fun | 3 => 3 | 9 => 9 | 2 => 2 | 4 => 4 | 171 => 200 | 0 => 0 | 53 => 178 | 37 => 40 | 5 => 5 | 173 => 202 | 212 => 217 | 51 => 161 | 20 => 20 | 213 => 218 | 46 => 98 | 232 => 233 | 233 => 234 | n => n, fun | 17 => 2 | 18 => 5 | 19 => 6 | n => n⟩
theorem layI : Go.Proofs.LaysM.n171 Tryz.prog layI_ren where
 mixed := by kernel_rfl
 f129 := Tryz.func130.trans (congrArg some (by kernel_rfl))
 f171 := Tryz.func60.trans (congrArg some (by kernel_rfl))
 f243 := Tryz.func103.trans (congrArg some (by kernel_rfl))
 f246 := Tryz.func138.trans (congrArg some (by kernel_rfl))
 f283 := Tryz.func156.trans (congrArg some (by kernel_rfl))
 f284 := Tryz.func157.trans (congrArg some (by kernel_rfl))
 f285 := Tryz.func158.trans (congrArg some (by kernel_rfl))
 f286 := Tryz.func159.trans (congrArg some (by kernel_rfl))
 f317 := Tryz.func174.trans (congrArg some (by kernel_rfl))
 f318 := Tryz.func175.trans (congrArg some (by kernel_rfl))
 f319 := Tryz.func176.trans (congrArg some (by kernel_rfl))
 f320 := Tryz.func177.trans (congrArg some (by kernel_rfl))
 f337 := Tryz.func184.trans (congrArg some (by kernel_rfl))
 f338 := Tryz.func185.trans (congrArg some (by kernel_rfl))
 t0 := Tryz.underlying0
 a0 := Tryz.isAgg0
 z0 := Tryz.sizeOf0
 v0 := Tryz.zeroValue0
 t2 := Tryz.underlying2
 a2 := Tryz.isAgg2
 z2 := Tryz.sizeOf2
 v2 := Tryz.zeroValue2
 t3 := Tryz.underlying3
 a3 := Tryz.isAgg3
 z3 := Tryz.sizeOf3
 v3 := Tryz.zeroValue3
 t4 := Tryz.underlying4
 a4 := Tryz.isAgg4
 z4 := Tryz.sizeOf4
 v4 := Tryz.zeroValue4
 t5 := Tryz.underlying5
 a5 := Tryz.isAgg5
 z5 := Tryz.sizeOf5
 v5 := Tryz.zeroValue5
 t9 := Tryz.underlying9
 a9 := Tryz.isAgg9
 z9 := Tryz.sizeOf9
 v9 := Tryz.zeroValue9
 t20 := Tryz.underlying20
 a20 := Tryz.isAgg20
 z20 := Tryz.sizeOf20
 v20 := Tryz.zeroValue20
 t37 := Tryz.underlying40
 a37 := Tryz.isAgg40
 z37 := Tryz.sizeOf40
 v37 := Tryz.zeroValue40
 t46 := Tryz.underlying98
 a46 := Tryz.isAgg98
 z46 := Tryz.sizeOf98
 v46 := Tryz.zeroValue98
 t51 := Tryz.underlying161
 a51 := Tryz.isAgg161
 z51 := Tryz.sizeOf161
 v51 := Tryz.zeroValue161
 t53 := Tryz.underlying178
 a53 := Tryz.isAgg178
 z53 := Tryz.sizeOf178
 v53 := Tryz.zeroValue178
 t171 := Tryz.underlying200
 a171 := Tryz.isAgg200
 z171 := Tryz.sizeOf200
 v171 := Tryz.zeroValue200
 t173 := Tryz.underlying202
 a173 := Tryz.isAgg202
 z173 := Tryz.sizeOf202
 v173 := Tryz.zeroValue202
 t212 := Tryz.underlying217
 a212 := Tryz.isAgg217
 z212 := Tryz.sizeOf217
 v212 := Tryz.zeroValue217
 t213 := Tryz.underlying218
 a213 := Tryz.isAgg218
 z213 := Tryz.sizeOf218
 t232 := Tryz.underlying233
 a232 := Tryz.isAgg233
 z232 := Tryz.sizeOf233
 v232 := Tryz.zeroValue233
 t233 := Tryz.underlying234
 a233 := Tryz.isAgg234
 z233 := Tryz.sizeOf234
 v233 := Tryz.zeroValue234
 g17 := by kernel_rfl
 g18 := by kernel_rfl
 g19 := by kernel_rfl
 i0 := by kernel_rfl
 i2 := by kernel_rfl
 i3 := by kernel_rfl
 i4 := by kernel_rfl
 i5 := by kernel_rfl
 i9 := by kernel_rfl
 i20 := by kernel_rfl
 i37 := by kernel_rfl
 i46 := by kernel_rfl
 i51 := by kernel_rfl
 i53 := by kernel_rfl
 i171 := by kernel_rfl
 i173 := by kernel_rfl
 i212 := by kernel_rfl
 i232 := by kernel_rfl
 i233 := by kernel_rfl
 m17 := by kernel_rfl
 m18 := by kernel_rfl
 m19 := by kernel_rfl
def layJ_ren : Go.Shelf.Ren := ⟨fun | 156 => 62 | 165 => 104 | 166 => 105 | 169 => 74 | 240 => 139 | 241 => 140 | 276 => 160 | 277 => 161 | n => n, fun | 31 => 52 | 9 => 9 | 3 => 3 | 4 => 4 | 0 => 0 | 20 => 20 | 72 => 112 | 76 => 153 | 70 => 110 | 37 => 40 | 75 => 152 | 127 => 158 | 164 => 204 | 5 => 5 | 80 => 117 | n => n, fun | n => n⟩
theorem layJ : Go.Proofs.Lays.n156 Tryz.prog layJ_ren where
 mixed := by kernel_rfl
 f156 := Tryz.func62.trans (congrArg some (by kernel_rfl))
 f165 := Tryz.func104.trans (congrArg some (by kernel_rfl))
 f166 := Tryz.func105.trans (congrArg some (by kernel_rfl))
 f169 := Tryz.func74.trans (congrArg some (by kernel_rfl))
 f240 := Tryz.func139.trans (congrArg some (by kernel_rfl))
 f241 := Tryz.func140.trans (congrArg some (by kernel_rfl))
 f276 := Tryz.func160.trans (congrArg some (by kernel_rfl))
 f277 := Tryz.func161.trans (congrArg some (by kernel_rfl))
 t0 := Tryz.underlying0
 a0 := Tryz.isAgg0
 z0 := Tryz.sizeOf0
 v0 := Tryz.zeroValue0
 t3 := Tryz.underlying3
 a3 := Tryz.isAgg3
 z3 := Tryz.sizeOf3
 v3 := Tryz.zeroValue3
 t4 := Tryz.underlying4
 a4 := Tryz.isAgg4
 z4 := Tryz.sizeOf4
 v4 := Tryz.zeroValue4
 t9 := Tryz.underlying9
 a9 := Tryz.isAgg9
 z9 := Tryz.sizeOf9
 v9 := Tryz.zeroValue9
 t20 := Tryz.underlying20
 a20 := Tryz.isAgg20
 z20 := Tryz.sizeOf20
 v20 := Tryz.zeroValue20
 t31 := Tryz.underlying52
 a31 := Tryz.isAgg52
 z31 := Tryz.sizeOf52
 v31 := Tryz.zeroValue52
 t37 := Tryz.underlying40
 a37 := Tryz.isAgg40
 z37 := Tryz.sizeOf40
 v37 := Tryz.zeroValue40
 t70 := Tryz.underlying110
 a70 := Tryz.isAgg110
 z70 := Tryz.sizeOf110
 v70 := Tryz.zeroValue110
 t72 := Tryz.underlying112
 a72 := Tryz.isAgg112
 z72 := Tryz.sizeOf112
 v72 := Tryz.zeroValue112
 t75 := Tryz.underlying152
 a75 := Tryz.isAgg152
 z75 := Tryz.sizeOf152
 v75 := Tryz.zeroValue152
 t76 := Tryz.underlying153
 a76 := Tryz.isAgg153
 z76 := Tryz.sizeOf153
 v76 := Tryz.zeroValue153
 t127 := Tryz.underlying158
 a127 := Tryz.isAgg158
 z127 := Tryz.sizeOf158
 v127 := Tryz.zeroValue158
 t164 := Tryz.underlying204
 a164 := Tryz.isAgg204
 z164 := Tryz.sizeOf204
 v164 := Tryz.zeroValue204
theorem exJ : Go.Proofs.Builder.Extra Tryz.prog layJ_ren where
 sizeBuilder := by kernel_rfl
 liesBuilder := by kernel_rfl
 t5 := Tryz.underlying5
 a5 := Tryz.isAgg5
 z5 := Tryz.sizeOf5
 v5 := Tryz.zeroValue5
 infoByte := by kernel_rfl
 cellsByte := by kernel_rfl
 sizeByte := by kernel_rfl
 neB5 := by decide
theorem tri_below {f : FuncId} {fn : Func} {c : Code} {args : List Value} {h : PHeap} {Q : Value → Prop} (hf : Tryz.prog.funcs[f]? = some fn) (hname : (fn.name == "runtime.NumGoroutine") = false) (hb : fn.body = some c)
 (H : ∀ w, Sub w h → Calls Tryz.prog f args.toArray w fun e w' => ∃ v, e = .returned v ∧ Q v ∧ RowKit.Below w.heap.size w w') : Tri Tryz.prog f args h fun v h' => Q v ∧ h' = h := by
 refine tri_calls hf hname hb fun w hs => Calls.mono (H w hs) ?_
 rintro e w' ⟨v, rfl, hq, hb⟩
 refine ⟨v, h, rfl, ⟨hq, rfl⟩, fun k o hk => ?_, hb.os, hb.tape, hb.output, hb.size, fun k hk hn => ⟨hn, hb.block k hk⟩⟩
 have := hs k o hk
 rw [hb.block k (Array.getElem?_eq_some_iff.1 this).1]
 exact this
def PowTab (h : PHeap) : Prop := ∃ t z, h 2 = some (.cells ⟨Lib.pow10Tab.map fun z => Value.int .u64 z⟩ t z)
theorem PowTab.ext {h h' : PHeap} (x : Ext h h') (hp : PowTab h) : PowTab h' := by
 obtain ⟨t, z, hp⟩ := hp
 exact ⟨t, z, x _ _ hp⟩
theorem itoa_t (v : Int) (h1 : -9000000000000000000 ≤ v) (h2 : v ≤ 9000000000000000000) {h : PHeap} (hp : PowTab h) : Tri Tryz.prog 60 [vI v] h fun r h' => r = vS (decI v) ∧ h' = h := by
 refine tri_below Tryz.func60 (by kernel_rfl) rfl fun w hs => ?_
 obtain ⟨t, z, hp⟩ := hp
 have htab : Lib.TabIs Tryz.prog w "internal/strconv.uint64pow10" .u64 Lib.pow10Tab := by
  unfold Lib.TabIs World.var?
  rw [show Tryz.prog.globalNamed "internal/strconv.uint64pow10" = some 2 by kernel_rfl]
  simp only [Option.bind_some]
  rw [hs _ _ hp]
 refine Calls.mono (Any.strconv_Itoa layI v (by omega) (by omega) w htab) ?_
 rintro e w' ⟨rfl, k, os, rfl⟩
 refine ⟨_, rfl, ?_, Lib.below_grow _ w (Nat.le_refl _) k os⟩
 have : Lib.itoa v = decI v := by
  unfold Lib.itoa decI
  split
  · rw [decDigits_eq]
  · rw [decDigits_eq]
 rw [this]
theorem join_t {h : PHeap} {b : Nat} {L : List Bytes} {c : Nat} (hc2 : ∀ j l, L[j]? = some l → h.cell b j = some (vS l)) (hb : h b ≠ none) (hc : L.length ≤ c) (hN : L.length ≤ 1000) (hl : (commaT L).length ≤ 100000) :
 Tri Tryz.prog 62 [vL (ad b 0) L.length c, vS [44, 32]] h fun r h' => r = vS (commaT L) ∧ h' = h := by
 refine tri_below Tryz.func62 (by kernel_rfl) rfl fun w hsub => ?_
 have hmap : (L.map fun l => (⟨⟨l⟩⟩ : ByteArray)).map (fun x => x.data.toList) = L := by
  rw [List.map_map]
  exact List.map_id'' (fun _ => rfl) L
 have hbl : b < w.heap.size := by
  cases hh : h b with
  | none => exact absurd hh hb
  | some ob => exact (Array.getElem?_eq_some_iff.1 (hsub _ _ hh)).1
 have := Any.strings_Join layJ exJ b 0 c (L.map fun l => (⟨⟨l⟩⟩ : ByteArray)) ⟨⟨[44, 32]⟩⟩ w (fun j x hj => by
  rw [List.getElem?_map] at hj
  cases hL : L[j]? with
  | none => rw [hL] at hj; cases hj
  | some l =>
    rw [hL] at hj
    have hj : (⟨⟨l⟩⟩ : ByteArray) = x := by simpa using hj
    subst hj
    rw [Nat.zero_add]
    exact hsub.cell (hc2 j l hL)) hbl (by rw [List.length_map]; omega) (by rw [List.length_map]; exact hc) (by rw [hmap]; show (Lib.join L [44, 32]).length ≤ _; rw [join_comma]; omega)
 rw [hmap, List.length_map] at this
 refine Calls.mono this ?_
 rintro e w' ⟨rfl, hbe⟩
 refine ⟨_, rfl, ?_, hbe⟩
 show vS (Lib.join L [44, 32]) = vS (commaT L)
 rw [join_comma]
attribute [local irreducible] IntKind.wrap Tri
theorem regT_len {n : Int} (h : 0 ≤ n ∧ n ≤ 7) : (decI n).length ≤ 11 := decI_len (by omega) (by omega)
section
variable {h : PHeap}
def lineV (x : Ins) : Value := if checkI x ≠ 0 then vT [vS [], vI (checkI x : Int)] else vT [vS (lineT x), vI 0]
theorem line32_t (hO : OpTab h) (hP : PowTab h) (x : Ins) : Tri Tryz.prog 32 [vA (insC x)] h fun v h' => v = lineV x ∧ Ext h h' := by
 refine T32 ?_
 unfold R32
 refine Tri.mono (icheck_t h hO x) ?_
 rintro _ h1 ⟨rfl, rfl⟩
 refine ⟨_, rfl, br_split (fun e => ?_) fun e => ?_⟩
 · have e : checkI x ≠ 0 := by simpa using e
   unfold lineV; rw [if_pos e]; exact ⟨rfl, Ext.refl _⟩
 have e : checkI x = 0 := by simpa using e
 have hok := ins_ok e
 have hlv : lineV x = vT [vS (lineT x), vI 0] := by unfold lineV; rw [if_neg (by simp [e])]
 rw [hlv]
 have hll := line_len e
 obtain ⟨op, xa, xb, xc⟩ := x
 obtain ⟨k, hk⟩ : ∃ k : Nat, op = (k : Int) := ⟨op.toNat, by have := hok.op; simp only at this; omega⟩
 subst hk
 have hk27 : k < 27 := by have := hok.op; simp only at this; omega
 have ha := hok.a
 have hb := hok.b
 have hc : -100000 ≤ xc ∧ xc ≤ 100000 := by
  have h3 := hok.c3
  have h4 := hok.c4
  have h0 := hok.c0
  have hlim := limits_small k
  simp only [Int.toNat_natCast] at h3 h4 h0
  by_cases f3 : form k = 3
  · have := h3 f3; omega
  by_cases f4 : 4 ≤ form k
  · have := h4 f4; omega
  · have : xc = 0 := h0 (by unfold hasC; have := form_le k; simp; omega)
    omega
 simp only at ha hb
 have la := regT_len ha
 have lb := regT_len hb
 have lc : (decI xc).length ≤ 11 := decI_len (by omega) (by omega)
 refine Tri.mono (form_t h1 hO hk27) ?_
 rintro _ h1 ⟨rfl, rfl⟩
 refine ⟨_, _, rfl, ?_⟩
 refine Tri.mono (itoa_t xa (by omega) (by omega) hP) ?_
 rintro _ h1 ⟨rfl, rfl⟩
 refine ⟨_, rfl, rfl, rfl, by rw [List.length_singleton]; omega, ?_⟩
 refine Tri.mono (itoa_t xb (by omega) (by omega) hP) ?_
 rintro _ h1 ⟨rfl, rfl⟩
 refine ⟨_, rfl, rfl, by rw [List.length_singleton]; omega, ?_⟩
 refine Tri.mono (itoa_t xc (by omega) (by omega) hP) ?_
 rintro _ h1 ⟨rfl, rfl⟩
 refine ⟨_, rfl, ?_⟩
 have hlt : lineT ⟨(k : Int), xa, xb, xc⟩ = stmtT (wordT k) (operT ⟨(k : Int), xa, xb, xc⟩) := by unfold lineT; rw [Int.toNat_natCast]
 have wl : (wordT k).length ≤ 6 := (word_all ⟨k, hk27⟩).2.2.2
 have go : ∀ (L : List Bytes) (b1 : Nat) (h6 : PHeap), operT ⟨(k : Int), xa, xb, xc⟩ = L → L ≠ [] → L.length ≤ 3 → h1 b1 = none → h6 = h1.put b1 (.cells ⟨L.map vS⟩ 9 (0, 0)) →
  Tri Tryz.prog 61 [vI (k : Int)] h6 fun v_6 h_7 =>
  ∃ (l4 : Bs), v_6 = vS l4 ∧
  l4.length + ([32] : Bs).length ≤ 9223372036854775807 ∧
  Tri Tryz.prog 62 [vL (ad b1 0) L.length L.length, vS [44, 32]] h_7 fun v_7 h_8 =>
  ∃ (l5 : Bs), v_7 = vS l5 ∧
  (l4 ++ ([32] : Bs)).length + l5.length ≤ 9223372036854775807 ∧
  (vT [vS ((l4 ++ ([32] : Bs)) ++ l5), vI 0] = vT [vS (lineT ⟨(k : Int), xa, xb, xc⟩), vI 0] ∧ Ext h1 h_8) := fun L b1 h6 hL hne hL3 hb1 hh6 => by
  have x6 := Put.ext hh6 hb1
  refine Tri.mono (opword_t h6 (hO.ext x6) hk27) ?_
  rintro _ h7 ⟨rfl, rfl⟩
  refine ⟨_, rfl, by rw [List.length_singleton]; omega, ?_⟩
  have hst : lineT ⟨(k : Int), xa, xb, xc⟩ = wordT k ++ 32 :: commaT L := by
   rw [hlt, hL]
   unfold stmtT
   rw [if_neg (by simpa using hne)]
  have hcl : (commaT L).length ≤ 49 := by
   rw [hst] at hll
   simp only [List.length_append, List.length_cons] at hll; omega
  refine Tri.mono (join_t (b := b1) (L := L) (c := L.length) (fun j l hj => ?_) (by rw [Put.at hh6]; exact fun e => by cases e) (Nat.le_refl _) (by omega) (by omega)) ?_
  · rw [cell_of (Put.at hh6), List.getElem?_map, hj]; rfl
  rintro _ h8 ⟨rfl, rfl⟩
  refine ⟨_, rfl, by rw [List.length_append, List.length_singleton]; omega, ?_, x6⟩
  rw [hst, List.append_assoc]; rfl
 have hop : ∀ n : Nat, form k = n → operT ⟨(k : Int), xa, xb, xc⟩ = match n with
  | 0 => []
  | 1 => [regT xa]
  | 2 => [regT xa, regT xb]
  | 3 => [regT xa, regT xb, regT xc]
  | 4 => [regT xa, decI xc]
  | 5 => [regT xa, regT xb, decI xc]
  | _ => [decI xc] := fun n hn => by
  subst hn
  unfold operT
  rw [Int.toNat_natCast]
  have f6 := form_le k
  generalize form k = f at f6 ⊢
  match f, f6 with
  | 0, _ => rfl
  | 1, _ => rfl
  | 2, _ => rfl
  | 3, _ => rfl
  | 4, _ => rfl
  | 5, _ => rfl
  | 6, _ => rfl
  | n + 7, h => omega
 have f6 := form_le k
 generalize form k = f at *
 have is : ∀ (n : Nat) (b : Bool), (((f : Nat) : Int) == (n : Int)) = b → (f = n ↔ b = true) := fun n b hb => by
  rw [← hb]; simp; omega
 refine br_split (fun e1 => ?_) fun e1 => br_split (fun e2 => ?_) fun e2 => br_split (fun e3 => ?_) fun e3 => br_split (fun e4 => ?_) fun e4 => br_split (fun e5 => ?_) fun e5 => br_split (fun e6 => ?_) fun e6 => ?_
 · intro b1 hb1 h6 hh6
   exact go [regT xa] b1 h6 (hop 1 ((is 1 _ e1).2 rfl)) (by simp) (by simp) hb1 hh6
 · intro b1 hb1 h6 hh6
   exact go [regT xa, regT xb] b1 h6 (hop 2 ((is 2 _ e2).2 rfl)) (by simp) (by simp) hb1 hh6
 · refine ⟨by rw [List.length_singleton]; omega, ?_⟩
   intro b1 hb1 h6 hh6
   exact go [regT xa, regT xb, regT xc] b1 h6 (hop 3 ((is 3 _ e3).2 rfl)) (by simp) (by simp) hb1 hh6
 · intro b1 hb1 h6 hh6
   exact go [regT xa, decI xc] b1 h6 (hop 4 ((is 4 _ e4).2 rfl)) (by simp) (by simp) hb1 hh6
 · intro b1 hb1 h6 hh6
   exact go [regT xa, regT xb, decI xc] b1 h6 (hop 5 ((is 5 _ e5).2 rfl)) (by simp) (by simp) hb1 hh6
 · intro b1 hb1 h6 hh6
   exact go [decI xc] b1 h6 (hop 6 ((is 6 _ e6).2 rfl)) (by simp) (by simp) hb1 hh6
 · have hf0 : f = 0 := by
    have n1 : f ≠ 1 := fun hh => by have := (is 1 _ e1).1 hh; cases this
    have n2 : f ≠ 2 := fun hh => by have := (is 2 _ e2).1 hh; cases this
    have n3 : f ≠ 3 := fun hh => by have := (is 3 _ e3).1 hh; cases this
    have n4 : f ≠ 4 := fun hh => by have := (is 4 _ e4).1 hh; cases this
    have n5 : f ≠ 5 := fun hh => by have := (is 5 _ e5).1 hh; cases this
    have n6 : f ≠ 6 := fun hh => by have := (is 6 _ e6).1 hh; cases this
    omega
   refine Tri.mono (opword_t h1 hO hk27) ?_
   rintro _ h7 ⟨rfl, rfl⟩
   refine ⟨_, rfl, ?_, Ext.refl _⟩
   rw [hlt, hop 0 hf0]; rfl
end
end Go.Proofs.D
namespace Go.Proofs.D
open Go Go.Den
set_option maxRecDepth 100000
set_option maxHeartbeats 4000000
abbrev elk1 : List CK := [.slice, .str, qi, qi, .slice]
abbrev o4_3 : Op := .makeSlice 40 (.tmp 20) (.tmp 20)
noncomputable def d4 : DCode := up ⟨[(14, .c (.one false [.bool])), (21, .c (.one false [.slice])), (35, .c (.tup [(true, elk1), (false, [qi]), (false, [qi])])), (62, .c (.one false [.str])), (64, .c (.tup [(true, elk1), (false, [qi]), (false, [qi])])), (90, .l [qi]), (96, .l [.str])], [30], [(22, 10, [(7, qi)], [])]⟩ (low Tryz.prog (fun _ => false) (Tryz.f4.body.getD .skip))
theorem low4 : low Tryz.prog (fun _ => false) (Tryz.f4.body.getD .skip) = some (eC d4) := by kernel_rfl
def R4 (i1 : Int) (i2 : Int) (h : PHeap) (Q : Value → PHeap → Prop) : Prop :=
 Tri Tryz.prog 15 [] h fun v_1 h_1 =>
 ∃ (c1 : Bool), v_1 = vB c1 ∧
 br (!c1)
 (Q (vB false) h_1)
 (Raw Tryz.prog (execOp (rho [(20, vI (IntKind.i64.wrap (65531 + (IntKind.i64.wrap ((Int.tmod i1 4)))))), (20, vI (IntKind.i64.wrap (65531 + (IntKind.i64.wrap ((Int.tmod i1 4))))))]) (mkO o4_3 40)) h_1 fun v_2 h_2 =>
 ∃ (a1 : OA) (n1 elk1 : Nat), v_2 = vL a1 n1 elk1 ∧
 ∃ (I_1 : Nat → Int → PHeap → Prop), (∃ (m2 : Nat), I_1 m2 (0 : Int) h_2) ∧
 ∀ (m1 : Nat) (i3 : Int) (h_3 : PHeap), I_1 m1 i3 h_3 →
 br (decide (i3 < ((n1 : Nat) : Int)))
 (∃ (b1 o1 : Nat), a1 = some ⟨b1, o1, none⟩ ∧ (0 ≤ i3 ∧ i3 < n1) ∧
 ∃ (l1 : List Value) (t1 : TypeId) (z1 : Nat × Nat), h_3 b1 = some (.cells ⟨l1⟩ t1 z1) ∧ ((o1 + (i3).toNat * 1) + 1 ≤ l1.length ∧ z1.2 ≤ (o1 + (i3).toNat * 1)) ∧
 ∀ (h_4 : PHeap), h_4 = h_3.put b1 (.cells ⟨splice l1 (o1 + (i3).toNat * 1) [vU 32]⟩ t1 z1) →
 ∃ (m3 : Nat), m3 < m1 ∧ I_1 m3 (IntKind.i64.wrap (i3 + 1)) h_4 ∧
 True)
 (∃ (l2 : Bs), BytesAt h_3 a1 n1 l2 ∧
 l2.length + ([104, 97, 108, 116] : Bs).length ≤ 9223372036854775807 ∧
 Tri Tryz.prog 13 [vS (l2 ++ ([104, 97, 108, 116] : Bs))] h_3 fun v_3 h_5 =>
 ∃ (a2 : OA) (n2 k2 : Nat) (l3 : Bs) (i4 i5 : Int) (a3 : OA) (n3 k3 : Nat) (i6 i7 : Int), v_3 = vT [vA [vL a2 n2 k2, vS l3, vI i4, vI i5, vL a3 n3 k3], vI i6, vI i7] ∧
 br (decide ((IntKind.i64.wrap ((Int.tmod i1 4))) > 1))
 (br (i7 != 5)
 (Q (vB false) h_5)
 (br (i6 != 0)
 (Q (vB false) h_5)
 (br (decide ((IntKind.i64.wrap ((Int.tmod i1 4))) ≤ 1))
 (br (i7 != 0)
 (Q (vB false) h_5)
 (Tri Tryz.prog 18 [vI (Int.tmod (IntKind.i64.wrap (i2)) 4200)] h_5 fun v_4 h_6 =>
 ∃ (l4 : Bs), v_4 = vS l4 ∧
 ([104, 97, 108, 116, 10, 46, 100, 97, 116, 97, 10, 46, 115, 112, 97, 99, 101, 32, 49, 48, 48, 10, 46, 122, 101, 114, 111, 32] : Bs).length + l4.length ≤ 9223372036854775807 ∧
 Tri Tryz.prog 13 [vS (([104, 97, 108, 116, 10, 46, 100, 97, 116, 97, 10, 46, 115, 112, 97, 99, 101, 32, 49, 48, 48, 10, 46, 122, 101, 114, 111, 32] : Bs) ++ l4)] h_6 fun v_5 h_7 =>
 ∃ (a4 : OA) (n4 k4 : Nat) (l5 : Bs) (i8 i9 : Int) (a5 : OA) (n5 k5 : Nat) (i10 i11 : Int), v_5 = vT [vA [vL a4 n4 k4, vS l5, vI i8, vI i9, vL a5 n5 k5], vI i10, vI i11] ∧
 br (decide ((Int.tmod (IntKind.i64.wrap (i2)) 4200) > 4096))
 (br (i11 == 2)
 (Q (vB (i10 == 4)) h_7)
 (Q (vB false) h_7))
 (br (decide ((Int.tmod (IntKind.i64.wrap (i2)) 4200) > 3932))
 (br (i11 == 9)
 (Q (vB (i10 == 0)) h_7)
 (Q (vB false) h_7))
 (br (i11 == 0)
 (br (i8 == (Int.tmod (IntKind.i64.wrap (i2)) 4200))
 (Q (vB ((l5.length : Int) == 100)) h_7)
 (Q (vB false) h_7))
 (Q (vB false) h_7)))))
 (Tri Tryz.prog 18 [vI (Int.tmod (IntKind.i64.wrap (i2)) 4200)] h_5 fun v_6 h_8 =>
 ∃ (l6 : Bs), v_6 = vS l6 ∧
 ([104, 97, 108, 116, 10, 46, 100, 97, 116, 97, 10, 46, 115, 112, 97, 99, 101, 32, 49, 48, 48, 10, 46, 122, 101, 114, 111, 32] : Bs).length + l6.length ≤ 9223372036854775807 ∧
 Tri Tryz.prog 13 [vS (([104, 97, 108, 116, 10, 46, 100, 97, 116, 97, 10, 46, 115, 112, 97, 99, 101, 32, 49, 48, 48, 10, 46, 122, 101, 114, 111, 32] : Bs) ++ l6)] h_8 fun v_7 h_9 =>
 ∃ (a6 : OA) (n6 k6 : Nat) (l7 : Bs) (i12 i13 : Int) (a7 : OA) (n7 k7 : Nat) (i14 i15 : Int), v_7 = vT [vA [vL a6 n6 k6, vS l7, vI i12, vI i13, vL a7 n7 k7], vI i14, vI i15] ∧
 br (decide ((Int.tmod (IntKind.i64.wrap (i2)) 4200) > 4096))
 (br (i15 == 2)
 (Q (vB (i14 == 4)) h_9)
 (Q (vB false) h_9))
 (br (decide ((Int.tmod (IntKind.i64.wrap (i2)) 4200) > 3932))
 (br (i15 == 9)
 (Q (vB (i14 == 0)) h_9)
 (Q (vB false) h_9))
 (br (i15 == 0)
 (br (i12 == (Int.tmod (IntKind.i64.wrap (i2)) 4200))
 (Q (vB ((l7.length : Int) == 100)) h_9)
 (Q (vB false) h_9))
 (Q (vB false) h_9)))))))
 (br (decide ((IntKind.i64.wrap ((Int.tmod i1 4))) ≤ 1))
 (br (i7 != 0)
 (Q (vB false) h_5)
 (Tri Tryz.prog 18 [vI (Int.tmod (IntKind.i64.wrap (i2)) 4200)] h_5 fun v_8 h_10 =>
 ∃ (l8 : Bs), v_8 = vS l8 ∧
 ([104, 97, 108, 116, 10, 46, 100, 97, 116, 97, 10, 46, 115, 112, 97, 99, 101, 32, 49, 48, 48, 10, 46, 122, 101, 114, 111, 32] : Bs).length + l8.length ≤ 9223372036854775807 ∧
 Tri Tryz.prog 13 [vS (([104, 97, 108, 116, 10, 46, 100, 97, 116, 97, 10, 46, 115, 112, 97, 99, 101, 32, 49, 48, 48, 10, 46, 122, 101, 114, 111, 32] : Bs) ++ l8)] h_10 fun v_9 h_11 =>
 ∃ (a8 : OA) (n8 k8 : Nat) (l9 : Bs) (i16 i17 : Int) (a9 : OA) (n9 k9 : Nat) (i18 i19 : Int), v_9 = vT [vA [vL a8 n8 k8, vS l9, vI i16, vI i17, vL a9 n9 k9], vI i18, vI i19] ∧
 br (decide ((Int.tmod (IntKind.i64.wrap (i2)) 4200) > 4096))
 (br (i19 == 2)
 (Q (vB (i18 == 4)) h_11)
 (Q (vB false) h_11))
 (br (decide ((Int.tmod (IntKind.i64.wrap (i2)) 4200) > 3932))
 (br (i19 == 9)
 (Q (vB (i18 == 0)) h_11)
 (Q (vB false) h_11))
 (br (i19 == 0)
 (br (i16 == (Int.tmod (IntKind.i64.wrap (i2)) 4200))
 (Q (vB ((l9.length : Int) == 100)) h_11)
 (Q (vB false) h_11))
 (Q (vB false) h_11)))))
 (Tri Tryz.prog 18 [vI (Int.tmod (IntKind.i64.wrap (i2)) 4200)] h_5 fun v_10 h_12 =>
 ∃ (l10 : Bs), v_10 = vS l10 ∧
 ([104, 97, 108, 116, 10, 46, 100, 97, 116, 97, 10, 46, 115, 112, 97, 99, 101, 32, 49, 48, 48, 10, 46, 122, 101, 114, 111, 32] : Bs).length + l10.length ≤ 9223372036854775807 ∧
 Tri Tryz.prog 13 [vS (([104, 97, 108, 116, 10, 46, 100, 97, 116, 97, 10, 46, 115, 112, 97, 99, 101, 32, 49, 48, 48, 10, 46, 122, 101, 114, 111, 32] : Bs) ++ l10)] h_12 fun v_11 h_13 =>
 ∃ (a10 : OA) (n10 k10 : Nat) (l11 : Bs) (i20 i21 : Int) (a11 : OA) (n11 k11 : Nat) (i22 i23 : Int), v_11 = vT [vA [vL a10 n10 k10, vS l11, vI i20, vI i21, vL a11 n11 k11], vI i22, vI i23] ∧
 br (decide ((Int.tmod (IntKind.i64.wrap (i2)) 4200) > 4096))
 (br (i23 == 2)
 (Q (vB (i22 == 4)) h_13)
 (Q (vB false) h_13))
 (br (decide ((Int.tmod (IntKind.i64.wrap (i2)) 4200) > 3932))
 (br (i23 == 9)
 (Q (vB (i22 == 0)) h_13)
 (Q (vB false) h_13))
 (br (i23 == 0)
 (br (i20 == (Int.tmod (IntKind.i64.wrap (i2)) 4200))
 (Q (vB ((l11.length : Int) == 100)) h_13)
 (Q (vB false) h_13))
 (Q (vB false) h_13)))))))
theorem T4 {i1 : Int} {i2 : Int} {h : PHeap} {Q : Value → PHeap → Prop} (hR : R4 i1 i2 h Q) : Tri Tryz.prog 4 [vU i1, .int .u16 i2] h Q :=
 tri_of_dn mixed Tryz.func4 rfl (by kernel_rfl) low4 (rs := [.tmp 4]) (by kernel_rfl) rfl (Eq.mpr (by kernel_rfl : dnF Tryz.prog Tryz.f4.ntmps d4 [.tmp 4] [vU i1, .int .u16 i2] h Q = R4 i1 i2 h Q) hR)
noncomputable def d18 : DCode := up ⟨[(8, .c (.one false [.str])), (19, .c (.one false [.str]))], [], []⟩ (low Tryz.prog (fun _ => false) (Tryz.f18.body.getD .skip))
theorem low18 : low Tryz.prog (fun _ => false) (Tryz.f18.body.getD .skip) = some (eC d18) := by kernel_rfl
def R18 (i1 : Int) (h : PHeap) (Q : Value → PHeap → Prop) : Prop :=
 br (decide (i1 < 0))
 (Tri Tryz.prog 18 [vI (IntKind.i64.wrap (0 - i1))] h fun v_1 h_1 =>
 ∃ (l1 : Bs), v_1 = vS l1 ∧
 ([45] : Bs).length + l1.length ≤ 9223372036854775807 ∧
 Q (vS (([45] : Bs) ++ l1)) h_1)
 (br (decide (i1 < 10))
 ((0 ≤ i1 ∧ i1 ≤ (IntKind.i64.wrap (i1 + 1)) ∧ (IntKind.i64.wrap (i1 + 1)) ≤ (10 : Int)) ∧
 Q (vS ((([48, 49, 50, 51, 52, 53, 54, 55, 56, 57] : Bs).drop (i1).toNat).take ((IntKind.i64.wrap (i1 + 1)).toNat - (i1).toNat))) h)
 ((0 ≤ (Int.tmod i1 10) ∧ (Int.tmod i1 10) ≤ (IntKind.i64.wrap ((Int.tmod i1 10) + 1)) ∧ (IntKind.i64.wrap ((Int.tmod i1 10) + 1)) ≤ (10 : Int)) ∧
 Tri Tryz.prog 18 [vI (IntKind.i64.wrap (Int.tdiv i1 10))] h fun v_2 h_2 =>
 ∃ (l2 : Bs), v_2 = vS l2 ∧
 l2.length + ((([48, 49, 50, 51, 52, 53, 54, 55, 56, 57] : Bs).drop (Int.tmod i1 10).toNat).take ((IntKind.i64.wrap ((Int.tmod i1 10) + 1)).toNat - (Int.tmod i1 10).toNat)).length ≤ 9223372036854775807 ∧
 Q (vS (l2 ++ ((([48, 49, 50, 51, 52, 53, 54, 55, 56, 57] : Bs).drop (Int.tmod i1 10).toNat).take ((IntKind.i64.wrap ((Int.tmod i1 10) + 1)).toNat - (Int.tmod i1 10).toNat)))) h_2))
theorem T18 {i1 : Int} {h : PHeap} {Q : Value → PHeap → Prop} (hR : R18 i1 h Q) : Tri Tryz.prog 18 [vI i1] h Q :=
 tri_of_dn mixed Tryz.func18 rfl (by kernel_rfl) low18 (rs := [.tmp 2]) (by kernel_rfl) rfl (Eq.mpr (by kernel_rfl : dnF Tryz.prog Tryz.f18.ntmps d18 [.tmp 2] [vI i1] h Q = R18 i1 h Q) hR)
end Go.Proofs.D
namespace Go.Proofs.D
open Go Go.Den Go.As
set_option maxRecDepth 100000
def tenS : Bytes := [48, 49, 50, 51, 52, 53, 54, 55, 56, 57]
theorem ten_tab : ∀ n : Fin 10, (tenS.drop n.val).take 1 = [UInt8.ofNat (48 + n.val)] := by decide +kernel
theorem ten_at {n : Nat} (h : n < 10) : (tenS.drop n).take 1 = [UInt8.ofNat (48 + n)] := ten_tab ⟨n, h⟩
attribute [local irreducible] IntKind.wrap Tri
theorem decimal_t : ∀ (n : Nat), n ≤ 1000000000000 → ∀ {h : PHeap}, Tri Tryz.prog 18 [vI (n : Int)] h fun v h' => v = vS (digs n) ∧ h' = h := by
 intro n
 induction n using Nat.strongRecOn with
 | ind n ih =>
   intro hn h
   refine T18 ?_
   unfold R18
   refine br_neg (decide_eq_false (by omega)) (br_split (fun e => ?_) fun e => ?_)
   · have e := of_decide_eq_true e
     have e : n < 10 := by omega
     have hw : IntKind.i64.wrap ((n : Int) + 1) = ((n + 1 : Nat) : Int) := by rw [wrap64 (by omega) (by omega)]; omega
     rw [hw]
     refine ⟨⟨by omega, by omega, by omega⟩, ?_, rfl⟩
     rw [Int.toNat_natCast, Int.toNat_natCast, Nat.add_sub_cancel_left]
     rw [digs, dif_pos e]
     exact congrArg vS (ten_at e)
   · have e := of_decide_eq_false e
     have hm : Int.tmod (n : Int) 10 = ((n % 10 : Nat) : Int) := by rw [Int.tmod_eq_emod_of_nonneg (by omega)]; omega
     have hd : Int.tdiv (n : Int) 10 = ((n / 10 : Nat) : Int) := by rw [Int.tdiv_eq_ediv_of_nonneg (by omega)]; omega
     have hw : IntKind.i64.wrap (((n % 10 : Nat) : Int) + 1) = ((n % 10 + 1 : Nat) : Int) := by rw [wrap64 (by omega) (by omega)]; omega
     have hw2 : IntKind.i64.wrap ((n / 10 : Nat) : Int) = ((n / 10 : Nat) : Int) := wrap64 (by omega) (by omega)
     rw [hm, hd, hw, hw2]
     refine ⟨⟨by omega, by omega, by omega⟩, ?_⟩
     refine Tri.mono (ih (n / 10) (by omega) (by omega)) ?_
     rintro _ h1 ⟨rfl, rfl⟩
     have ht : (tenS.drop ((n % 10 : Nat) : Int).toNat).take (((n % 10 + 1 : Nat) : Int).toNat - ((n % 10 : Nat) : Int).toNat) = [UInt8.ofNat (48 + n % 10)] := by
      rw [Int.toNat_natCast, Int.toNat_natCast, Nat.add_sub_cancel_left]
      exact ten_at (Nat.mod_lt _ (by decide))
     unfold tenS at ht
     rw [ht]
     have hl := digs_len 12 (n / 10) (by omega)
     refine ⟨_, rfl, by rw [List.length_singleton]; omega, ?_, rfl⟩
     conv => rhs; rw [digs, dif_neg (by omega)]
theorem raw_makeB {h : PHeap} {N : Nat} {ty : TypeId} {ρ : Operand → Value} {x y : Operand} (hx : ρ x = vI (N : Int)) (hy : ρ y = vI (N : Int)) (hN : N ≤ 1000000) :
 Raw Tryz.prog (execOp ρ (mkO (.makeSlice 40 x y) ty)) h fun v h' => ∃ b, h b = none ∧ v = vL (ad b 0) N N ∧ h' = h.put b (.cells ⟨List.replicate N (byteV 0)⟩ 5 (0, 0)) := by
 intro w hs
 have hinf : ∃ i, Tryz.prog.info? 5 = some i ∧ i.bytes = 1 ∧ i.size = 1 ∧ i.zero = some (byteV 0) := ⟨_, rfl, rfl, rfl, rfl⟩
 obtain ⟨i, hi, hby, hsz, hz⟩ := hinf
 have hrun := run_makeSlice (P := Tryz.prog) w 40 5 i (byteV 0) rfl hi hz .i64 .i64 (N : Int) (N : Int) (by omega) (Int.le_refl _) (by rw [hsz]; omega) (by rw [hby]; omega) (by omega)
 have hmc : madeCells (byteV 0).cells ((N : Int).toNat * i.size) = ⟨List.replicate N (byteV 0)⟩ := by
  rw [hsz, Int.toNat_natCast, Nat.mul_one]
  apply Array.ext'
  show (madeCells #[byteV 0] N).toList = List.replicate N (byteV 0)
  unfold madeCells
  apply List.ext_getElem?
  intro j
  by_cases hj : j < N <;> simp [List.getElem?_replicate, Nat.mod_one, hj]
 rw [hmc] at hrun
 rw [Int.toNat_natCast] at hrun
 refine ⟨.value (vL (ad w.heap.size 0) N N), vL (ad w.heap.size 0) N N, w.alloc (.cells ⟨List.replicate N (byteV 0)⟩ 5), h.put w.heap.size (.cells ⟨List.replicate N (byteV 0)⟩ 5), ?_, .inl rfl, ⟨_, hs.fresh, rfl, rfl⟩, hs.allocReal _, Keep.allocReal w h _⟩
 simp only [execOp, mkO, hx, hy]
 simp [hrun]
def tail4 (i2 : Int) (h_5 : PHeap) (Q : Value → PHeap → Prop) : Prop :=
 (Tri Tryz.prog 18 [vI (Int.tmod (IntKind.i64.wrap (i2)) 4200)] h_5 fun v_4 h_6 =>
 ∃ (l4 : Bs), v_4 = vS l4 ∧
 ([104, 97, 108, 116, 10, 46, 100, 97, 116, 97, 10, 46, 115, 112, 97, 99, 101, 32, 49, 48, 48, 10, 46, 122, 101, 114, 111, 32] : Bs).length + l4.length ≤ 9223372036854775807 ∧
 Tri Tryz.prog 13 [vS (([104, 97, 108, 116, 10, 46, 100, 97, 116, 97, 10, 46, 115, 112, 97, 99, 101, 32, 49, 48, 48, 10, 46, 122, 101, 114, 111, 32] : Bs) ++ l4)] h_6 fun v_5 h_7 =>
 ∃ (a4 : OA) (n4 k4 : Nat) (l5 : Bs) (i8 i9 : Int) (a5 : OA) (n5 k5 : Nat) (i10 i11 : Int), v_5 = vT [vA [vL a4 n4 k4, vS l5, vI i8, vI i9, vL a5 n5 k5], vI i10, vI i11] ∧
 br (decide ((Int.tmod (IntKind.i64.wrap (i2)) 4200) > 4096))
 (br (i11 == 2)
 (Q (vB (i10 == 4)) h_7)
 (Q (vB false) h_7))
 (br (decide ((Int.tmod (IntKind.i64.wrap (i2)) 4200) > 3932))
 (br (i11 == 9)
 (Q (vB (i10 == 0)) h_7)
 (Q (vB false) h_7))
 (br (i11 == 0)
 (br (i8 == (Int.tmod (IntKind.i64.wrap (i2)) 4200))
 (Q (vB ((l5.length : Int) == 100)) h_7)
 (Q (vB false) h_7))
 (Q (vB false) h_7))))
theorem tail_4 {h : PHeap} (hO : OpTab h) (hM : MaxLen h) {k2 : Nat} (hk2 : k2 < 65536) {Q : Value → PHeap → Prop} (hQ : ∀ h', Ext h h' → Q (vB true) h') : tail4 (k2 : Int) h Q := by
 unfold tail4
 have hz : Int.tmod (IntKind.i64.wrap (k2 : Int)) 4200 = ((k2 % 4200 : Nat) : Int) := by
  rw [wrap64 (by omega) (by omega), Int.tmod_eq_emod_of_nonneg (by omega)]; omega
 rw [hz]
 have hlt : k2 % 4200 < 4200 := Nat.mod_lt _ (by decide)
 generalize k2 % 4200 = z at *
 refine Tri.mono (decimal_t z (by omega)) ?_
 rintro _ h1 ⟨rfl, rfl⟩
 obtain ⟨d1, d2, d3⟩ := digs_ok z
 have d4 := digs_len 4 z (by omega)
 refine ⟨_, rfl, by simp only [List.length_cons, List.length_nil]; omega, ?_⟩
 refine Tri.mono (asm_t (zText (digs z)) hO hM) ?_
 rintro v h2 ⟨x2, hr⟩
 rw [limits_zero d1 d3 (by omega), d2] at hr
 by_cases h1 : 4096 < z
 · rw [if_pos h1] at hr
   obtain ⟨_, rfl⟩ := hr
   exact ⟨_, _, _, _, _, _, _, _, _, _, _, rfl, br_pos (by simp; omega) (br_pos rfl (hQ _ x2))⟩
 rw [if_neg h1] at hr
 by_cases h3 : 3932 < z
 · rw [if_pos h3] at hr
   obtain ⟨_, rfl⟩ := hr
   exact ⟨_, _, _, _, _, _, _, _, _, _, _, rfl, br_neg (by simp; omega) (br_pos (by simp; omega) (br_pos rfl (hQ _ x2)))⟩
 rw [if_neg h3] at hr
 obtain ⟨a1, k1, a2, k2, rfl, _⟩ := hr
 exact ⟨_, _, _, _, _, _, _, _, _, _, _, rfl, br_neg (by simp; omega) (br_neg (by simp; omega) (br_pos rfl (br_pos (by simp) (hQ _ x2))))⟩
theorem limits_tri {h : PHeap} (hO : OpTab h) (hM : MaxLen h) {k1 k2 : Nat} (hk1 : k1 < 256) (hk2 : k2 < 65536) : Tri Tryz.prog 4 [vU (k1 : Int), .int .u16 (k2 : Int)] h fun v h' => v = vB true ∧ ∀ k o, h k = some o → h' k = some o := by
 refine T4 ?_
 unfold R4
 refine Tri.mono (known_t hO hM) ?_
 rintro _ h1 ⟨rfl, x1⟩
 refine ⟨_, rfl, br_neg rfl ?_⟩
 have hn : IntKind.i64.wrap (Int.tmod (k1 : Int) 4) = ((k1 % 4 : Nat) : Int) := by
  rw [Int.tmod_eq_emod_of_nonneg (by omega), wrap64 (by omega) (by omega)]; omega
 have hlt : k1 % 4 < 4 := Nat.mod_lt _ (by decide)
 rw [hn]
 generalize k1 % 4 = n at *
 have hN : IntKind.i64.wrap (65531 + (n : Int)) = ((65531 + n : Nat) : Int) := by rw [wrap64 (by omega) (by omega)]; omega
 rw [hN]
 refine Raw.mono (raw_makeB (N := 65531 + n) rfl rfl (by omega)) ?_
 rintro _ h2 ⟨b, hb, rfl, hh2⟩
 have hxb : ∀ o, Ext h1 (h1.put b o) := fun o => Ext.put hb o
 refine ⟨_, _, _, rfl, ?_⟩
 refine ⟨fun m i h' => ∃ j : Nat, i = (j : Int) ∧ j + m = 65531 + n ∧ h' = h1.put b (.cells ⟨List.replicate j (byteV 32) ++ List.replicate (65531 + n - j) (byteV 0)⟩ 5 (0, 0)), ⟨65531 + n, 0, rfl, by omega, by rw [hh2]; rfl⟩, ?_⟩
 rintro m _ h3 ⟨j, rfl, hjm, rfl⟩
 refine br_split (fun e => ?_) fun e => ?_
 · have hlt2 : j < 65531 + n := by have := of_decide_eq_true e; omega
   refine ⟨b, 0, rfl, ⟨by omega, by omega⟩, _, _, _, put_same _ _ _, ⟨?_, Nat.zero_le _⟩, ?_⟩
   · rw [Int.toNat_natCast, List.length_append, List.length_replicate, List.length_replicate]; omega
   rintro h4 rfl
   refine ⟨m - 1, by omega, ⟨j + 1, by rw [wrap64 (by omega) (by omega)]; omega, by omega, ?_⟩, trivial⟩
   rw [put_put, Int.toNat_natCast, Nat.zero_add, Nat.mul_one]
   have hsp : splice (List.replicate j (byteV 32) ++ List.replicate (65531 + n - j) (byteV 0)) j [vU 32] = List.replicate (j + 1) (byteV 32) ++ List.replicate (65531 + n - (j + 1)) (byteV 0) := by
    unfold splice
    have h1 : (List.replicate j (byteV 32) ++ List.replicate (65531 + n - j) (byteV 0)).take j = List.replicate j (byteV 32) := by
     rw [List.take_append_of_le_length (by simp), List.take_of_length_le (by simp)]
    have h2 : (List.replicate j (byteV 32) ++ List.replicate (65531 + n - j) (byteV 0)).drop (j + [vU 32].length) = List.replicate (65531 + n - (j + 1)) (byteV 0) := by
     rw [List.drop_append, List.length_replicate]
     simp only [List.length_cons, List.length_nil, List.drop_replicate]
     rw [show j - (j + (0 + 1)) = 0 by omega, show 65531 + n - j - (j + (0 + 1) - j) = 65531 + n - (j + 1) by omega]; rfl
    rw [h1, h2, List.replicate_succ']; rfl
   rw [hsp]
 · have hj : j = 65531 + n := by have := of_decide_eq_false e; omega
   subst hj
   refine ⟨List.replicate (65531 + n) 32, .inr ⟨b, 0, rfl, by simp, ?_⟩, by simp only [List.length_replicate, List.length_cons, List.length_nil]; omega, ?_⟩
   · rw [List.map_replicate]
     refine row_lit (put_same _ _ _) fun j v hj => ?_
     rw [Nat.zero_add, List.getElem?_append_left (List.getElem?_eq_some_iff.1 hj).1]; exact hj
   have x3 := x1.trans (hxb (.cells ⟨List.replicate (65531 + n) (byteV 32) ++ List.replicate (65531 + n - (65531 + n)) (byteV 0)⟩ 5 (0, 0)))
   generalize h1.put b _ = h3 at *
   refine Tri.mono (asm_t (List.replicate (65531 + n) 32 ++ haltB) (hO.ext x3) (hM.ext x3)) ?_
   rintro v h4 ⟨x4, hr⟩
   have x34 := x3.trans x4
   have tl : tail4 (k2 : Int) h4 fun v h' => v = vB true ∧ ∀ k o, h k = some o → h' k = some o := tail_4 (hO.ext x34) (hM.ext x34) hk2 fun h' x => ⟨rfl, x34.trans x⟩
   rw [limits_long] at hr
   by_cases h1 : 1 < n
   · rw [if_pos h1] at hr
     obtain ⟨_, rfl⟩ := hr
     refine ⟨_, _, _, _, _, _, _, _, _, _, _, rfl, br_pos (by simp; omega) (br_neg rfl (br_neg rfl (br_neg (by simp; omega) tl)))⟩
   · rw [if_neg h1] at hr
     obtain ⟨a1, k1, a2, k2', rfl, _⟩ := hr
     refine ⟨_, _, _, _, _, _, _, _, _, _, _, rfl, br_neg (by simp; omega) (br_pos (by simp; omega) (br_neg rfl tl))⟩
end Go.Proofs.D
namespace Go.Proofs.D
open Go Go.Den
set_option maxRecDepth 100000
set_option maxHeartbeats 4000000
noncomputable def d63 : DCode := up ⟨[], [], []⟩ (low Tryz.prog (fun _ => false) (Tryz.f63.body.getD .skip))
theorem low63 : low Tryz.prog (fun _ => false) (Tryz.f63.body.getD .skip) = some (eC d63) := by kernel_rfl
def R63 (i1 : Int) (h : PHeap) (Q : Value → PHeap → Prop) : Prop :=
 br (decide (i1 < 0))
 (Q (vT [vI 0, vI 11]) h)
 (br (decide (i1 > 26))
 (Q (vT [vI 0, vI 11]) h)
 (br (i1 == 0)
 (Q (vT [vI 0, vI 0]) h)
 (br (i1 == 1)
 (Q (vT [vI 2, vI 0]) h)
 (br (i1 == 2)
 (Q (vT [vI 4, vI 0]) h)
 (br (i1 == 3)
 (Q (vT [vI 4, vI 0]) h)
 (br (decide (i1 ≥ 22))
 (br (decide (i1 ≤ 24))
 (Q (vT [vI 4, vI 0]) h)
 (br (decide (i1 ≤ 15))
 (Q (vT [vI 3, vI 0]) h)
 (br (decide (i1 ≤ 20))
 (Q (vT [vI 5, vI 0]) h)
 (br (i1 == 25)
 (Q (vT [vI 1, vI 0]) h)
 (Q (vT [vI 6, vI 0]) h)))))
 (br (decide (i1 ≤ 15))
 (Q (vT [vI 3, vI 0]) h)
 (br (decide (i1 ≤ 20))
 (Q (vT [vI 5, vI 0]) h)
 (br (i1 == 25)
 (Q (vT [vI 1, vI 0]) h)
 (Q (vT [vI 6, vI 0]) h))))))))))
theorem T63 {i1 : Int} {h : PHeap} {Q : Value → PHeap → Prop} (hR : R63 i1 h Q) : Tri Tryz.prog 63 [vI i1] h Q :=
 tri_of_dn mixed Tryz.func63 rfl (by kernel_rfl) low63 (rs := [.tmp 2, .tmp 3]) (by kernel_rfl) rfl (Eq.mpr (by kernel_rfl : dnF Tryz.prog Tryz.f63.ntmps d63 [.tmp 2, .tmp 3] [vI i1] h Q = R63 i1 h Q) hR)
noncomputable def d64 : DCode := up ⟨[], [], []⟩ (low Tryz.prog (fun _ => false) (Tryz.f64.body.getD .skip))
theorem low64 : low Tryz.prog (fun _ => false) (Tryz.f64.body.getD .skip) = some (eC d64) := by kernel_rfl
def R64 (i1 : Int) (h : PHeap) (Q : Value → PHeap → Prop) : Prop :=
 br (decide (i1 ≥ 1))
 (Q (vB (decide (i1 ≤ 5))) h)
 (Q (vB false) h)
theorem T64 {i1 : Int} {h : PHeap} {Q : Value → PHeap → Prop} (hR : R64 i1 h Q) : Tri Tryz.prog 64 [vI i1] h Q :=
 tri_of_dn mixed Tryz.func64 rfl (by kernel_rfl) low64 (rs := [.tmp 2]) (by kernel_rfl) rfl (Eq.mpr (by kernel_rfl : dnF Tryz.prog Tryz.f64.ntmps d64 [.tmp 2] [vI i1] h Q = R64 i1 h Q) hR)
noncomputable def d65 : DCode := up ⟨[], [], []⟩ (low Tryz.prog (fun _ => false) (Tryz.f65.body.getD .skip))
theorem low65 : low Tryz.prog (fun _ => false) (Tryz.f65.body.getD .skip) = some (eC d65) := by kernel_rfl
def R65 (i1 : Int) (h : PHeap) (Q : Value → PHeap → Prop) : Prop :=
 br (i1 == 2)
 (Q (vB true) h)
 (br (i1 == 3)
 (Q (vB true) h)
 (Q (vB (i1 == 5)) h))
theorem T65 {i1 : Int} {h : PHeap} {Q : Value → PHeap → Prop} (hR : R65 i1 h Q) : Tri Tryz.prog 65 [vI i1] h Q :=
 tri_of_dn mixed Tryz.func65 rfl (by kernel_rfl) low65 (rs := [.tmp 2]) (by kernel_rfl) rfl (Eq.mpr (by kernel_rfl : dnF Tryz.prog Tryz.f65.ntmps d65 [.tmp 2] [vI i1] h Q = R65 i1 h Q) hR)
noncomputable def d66 : DCode := up ⟨[], [], []⟩ (low Tryz.prog (fun _ => false) (Tryz.f66.body.getD .skip))
theorem low66 : low Tryz.prog (fun _ => false) (Tryz.f66.body.getD .skip) = some (eC d66) := by kernel_rfl
def R66 (i1 : Int) (h : PHeap) (Q : Value → PHeap → Prop) : Prop :=
 Q (vB (decide (i1 ≥ 3))) h
theorem T66 {i1 : Int} {h : PHeap} {Q : Value → PHeap → Prop} (hR : R66 i1 h Q) : Tri Tryz.prog 66 [vI i1] h Q :=
 tri_of_dn mixed Tryz.func66 rfl (by kernel_rfl) low66 (rs := [.tmp 2]) (by kernel_rfl) rfl (Eq.mpr (by kernel_rfl : dnF Tryz.prog Tryz.f66.ntmps d66 [.tmp 2] [vI i1] h Q = R66 i1 h Q) hR)
noncomputable def d67 : DCode := up ⟨[(9, .c (.tup [(false, [qi]), (false, [qi])]))], [], []⟩ (low Tryz.prog (fun _ => false) (Tryz.f67.body.getD .skip))
theorem low67 : low Tryz.prog (fun _ => false) (Tryz.f67.body.getD .skip) = some (eC d67) := by kernel_rfl
def R67 (i1 : Int) (h : PHeap) (Q : Value → PHeap → Prop) : Prop :=
 Tri Tryz.prog 63 [vI i1] h fun v_1 h_1 =>
 ∃ (i2 i3 : Int), v_1 = vT [vI i2, vI i3] ∧
 br (i3 != 0)
 (Q (vT [vI 0, vI 0, vI i3]) h_1)
 (br (decide (i2 < 4))
 (Q (vT [vI 0, vI 0, vI 1]) h_1)
 (br (i1 == 3)
 (Q (vT [vI 0, vI 65535, vI 0]) h_1)
 (br (i1 == 26)
 (Q (vT [vI 0, vI 255, vI 0]) h_1)
 (br (decide (i1 > 20))
 (Q (vT [vI 0, vI 4095, vI 0]) h_1)
 (Q (vT [vI (-32768), vI 32767, vI 0]) h_1)))))
theorem T67 {i1 : Int} {h : PHeap} {Q : Value → PHeap → Prop} (hR : R67 i1 h Q) : Tri Tryz.prog 67 [vI i1] h Q :=
 tri_of_dn mixed Tryz.func67 rfl (by kernel_rfl) low67 (rs := [.tmp 2, .tmp 3, .tmp 4]) (by kernel_rfl) rfl (Eq.mpr (by kernel_rfl : dnF Tryz.prog Tryz.f67.ntmps d67 [.tmp 2, .tmp 3, .tmp 4] [vI i1] h Q = R67 i1 h Q) hR)
noncomputable def d68 : DCode := up ⟨[(9, .c (.one false [.slice])), (12, .l [.str])], [], []⟩ (low Tryz.prog (fun _ => false) (Tryz.f68.body.getD .skip))
theorem low68 : low Tryz.prog (fun _ => false) (Tryz.f68.body.getD .skip) = some (eC d68) := by kernel_rfl
def R68 (i1 : Int) (h : PHeap) (Q : Value → PHeap → Prop) : Prop :=
 br (decide (i1 < 0))
 (Q (vS []) h)
 (br (decide (i1 > 26))
 (Q (vS []) h)
 (Tri Tryz.prog 106 [] h fun v_1 h_1 =>
 ∃ (a1 : OA) (n1 k1 : Nat), v_1 = vL a1 n1 k1 ∧
 ∃ (b1 o1 : Nat), a1 = some ⟨b1, o1, none⟩ ∧ (0 ≤ i1 ∧ i1 < n1) ∧
 ∃ (l1 : Bs), h_1.cell b1 (o1 + (i1).toNat * 1) = some (vS l1) ∧
 Q (vS l1) h_1))
theorem T68 {i1 : Int} {h : PHeap} {Q : Value → PHeap → Prop} (hR : R68 i1 h Q) : Tri Tryz.prog 68 [vI i1] h Q :=
 tri_of_dn mixed Tryz.func68 rfl (by kernel_rfl) low68 (rs := [.tmp 2]) (by kernel_rfl) rfl (Eq.mpr (by kernel_rfl : dnF Tryz.prog Tryz.f68.ntmps d68 [.tmp 2] [vI i1] h Q = R68 i1 h Q) hR)
end Go.Proofs.D
namespace Go.Proofs.D
open Go Go.Den Go.As
set_option maxRecDepth 100000
attribute [local irreducible] IntKind.wrap Tri
theorem form_tab : ∀ k : Fin 27, form k.val = if k.val = 0 then 0 else if k.val = 1 then 2 else if k.val = 2 ∨ k.val = 3 ∨ (22 ≤ k.val ∧ k.val ≤ 24) then 4 else if k.val ≤ 15 then 3 else if k.val ≤ 20 then 5 else if k.val = 25 then 1 else 6 := by decide
section
variable {h : PHeap}
theorem rform_t (i : Int) : Tri Tryz.prog 63 [vI i] h fun v h' => v = (if 0 ≤ i ∧ i ≤ 26 then vT [vI (form i.toNat), vI 0] else vT [vI 0, vI 11]) ∧ h' = h := by
 refine T63 ?_
 unfold R63
 refine br_split (fun e => ⟨by have := of_decide_eq_true e; rw [if_neg (by omega)], rfl⟩) fun e => br_split (fun e' => ⟨by have := of_decide_eq_true e'; rw [if_neg (by omega)], rfl⟩) fun e' => ?_
 have e := of_decide_eq_false e
 have e' := of_decide_eq_false e'
 rw [if_pos (by omega)]
 obtain ⟨k, rfl⟩ : ∃ k : Nat, i = (k : Int) := ⟨i.toNat, by omega⟩
 rw [Int.toNat_natCast]
 have hk : k < 27 := by omega
 have key : ∀ n : Nat, form k = n → ∀ h', h' = h → vT [vI (n : Int), vI 0] = vT [vI (form k), vI 0] ∧ h' = h := fun n hn h' hh => ⟨by rw [hn], hh⟩
 have eqk : ∀ (n : Nat) (b : Bool), (((k : Nat) : Int) == (n : Int)) = b → (k = n ↔ b = true) := fun n b hb => by rw [← hb]; simp; omega
 have tl : k ≠ 0 → k ≠ 1 → k ≠ 2 → k ≠ 3 → ¬ (22 ≤ k ∧ k ≤ 24) → br (decide ((k : Int) ≤ 15)) (vT [vI 3, vI 0] = vT [vI (form k), vI 0] ∧ h = h) (br (decide ((k : Int) ≤ 20)) (vT [vI 5, vI 0] = vT [vI (form k), vI 0] ∧ h = h) (br ((k : Int) == 25) (vT [vI 1, vI 0] = vT [vI (form k), vI 0] ∧ h = h) (vT [vI 6, vI 0] = vT [vI (form k), vI 0] ∧ h = h))) := fun k0 k1 k2 k3 k4 => by
  have hf : form k = if k ≤ 15 then 3 else if k ≤ 20 then 5 else if k = 25 then 1 else 6 := by
   unfold form; rw [if_neg k0, if_neg k1, if_neg (by omega)]
  refine br_split (fun g => ?_) fun g => br_split (fun g2 => ?_) fun g2 => br_split (fun g3 => ?_) fun g3 => ?_
  · have g := of_decide_eq_true g
    exact key 3 (by rw [hf, if_pos (by omega)]) _ rfl
  · have g := of_decide_eq_false g
    have g2 := of_decide_eq_true g2
    exact key 5 (by rw [hf, if_neg (by omega), if_pos (by omega)]) _ rfl
  · have g := of_decide_eq_false g
    have g2 := of_decide_eq_false g2
    exact key 1 (by rw [hf, if_neg (by omega), if_neg (by omega), if_pos ((eqk 25 _ g3).2 rfl)]) _ rfl
  · have g := of_decide_eq_false g
    have g2 := of_decide_eq_false g2
    have n25 : k ≠ 25 := fun hh => by have := (eqk 25 _ g3).1 hh; cases this
    exact key 6 (by rw [hf, if_neg (by omega), if_neg (by omega), if_neg n25]) _ rfl
 refine br_split (fun g0 => ?_) fun g0 => br_split (fun g1 => ?_) fun g1 => br_split (fun g2 => ?_) fun g2 => br_split (fun g3 => ?_) fun g3 => ?_
 · exact key 0 (by rw [(eqk 0 _ g0).2 rfl]; rfl) _ rfl
 · exact key 2 (by rw [(eqk 1 _ g1).2 rfl]; rfl) _ rfl
 · exact key 4 (by rw [(eqk 2 _ g2).2 rfl]; rfl) _ rfl
 · exact key 4 (by rw [(eqk 3 _ g3).2 rfl]; rfl) _ rfl
 · have n0 : k ≠ 0 := fun hh => by have := (eqk 0 _ g0).1 hh; cases this
   have n1 : k ≠ 1 := fun hh => by have := (eqk 1 _ g1).1 hh; cases this
   have n2 : k ≠ 2 := fun hh => by have := (eqk 2 _ g2).1 hh; cases this
   have n3 : k ≠ 3 := fun hh => by have := (eqk 3 _ g3).1 hh; cases this
   refine br_split (fun g => br_split (fun g' => ?_) fun g' => ?_) fun g => ?_
   · have g := of_decide_eq_true g
     have g' := of_decide_eq_true g'
     exact key 4 (by unfold form; rw [if_neg n0, if_neg n1, if_pos (by omega)]) _ rfl
   · have g' := of_decide_eq_false g'
     exact tl n0 n1 n2 n3 (by omega)
   · have g := of_decide_eq_false g
     exact tl n0 n1 n2 n3 (by omega)
theorem rhasA_t (f : Nat) : Tri Tryz.prog 64 [vI (f : Int)] h fun v h' => v = vB (hasA f) ∧ h' = h := by
 refine T64 ?_
 unfold R64 hasA
 refine br_split (fun e => ⟨?_, rfl⟩) fun e => ⟨?_, rfl⟩
 · have e := of_decide_eq_true e
   congr 1; rw [Bool.eq_iff_iff]; simp; omega
 · have e := of_decide_eq_false e
   congr 1; rw [Bool.eq_iff_iff]; simp; omega
theorem rhasB_t (f : Nat) : Tri Tryz.prog 65 [vI (f : Int)] h fun v h' => v = vB (hasB f) ∧ h' = h := by
 refine T65 ?_
 unfold R65 hasB
 refine br_split (fun e => ⟨?_, rfl⟩) fun e => br_split (fun e' => ⟨?_, rfl⟩) fun e' => ⟨?_, rfl⟩
 all_goals congr 1; rw [Bool.eq_iff_iff]; simp at *; omega
theorem rhasC_t (f : Nat) : Tri Tryz.prog 66 [vI (f : Int)] h fun v h' => v = vB (hasC f) ∧ h' = h := by
 refine T66 ?_
 unfold R66 hasC
 refine ⟨?_, rfl⟩
 congr 1; rw [Bool.eq_iff_iff]; simp; omega
theorem rlimits_t {k : Nat} (hk : k < 27) (hf : 4 ≤ form k) : Tri Tryz.prog 67 [vI (k : Int)] h fun v h' => v = vT [vI (limits k).1, vI (limits k).2, vI 0] ∧ h' = h := by
 refine T67 ?_
 unfold R67
 refine Tri.mono (rform_t (k : Int)) ?_
 rintro _ h1 ⟨rfl, rfl⟩
 rw [if_pos (by omega), Int.toNat_natCast]
 refine ⟨_, _, rfl, br_neg rfl (br_neg (decide_eq_false (by omega)) ?_)⟩
 have eqk : ∀ (n : Nat) (b : Bool), (((k : Nat) : Int) == (n : Int)) = b → (k = n ↔ b = true) := fun n b hb => by rw [← hb]; simp; omega
 unfold limits
 refine br_split (fun g => ?_) fun g => br_split (fun g2 => ?_) fun g2 => br_split (fun g3 => ?_) fun g3 => ?_
 · rw [if_pos ((eqk 3 _ g).2 rfl)]; exact ⟨rfl, rfl⟩
 · have n3 : k ≠ 3 := fun hh => by have := (eqk 3 _ g).1 hh; cases this
   rw [if_neg n3, if_pos ((eqk 26 _ g2).2 rfl)]; exact ⟨rfl, rfl⟩
 · have n3 : k ≠ 3 := fun hh => by have := (eqk 3 _ g).1 hh; cases this
   have n26 : k ≠ 26 := fun hh => by have := (eqk 26 _ g2).1 hh; cases this
   have g3 := of_decide_eq_true g3
   rw [if_neg n3, if_neg n26, if_pos (by omega)]; exact ⟨rfl, rfl⟩
 · have n3 : k ≠ 3 := fun hh => by have := (eqk 3 _ g).1 hh; cases this
   have n26 : k ≠ 26 := fun hh => by have := (eqk 26 _ g2).1 hh; cases this
   have g3 := of_decide_eq_false g3
   rw [if_neg n3, if_neg n26, if_neg (by omega)]; exact ⟨rfl, rfl⟩
def lo33 (i2 i3 i4 i5 lo hi : Int) (h_5 : PHeap) (Q : Value → PHeap → Prop) : Prop :=
 br (decide (i2 < 0))
 (Q (vI 2) h_5)
 (br (decide (i2 > 7))
 (Q (vI 2) h_5)
 (br (decide (i3 < 0))
 (Q (vI 2) h_5)
 (br (decide (i3 > 7))
 (Q (vI 2) h_5)
 (Tri Tryz.prog 66 [vI i5] h_5 fun v_6 h_6 =>
 ∃ (c4 : Bool), v_6 = vB c4 ∧
 br c4
 (br (decide (i4 < lo))
 (Q (vI 2) h_6)
 (br (decide (i4 > hi))
 (Q (vI 2) h_6)
 (Q (vI 0) h_6)))
 (Q (vI 0) h_6)))))
def lim33 (i1 i2 i3 i4 i5 : Int) (h_4 : PHeap) (Q : Value → PHeap → Prop) : Prop :=
 br (decide (i5 ≥ 4))
 (Tri Tryz.prog 67 [vI i1] h_4 fun v_5 h_5 =>
 ∃ (i7 i8 i9 : Int), v_5 = vT [vI i7, vI i8, vI i9] ∧ lo33 i2 i3 i4 i5 i7 i8 h_5 Q)
 (lo33 i2 i3 i4 i5 0 7 h_4 Q)
def c33 (i1 i2 i3 i4 i5 : Int) (h_3 : PHeap) (Q : Value → PHeap → Prop) : Prop :=
 Tri Tryz.prog 66 [vI i5] h_3 fun v_4 h_4 =>
 ∃ (c3 : Bool), v_4 = vB c3 ∧
 br (!c3)
 (br (i4 != 0)
 (Q (vI 1) h_4)
 (lim33 i1 i2 i3 i4 i5 h_4 Q))
 (lim33 i1 i2 i3 i4 i5 h_4 Q)
def b33 (i1 i2 i3 i4 i5 : Int) (h_2 : PHeap) (Q : Value → PHeap → Prop) : Prop :=
 Tri Tryz.prog 65 [vI i5] h_2 fun v_3 h_3 =>
 ∃ (c2 : Bool), v_3 = vB c2 ∧
 br (!c2)
 (br (i3 != 0)
 (Q (vI 1) h_3)
 (c33 i1 i2 i3 i4 i5 h_3 Q))
 (c33 i1 i2 i3 i4 i5 h_3 Q)
theorem rcheck_t (x : Ins) : Tri Tryz.prog 33 [vA (insC x)] h fun v h' => v = vI (checkI x : Int) ∧ h' = h := by
 refine T33 ?_
 unfold R33
 refine Tri.mono (rform_t x.op) ?_
 rintro _ h1 ⟨rfl, rfl⟩
 by_cases hop : 0 ≤ x.op ∧ x.op ≤ 26
 rotate_left
 · rw [if_neg hop]
   refine ⟨_, _, rfl, br_pos rfl ?_⟩
   have : checkI x = 11 := by unfold checkI; rw [if_pos (by omega)]
   rw [this]; exact ⟨rfl, rfl⟩
 rw [if_pos hop]
 refine ⟨_, _, rfl, br_neg rfl ?_⟩
 obtain ⟨op, xa, xb, xc⟩ := x
 obtain ⟨k, hk⟩ : ∃ k : Nat, op = (k : Int) := ⟨op.toNat, by simp only at hop; omega⟩
 subst hk
 simp only at hop
 have hk27 : k < 27 := by omega
 show Tri Tryz.prog 64 [vI (form ((k : Int)).toNat : Nat)] h1 _
 have hck : checkI ⟨(k : Int), xa, xb, xc⟩ = if (!hasA (form k) && xa != 0) || (!hasB (form k) && xb != 0) || (!hasC (form k) && xc != 0) then 1
  else if xa < 0 ∨ 7 < xa ∨ xb < 0 ∨ 7 < xb ∨ (hasC (form k) = true ∧ (xc < (if 4 ≤ form k then limits k else (0, 7)).1 ∨ (if 4 ≤ form k then limits k else (0, 7)).2 < xc)) then 2 else 0 := by
  unfold checkI
  rw [if_neg (by simp only; omega)]
  simp only [Int.toNat_natCast]
 rw [Int.toNat_natCast]
 have lo : ∀ (lo hi : Int), (if 4 ≤ form k then limits k else (0, 7)) = (lo, hi) → ((!hasA (form k) && xa != 0) || (!hasB (form k) && xb != 0) || (!hasC (form k) && xc != 0)) = false →
  lo33 xa xb xc (form k : Nat) lo hi h1 fun v h' => v = vI (checkI ⟨(k : Int), xa, xb, xc⟩ : Int) ∧ h' = h1 := fun lo hi hlh hno => by
  rw [hno, hlh] at hck
  simp only [Bool.false_eq_true, if_false] at hck
  unfold lo33
  have two : xa < 0 ∨ 7 < xa ∨ xb < 0 ∨ 7 < xb ∨ (hasC (form k) = true ∧ (xc < lo ∨ hi < xc)) → vI 2 = vI (checkI ⟨(k : Int), xa, xb, xc⟩ : Int) := fun hh => by rw [hck, if_pos hh]; rfl
  refine br_split (fun e1 => ⟨two (.inl (of_decide_eq_true e1)), rfl⟩) fun e1 => br_split (fun e2 => ⟨two (.inr (.inl (of_decide_eq_true e2))), rfl⟩) fun e2 => br_split (fun e3 => ⟨two (.inr (.inr (.inl (of_decide_eq_true e3)))), rfl⟩) fun e3 => br_split (fun e4 => ⟨two (.inr (.inr (.inr (.inl (of_decide_eq_true e4))))), rfl⟩) fun e4 => ?_
  have e1 := of_decide_eq_false e1
  have e2 := of_decide_eq_false e2
  have e3 := of_decide_eq_false e3
  have e4 := of_decide_eq_false e4
  refine Tri.mono (rhasC_t (form k)) ?_
  rintro _ h2 ⟨rfl, rfl⟩
  refine ⟨_, rfl, br_split (fun e5 => br_split (fun e6 => ⟨two (.inr (.inr (.inr (.inr ⟨e5, .inl (of_decide_eq_true e6)⟩)))), rfl⟩) fun e6 => br_split (fun e7 => ⟨two (.inr (.inr (.inr (.inr ⟨e5, .inr (of_decide_eq_true e7)⟩)))), rfl⟩) fun e7 => ?_) fun e5 => ?_⟩
  · have e6 := of_decide_eq_false e6
    have e7 := of_decide_eq_false e7
    rw [hck, if_neg (by rintro (hh | hh | hh | hh | ⟨_, hh⟩) <;> omega)]; exact ⟨rfl, rfl⟩
  · rw [hck, if_neg (by rintro (hh | hh | hh | hh | ⟨hh, _⟩); omega; omega; omega; omega; rw [e5] at hh; cases hh)]; exact ⟨rfl, rfl⟩
 have lim : ((!hasA (form k) && xa != 0) || (!hasB (form k) && xb != 0) || (!hasC (form k) && xc != 0)) = false →
  lim33 (k : Int) xa xb xc (form k : Nat) h1 fun v h' => v = vI (checkI ⟨(k : Int), xa, xb, xc⟩ : Int) ∧ h' = h1 := fun hno => by
  unfold lim33
  refine br_split (fun e => ?_) fun e => ?_
  · have e := of_decide_eq_true e
    refine Tri.mono (rlimits_t hk27 (by omega)) ?_
    rintro _ h2 ⟨rfl, rfl⟩
    exact ⟨_, _, _, rfl, lo _ _ (by rw [if_pos (by omega)]) hno⟩
  · have e := of_decide_eq_false e
    exact lo 0 7 (by rw [if_neg (by omega)]) hno
 have one : ((!hasA (form k) && xa != 0) || (!hasB (form k) && xb != 0) || (!hasC (form k) && xc != 0)) = true → vI 1 = vI (checkI ⟨(k : Int), xa, xb, xc⟩ : Int) ∧ h1 = h1 := fun hh => ⟨by rw [hck, if_pos hh]; rfl, rfl⟩
 have cc : ((!hasA (form k) && xa != 0) || (!hasB (form k) && xb != 0)) = false → c33 (k : Int) xa xb xc (form k : Nat) h1 fun v h' => v = vI (checkI ⟨(k : Int), xa, xb, xc⟩ : Int) ∧ h' = h1 := fun hno => by
  unfold c33
  refine Tri.mono (rhasC_t (form k)) ?_
  rintro _ h2 ⟨rfl, rfl⟩
  refine ⟨_, rfl, br_split (fun e => br_split (fun e' => one (by rw [e, e']; simp)) fun e' => lim (by rw [hno, e']; simp)) fun e => lim (by rw [hno, e]; rfl)⟩
 have bb : (!hasA (form k) && xa != 0) = false → b33 (k : Int) xa xb xc (form k : Nat) h1 fun v h' => v = vI (checkI ⟨(k : Int), xa, xb, xc⟩ : Int) ∧ h' = h1 := fun hno => by
  unfold b33
  refine Tri.mono (rhasB_t (form k)) ?_
  rintro _ h2 ⟨rfl, rfl⟩
  refine ⟨_, rfl, br_split (fun e => br_split (fun e' => one (by rw [e, e']; simp)) fun e' => cc (by rw [hno, e']; simp)) fun e => cc (by rw [hno, e]; rfl)⟩
 refine Tri.mono (rhasA_t (form k)) ?_
 rintro _ h2 ⟨rfl, rfl⟩
 refine ⟨_, rfl, br_split (fun e => br_split (fun e' => one (by rw [e, e']; simp)) fun e' => bb (by rw [e']; simp)) fun e => bb (by rw [e]; rfl)⟩
end
end Go.Proofs.D
namespace Go.Proofs.D
open Go Go.Den
set_option maxRecDepth 100000
set_option maxHeartbeats 4000000
noncomputable def d106 : DCode := up ⟨[], [], []⟩ (low Tryz.prog (fun _ => false) (Tryz.f106.body.getD .skip))
theorem low106 : low Tryz.prog (fun _ => false) (Tryz.f106.body.getD .skip) = some (eC d106) := by kernel_rfl
def R106 (h : PHeap) (Q : Value → PHeap → Prop) : Prop :=
 ∀ (b1 : Nat), h b1 = none → ∀ (h_1 : PHeap), h_1 = h.put b1 (.cells ⟨[vS [104, 97, 108, 116], vS [109, 111, 118, 101], vS [115, 101, 116], vS [104, 105, 103, 104], vS [97, 100, 100], vS [115, 117, 98], vS [109, 117, 108], vS [100, 105, 118], vS [109, 111, 100], vS [97, 110, 100], vS [111, 114], vS [120, 111, 114], vS [115, 104, 108], vS [115, 104, 114], vS [108, 101, 115, 115], vS [101, 113, 117, 97, 108], vS [97, 100, 100, 105], vS [108, 111, 97, 100], vS [115, 116, 111, 114, 101], vS [108, 111, 97, 100, 98], vS [115, 116, 111, 114, 101, 98], vS [106, 117, 109, 112], vS [106, 117, 109, 112, 122], vS [106, 117, 109, 112, 110, 122], vS [99, 97, 108, 108], vS [98, 97, 99, 107], vS [116, 114, 97, 112]]⟩ 9) →
 Q (vL (ad b1 0) 27 27) h_1
theorem T106 {h : PHeap} {Q : Value → PHeap → Prop} (hR : R106  h Q) : Tri Tryz.prog 106 [] h Q :=
 tri_of_dn mixed Tryz.func106 rfl (by kernel_rfl) low106 (rs := [.tmp 0]) (by kernel_rfl) rfl (Eq.mpr (by kernel_rfl : dnF Tryz.prog Tryz.f106.ntmps d106 [.tmp 0] [] h Q = R106  h Q) hR)
end Go.Proofs.D
namespace Go.Proofs.D
open Go Go.Den Go.As
set_option maxRecDepth 100000
theorem word_cell (k : Nat) (hk : k < 27) : (wordsB.map vS)[k]? = some (vS (wordT k)) := by
 rw [List.getElem?_map]
 have : k < wordsB.length := hk
 rw [List.getElem?_eq_getElem this]
 unfold wordT
 rw [List.getD_eq_getElem?_getD, List.getElem?_eq_getElem this]; rfl
attribute [local irreducible] IntKind.wrap Tri
section
variable {h : PHeap}
theorem decI_t (n : Int) (h1 : -1000000000 ≤ n) (h2 : n ≤ 1000000000) : Tri Tryz.prog 18 [vI n] h fun v h' => v = vS (decI n) ∧ h' = h := by
 by_cases hn : n < 0
 · refine T18 ?_
   unfold R18
   refine br_pos (decide_eq_true hn) ?_
   have hw : IntKind.i64.wrap (0 - n) = ((n.natAbs : Nat) : Int) := by rw [wrap64 (by omega) (by omega)]; omega
   rw [hw]
   refine Tri.mono (decimal_t n.natAbs (by omega)) ?_
   rintro _ h1 ⟨rfl, rfl⟩
   have := digs_len 12 n.natAbs (by omega)
   refine ⟨_, rfl, by rw [List.length_singleton]; omega, ?_, rfl⟩
   unfold decI; rw [if_pos hn]; rfl
 · have := decimal_t n.toNat (by omega) (h := h)
   rw [show ((n.toNat : Nat) : Int) = n by omega] at this
   unfold decI
   rw [if_neg hn]
   exact this
theorem rword_t {k : Nat} (hk : k < 27) : Tri Tryz.prog 68 [vI (k : Int)] h fun v h' => v = vS (wordT k) ∧ Ext h h' := by
 refine T68 ?_
 unfold R68
 refine br_neg (decide_eq_false (by omega)) (br_neg (decide_eq_false (by omega)) ?_)
 refine T106 ?_
 unfold R106
 intro b1 hb1 h1 hh1
 refine ⟨_, _, _, rfl, b1, 0, rfl, ⟨by omega, by omega⟩, _, ?_, rfl, Put.ext hh1 hb1⟩
 rw [Int.toNat_natCast, Nat.zero_add, Nat.mul_one, cell_of (Put.at hh1)]
 exact word_cell k hk
theorem rline_t {x : Ins} (e : checkI x = 0) : Tri Tryz.prog 34 [vA (insC x)] h fun v h' => v = vS (lineT x) ∧ Ext h h' := by
 refine T34 ?_
 unfold R34
 have hok := ins_ok e
 have hll := line_len e
 obtain ⟨op, xa, xb, xc⟩ := x
 obtain ⟨k, hk⟩ : ∃ k : Nat, op = (k : Int) := ⟨op.toNat, by have := hok.op; simp only at this; omega⟩
 subst hk
 have hk27 : k < 27 := by have := hok.op; simp only at this; omega
 have ha := hok.a
 have hb := hok.b
 have hc : -100000 ≤ xc ∧ xc ≤ 100000 := by
  have h3 := hok.c3
  have h4 := hok.c4
  have h0 := hok.c0
  have hlim := limits_small k
  simp only [Int.toNat_natCast] at h3 h4 h0
  by_cases f3 : form k = 3
  · have := h3 f3; omega
  by_cases f4 : 4 ≤ form k
  · have := h4 f4; omega
  · have : xc = 0 := h0 (by unfold hasC; have := form_le k; simp; omega)
    omega
 simp only at ha hb
 have la := regT_len ha
 have lb := regT_len hb
 have lc : (decI xc).length ≤ 11 := decI_len (by omega) (by omega)
 have wl : (wordT k).length ≤ 6 := (word_all ⟨k, hk27⟩).2.2.2
 refine Tri.mono (rform_t (k : Int)) ?_
 rintro _ h1 ⟨rfl, rfl⟩
 rw [if_pos (by omega), Int.toNat_natCast]
 refine ⟨_, _, rfl, ?_⟩
 refine Tri.mono (rword_t hk27) ?_
 rintro _ h2 ⟨rfl, x2⟩
 refine ⟨_, rfl, ?_⟩
 refine Tri.mono (decI_t xa (by omega) (by omega)) ?_
 rintro _ h3 ⟨rfl, rfl⟩
 refine ⟨_, rfl, rfl, rfl, by rw [List.length_singleton]; omega, ?_⟩
 refine Tri.mono (decI_t xb (by omega) (by omega)) ?_
 rintro _ h3 ⟨rfl, rfl⟩
 refine ⟨_, rfl, rfl, by rw [List.length_singleton]; omega, ?_⟩
 refine Tri.mono (decI_t xc (by omega) (by omega)) ?_
 rintro _ h3 ⟨rfl, rfl⟩
 refine ⟨_, rfl, by rw [List.length_singleton]; omega, ?_⟩
 refine Tri.mono (decI_t xc (by omega) (by omega)) ?_
 rintro _ h3 ⟨rfl, rfl⟩
 refine ⟨_, rfl, ?_⟩
 iterate 18 (refine ⟨by simp only [List.length_append, List.length_cons, List.length_nil]; omega, ?_⟩)
 intro b1 hb1 h4 hh4
 have x4 := Put.ext hh4 hb1
 have f6 := form_le k
 have hlt : lineT ⟨(k : Int), xa, xb, xc⟩ = stmtT (wordT k) (operT ⟨(k : Int), xa, xb, xc⟩) := by unfold lineT; rw [Int.toNat_natCast]
 refine ⟨b1, 0, rfl, ⟨by omega, by omega⟩, ?_⟩
 rw [Int.toNat_natCast, Nat.zero_add, Nat.mul_one, cell_of (Put.at hh4)]
 have hop : operT ⟨(k : Int), xa, xb, xc⟩ = operT ⟨((k : Nat) : Int), xa, xb, xc⟩ := rfl
 unfold operT at hlt
 rw [Int.toNat_natCast] at hlt
 have fin : ∀ l6 : Bytes, lineT ⟨(k : Int), xa, xb, xc⟩ = wordT k ++ l6 → (wordT k).length + l6.length ≤ 9223372036854775807 ∧ vS (wordT k ++ l6) = vS (lineT ⟨(k : Int), xa, xb, xc⟩) ∧ Ext h1 h4 := fun l6 hl6 => by
  refine ⟨?_, by rw [hl6], x2.trans x4⟩
  have := congrArg List.length hl6
  rw [List.length_append] at this
  omega
 generalize form k = f at *
 match f, f6 with
 | 0, _ => exact ⟨_, rfl, fin _ (by rw [hlt]; simp [stmtT])⟩
 | 1, _ => exact ⟨_, rfl, fin _ (by rw [hlt]; simp [stmtT, commaT, regT])⟩
 | 2, _ => exact ⟨_, rfl, fin _ (by rw [hlt]; simp [stmtT, commaT, regT])⟩
 | 3, _ => exact ⟨_, rfl, fin _ (by rw [hlt]; simp [stmtT, commaT, regT])⟩
 | 4, _ => exact ⟨_, rfl, fin _ (by rw [hlt]; simp [stmtT, commaT, regT])⟩
 | 5, _ => exact ⟨_, rfl, fin _ (by rw [hlt]; simp [stmtT, commaT, regT])⟩
 | 6, _ => exact ⟨_, rfl, fin _ (by rw [hlt]; simp [stmtT, commaT, regT])⟩
 | n + 7, hh => omega
end
theorem lines_tri {h : PHeap} (hO : OpTab h) (hM : MaxLen h) (hP : PowTab h) (x : Ins) : Tri Tryz.prog 10 [vA (insC x)] h fun v h' => v = vB true ∧ ∀ k o, h k = some o → h' k = some o := by
 refine T10 ?_
 unfold R10
 refine Tri.mono (line32_t hO hP x) ?_
 rintro _ h1 ⟨rfl, x1⟩
 have kn : Tri Tryz.prog 15 [] h1 fun v h' => v = vB true ∧ Ext h1 h' := known_t (hO.ext x1) (hM.ext x1)
 by_cases e : checkI x = 0
 · refine ⟨lineT x, 0, by unfold lineV; rw [if_neg (by simp [e])], ?_⟩
   refine Tri.mono kn ?_
   rintro _ h2 ⟨rfl, x2⟩
   have x12 := x1.trans x2
   refine ⟨_, rfl, br_neg rfl ?_⟩
   refine Tri.mono (rcheck_t x) ?_
   rintro _ h3 ⟨rfl, rfl⟩
   rw [e]
   refine ⟨_, rfl, br_neg rfl (br_neg rfl ?_)⟩
   refine Tri.mono (asm_t (lineT x) (hO.ext x12) (hM.ext x12)) ?_
   rintro v h4 ⟨x4, hr⟩
   rw [line_back e] at hr
   obtain ⟨a1, k1, a2, k2, rfl, hI, hL, _, _⟩ := hr
   refine ⟨_, _, _, _, _, _, _, _, _, _, _, rfl, ?_⟩
   refine Tri.mono (rline_t e) ?_
   rintro _ h5 ⟨rfl, x5⟩
   obtain ⟨b, o, ha, hrow⟩ := (hI.ext x5).get (j := 0) rfl
   rw [Nat.zero_mul, Nat.add_zero] at hrow
   exact ⟨_, rfl, br_pos (by simp) (br_pos rfl (br_pos rfl ⟨b, o, ha, (by show 0 ≤ (0 : Int) ∧ (0 : Int) < ((1 : Nat) : Int); decide), _, _, _, _, hrow, true, by
    have := pure_eql (ρ := rho [(59, vA (insC x)), (60, vA (insC x))]) (x := .tmp 59) (y := .tmp 60) (t' := 58) (ty := 4) (b := decide (x = x)) (xs := insC x) (ys := insC x) rfl rfl (by kernel_rfl) (eq_ins x x)
    rw [decide_eq_true rfl] at this
    exact this, rfl, (x12.trans x4).trans x5⟩))⟩
 · refine ⟨[], (checkI x : Int), by unfold lineV; rw [if_pos e], ?_⟩
   refine Tri.mono kn ?_
   rintro _ h2 ⟨rfl, x2⟩
   refine ⟨_, rfl, br_neg rfl ?_⟩
   refine Tri.mono (rcheck_t x) ?_
   rintro _ h3 ⟨rfl, rfl⟩
   exact ⟨_, rfl, br_neg (by simp) (br_pos (by simp; omega) ⟨rfl, x1.trans x2⟩)⟩
end Go.Proofs.D
namespace Go.Fr
open Go Go.Den Go.ChangeShapes Go.WideShapes Go.RowKit Go.As Go.Proofs Go.ChangeAt Go.Joins
set_option maxRecDepth 100000
theorem pow_all {W : World} {rest : List (String × DataW Unit)} (h : laidMet Tryz.prog (("internal/strconv.uint64pow10", YteegmpghbhmekaaGreatDoor.Rows.laid_internal_strconv_uint64pow10) :: rest) W) : Go.Proofs.D.PowTab (all W) := by
 rw [show (YteegmpghbhmekaaGreatDoor.Rows.laid_internal_strconv_uint64pow10 : DataW Unit) = Lib.tabData .u64 Lib.pow10Tab by kernel_rfl] at h
 have h := Lib.tabIs_of_head (g := 2) (t := 217) (e := 178) (n := 20) (by kernel_rfl) (by kernel_rfl) (by kernel_rfl) (by kernel_rfl) (by kernel_rfl) (by kernel_rfl) h
 unfold Lib.TabIs World.var? at h
 rw [show Tryz.prog.globalNamed "internal/strconv.uint64pow10" = some 2 by kernel_rfl] at h
 simp only [Option.bind_some] at h
 unfold Go.Proofs.D.PowTab all
 cases hb : W.heap[2]? with
 | none => rw [hb] at h; simp at h
 | some o =>
   rw [hb] at h
   cases o with
   | cells c t z =>
     simp only [Option.some.injEq] at h
     exact ⟨t, z, by rw [h]⟩
   | _ => simp at h
section
variable {H : Type} {enc : TypeId × Value → H}
def insD (x : Ins) : DataW H := .agg [.lit (.int .i64 x.op), .lit (.int .i64 x.a), .lit (.int .i64 x.b), .lit (.int .i64 x.c)]
structure InsWf (x : Ins) : Prop where
 op : (Lit.int .i64 x.op).wf = true
 a : (Lit.int .i64 x.a).wf = true
 b : (Lit.int .i64 x.b).wf = true
 c : (Lit.int .i64 x.c).wf = true
theorem open_ins {W : World} {base : Nat} {r : Reach} {sp : Nat → Bool} {held : Bool} {v : Value} {d : DataW H} {p : List MemPlace} {b0 : Nat} (hv : Value.okWide Tryz.prog W r base 57 v) (h : DataW.Trod enc Tryz.prog W b0 sp held 57 v d p) :
 ∃ x : Ins, v = vA (Go.Proofs.D.insC x) ∧ d = insD x ∧ p = [] ∧ InsWf x := by
 have c3 : Tryz.prog.cellsOf 3 = 1 := by kernel_rfl
 have c57 : Tryz.prog.cellsOf 57 = 4 := by kernel_rfl
 obtain ⟨cs, rfl, hsz⟩ := okWide_struct Tryz.underlying57 hv
 obtain ⟨x0, x1, x2, x3, rfl⟩ := array4 (hsz.trans c57)
 obtain ⟨fuel, hf⟩ := h
 obtain ⟨y0, y1, y2, y3, n, hx, _, h0, h1, h2, h3⟩ := trod_struct4 Tryz.underlying57 hf
 simp only [c3] at h0 h1 h2 h3
 obtain ⟨n0, e0, rfl, w0⟩ := DataW.trod_int Tryz.underlying3 h0
 obtain ⟨n1, e1, rfl, w1⟩ := DataW.trod_int Tryz.underlying3 h1
 obtain ⟨n2, e2, rfl, w2⟩ := DataW.trod_int Tryz.underlying3 h2
 obtain ⟨n3, e3, rfl, w3⟩ := DataW.trod_int Tryz.underlying3 h3
 simp only [Value.cells, List.drop_zero, List.drop_succ_cons, List.take_succ_cons, List.take_zero, List.cons.injEq, and_true] at e0 e1 e2 e3
 subst e0; subst e1; subst e2; subst e3
 simp only [Prod.mk.injEq, List.append_nil] at hx
 exact ⟨⟨n0, n1, n2, n3⟩, rfl, hx.1, hx.2, w0, w1, w2, w3⟩
theorem shut_ins {W : World} {sp : Nat → Bool} {held : Bool} {b0 : Nat} {x : Ins} (hw : InsWf x) : DataW.Trod enc Tryz.prog W b0 sp held 57 (vA (Go.Proofs.D.insC x)) (insD x) [] := by
 have c3 : Tryz.prog.cellsOf 3 = 1 := by kernel_rfl
 have c57 : Tryz.prog.cellsOf 57 = 4 := by kernel_rfl
 have i : ∀ n : Int, (Lit.int .i64 n).wf = true → DataW.trod enc Tryz.prog W b0 sp held 1 3 [vI n] = some (.lit (.int .i64 n), []) := fun n hn => by
  simp [DataW.trod, Tryz.underlying3, hn]
 refine ⟨2, ?_⟩
 have := trod_struct4_mk (enc := enc) (w := W) (base := b0) (spare := sp) (held := held) (n := 1) (cs := Go.Proofs.D.insC x) Tryz.underlying57 (by rw [c57]; rfl) (y0 := (.lit (.int .i64 x.op), [])) (y1 := (.lit (.int .i64 x.a), [])) (y2 := (.lit (.int .i64 x.b), [])) (y3 := (.lit (.int .i64 x.c), []))
  (by rw [c3]; exact i x.op hw.op) (by rw [c3]; exact i x.a hw.a) (by rw [c3]; exact i x.b hw.b) (by rw [c3]; exact i x.c hw.c)
 exact this
end
end Go.Fr
