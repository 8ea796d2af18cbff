import Derived.Test.YteegmpghbhmekaaGreatDoorB7
import Derived.Laws.StructEq
namespace Go.Proofs.D
open Go Go.Den
set_option maxRecDepth 100000
set_option maxHeartbeats 4000000
abbrev emk1 : List CK := [qi, qi, qi, qi]
abbrev emk2 : List CK := [.slice, .str, qi, qi, .slice]
abbrev o57_2 : Op := .binOp .neq 58 (.tmp 19) (.tmp 23) 58
noncomputable def d57 : DCode := up ⟨[(19, .l emk1), (23, .l emk1), (24, .c (.one false [.bool]))], [], [(14, 15, [(13, qi)], [])]⟩ (low Tryz.prog (fun _ => false) (Tryz.f57.body.getD .skip))
theorem low57 : low Tryz.prog (fun _ => false) (Tryz.f57.body.getD .skip) = some (eC d57) := by kernel_rfl
def R57 (a1 : OA) (n1 : Nat) (emk1 : Nat) (a2 : OA) (n2 : Nat) (emk2 : Nat) (h : PHeap) (Q : Value → PHeap → Prop) : Prop :=
 br (((n1 : Nat) : Int) != ((n2 : Nat) : Int))
 (Q (vB false) h)
 (∃ (I_1 : Nat → Int → PHeap → Prop), (∃ (m2 : Nat), I_1 m2 (0 : Int) h) ∧
 ∀ (m1 : Nat) (i1 : Int) (h_1 : PHeap), I_1 m1 i1 h_1 →
 br (decide (i1 < ((n1 : Nat) : Int)))
 (∃ (b1 o1 : Nat), a1 = some ⟨b1, o1, none⟩ ∧ (0 ≤ i1 ∧ i1 < n1) ∧
 ∃ (i2 i3 i4 i5 : Int), h_1.row b1 (o1 + (i1).toNat * 4) [vI i2, vI i3, vI i4, vI i5] ∧
 ∃ (b2 o2 : Nat), a2 = some ⟨b2, o2, none⟩ ∧ (0 ≤ i1 ∧ i1 < n2) ∧
 ∃ (i6 i7 i8 i9 : Int), h_1.row b2 (o2 + (i1).toNat * 4) [vI i6, vI i7, vI i8, vI i9] ∧
 ∃ (c1 : Bool), PureRun Tryz.prog (execOp (rho [(19, vA [vI i2, vI i3, vI i4, vI i5]), (23, vA [vI i6, vI i7, vI i8, vI i9])]) (mkO o57_2 4)) (vB c1) ∧
 br c1
 (Q (vB false) h_1)
 (∃ (m3 : Nat), m3 < m1 ∧ I_1 m3 (IntKind.i64.wrap (i1 + 1)) h_1 ∧
 True))
 (Q (vB true) h_1))
theorem T57 {a1 : OA} {n1 : Nat} {emk1 : Nat} {a2 : OA} {n2 : Nat} {emk2 : Nat} {h : PHeap} {Q : Value → PHeap → Prop} (hR : R57 a1 n1 emk1 a2 n2 emk2 h Q) : Tri Tryz.prog 57 [vL a1 n1 emk1, vL a2 n2 emk2] h Q :=
 tri_of_dn mixed Tryz.func57 rfl (by kernel_rfl) low57 (rs := [.tmp 4]) (by kernel_rfl) rfl (Eq.mpr (by kernel_rfl : dnF Tryz.prog Tryz.f57.ntmps d57 [.tmp 4] [vL a1 n1 emk1, vL a2 n2 emk2] h Q = R57 a1 n1 emk1 a2 n2 emk2 h Q) hR)
abbrev o58_2 : Op := .binOp .neq 80 (.tmp 19) (.tmp 23) 80
noncomputable def d58 : DCode := up ⟨[(19, .l [.str, .bool, qi]), (23, .l [.str, .bool, qi]), (24, .c (.one false [.bool]))], [], [(14, 15, [(13, qi)], [])]⟩ (low Tryz.prog (fun _ => false) (Tryz.f58.body.getD .skip))
theorem low58 : low Tryz.prog (fun _ => false) (Tryz.f58.body.getD .skip) = some (eC d58) := by kernel_rfl
def R58 (a1 : OA) (n1 : Nat) (emk1 : Nat) (a2 : OA) (n2 : Nat) (emk2 : Nat) (h : PHeap) (Q : Value → PHeap → Prop) : Prop :=
 br (((n1 : Nat) : Int) != ((n2 : Nat) : Int))
 (Q (vB false) h)
 (∃ (I_1 : Nat → Int → PHeap → Prop), (∃ (m2 : Nat), I_1 m2 (0 : Int) h) ∧
 ∀ (m1 : Nat) (i1 : Int) (h_1 : PHeap), I_1 m1 i1 h_1 →
 br (decide (i1 < ((n1 : Nat) : Int)))
 (∃ (b1 o1 : Nat), a1 = some ⟨b1, o1, none⟩ ∧ (0 ≤ i1 ∧ i1 < n1) ∧
 ∃ (l1 : Bs) (c1 : Bool) (i2 : Int), h_1.row b1 (o1 + (i1).toNat * 3) [vS l1, vB c1, vI i2] ∧
 ∃ (b2 o2 : Nat), a2 = some ⟨b2, o2, none⟩ ∧ (0 ≤ i1 ∧ i1 < n2) ∧
 ∃ (l2 : Bs) (c2 : Bool) (i3 : Int), h_1.row b2 (o2 + (i1).toNat * 3) [vS l2, vB c2, vI i3] ∧
 ∃ (c3 : Bool), PureRun Tryz.prog (execOp (rho [(19, vA [vS l1, vB c1, vI i2]), (23, vA [vS l2, vB c2, vI i3])]) (mkO o58_2 4)) (vB c3) ∧
 br c3
 (Q (vB false) h_1)
 (∃ (m3 : Nat), m3 < m1 ∧ I_1 m3 (IntKind.i64.wrap (i1 + 1)) h_1 ∧
 True))
 (Q (vB true) h_1))
theorem T58 {a1 : OA} {n1 : Nat} {emk1 : Nat} {a2 : OA} {n2 : Nat} {emk2 : Nat} {h : PHeap} {Q : Value → PHeap → Prop} (hR : R58 a1 n1 emk1 a2 n2 emk2 h Q) : Tri Tryz.prog 58 [vL a1 n1 emk1, vL a2 n2 emk2] h Q :=
 tri_of_dn mixed Tryz.func58 rfl (by kernel_rfl) low58 (rs := [.tmp 4]) (by kernel_rfl) rfl (Eq.mpr (by kernel_rfl : dnF Tryz.prog Tryz.f58.ntmps d58 [.tmp 4] [vL a1 n1 emk1, vL a2 n2 emk2] h Q = R58 a1 n1 emk1 a2 n2 emk2 h Q) hR)
noncomputable def d29 : DCode := up ⟨[(6, .l [.slice]), (8, .l [.slice]), (9, .c (.one false [.bool])), (12, .l [.str]), (14, .l [.str]), (19, .l [qi]), (21, .l [qi]), (26, .l [qi]), (28, .l [qi]), (33, .l [.slice]), (35, .l [.slice]), (36, .c (.one false [.bool]))], [], []⟩ (low Tryz.prog (fun _ => false) (Tryz.f29.body.getD .skip))
theorem low29 : low Tryz.prog (fun _ => false) (Tryz.f29.body.getD .skip) = some (eC d29) := by kernel_rfl
def R29 (a1 : OA) (n1 : Nat) (emk1 : Nat) (l1 : Bs) (i1 : Int) (i2 : Int) (a2 : OA) (n2 : Nat) (emk2 : Nat) (a3 : OA) (n3 : Nat) (k3 : Nat) (l2 : Bs) (i3 : Int) (i4 : Int) (a4 : OA) (n4 : Nat) (k4 : Nat) (h : PHeap) (Q : Value → PHeap → Prop) : Prop :=
 Tri Tryz.prog 57 [vL a1 n1 emk1, vL a3 n3 k3] h fun v_1 h_1 =>
 ∃ (c1 : Bool), v_1 = vB c1 ∧
 br c1
 (br (l1 == l2)
 (br (i1 == i3)
 (br (i2 == i4)
 (Tri Tryz.prog 58 [vL a2 n2 emk2, vL a4 n4 k4] h_1 fun v_2 h_2 =>
 ∃ (c2 : Bool), v_2 = vB c2 ∧
 Q (vB c2) h_2)
 (Q (vB false) h_1))
 (Q (vB false) h_1))
 (Q (vB false) h_1))
 (Q (vB false) h_1)
theorem T29 {a1 : OA} {n1 : Nat} {emk1 : Nat} {l1 : Bs} {i1 : Int} {i2 : Int} {a2 : OA} {n2 : Nat} {emk2 : Nat} {a3 : OA} {n3 : Nat} {k3 : Nat} {l2 : Bs} {i3 : Int} {i4 : Int} {a4 : OA} {n4 : Nat} {k4 : Nat} {h : PHeap} {Q : Value → PHeap → Prop} (hR : R29 a1 n1 emk1 l1 i1 i2 a2 n2 emk2 a3 n3 k3 l2 i3 i4 a4 n4 k4 h Q) : Tri Tryz.prog 29 [vA [vL a1 n1 emk1, vS l1, vI i1, vI i2, vL a2 n2 emk2], vA [vL a3 n3 k3, vS l2, vI i3, vI i4, vL a4 n4 k4]] h Q :=
 tri_of_dn mixed Tryz.func29 rfl (by kernel_rfl) low29 (rs := [.tmp 4]) (by kernel_rfl) rfl (Eq.mpr (by kernel_rfl : dnF Tryz.prog Tryz.f29.ntmps d29 [.tmp 4] [vA [vL a1 n1 emk1, vS l1, vI i1, vI i2, vL a2 n2 emk2], vA [vL a3 n3 k3, vS l2, vI i3, vI i4, vL a4 n4 k4]] h Q = R29 a1 n1 emk1 l1 i1 i2 a2 n2 emk2 a3 n3 k3 l2 i3 i4 a4 n4 k4 h Q) hR)
abbrev o7_0 : Op := .call { callee := (.builtin .min), args := #[(.tmp 16), (.const (vI 1500))], argTypes := #[3, 3] }
noncomputable def d7 : DCode := up ⟨[(17, .c (.one false [qi])), (23, .l [.str]), (40, .c (.one false [.bool])), (58, .c (.tup [(true, emk2), (false, [qi]), (false, [qi])])), (68, .c (.tup [(true, emk2), (false, [qi]), (false, [qi])])), (72, .c (.one false [.bool])), (84, .l emk2), (85, .l emk2), (86, .c (.one false [.bool]))], [], [(24, 35, [(5, .str), (7, qi)], [])]⟩ (low Tryz.prog (fun _ => false) (Tryz.f7.body.getD .skip))
theorem low7 : low Tryz.prog (fun _ => false) (Tryz.f7.body.getD .skip) = some (eC d7) := by kernel_rfl
def R7 (l1 : Bs) (i1 : Int) (h : PHeap) (Q : Value → PHeap → Prop) : Prop :=
 ∃ (i2 : Int), PureRun Tryz.prog (execOp (rho [(16, vI (l1.length : Int))]) (mkO o7_0 3)) (vI i2) ∧
 (0 ≤ (0 : Int) ∧ (0 : Int) ≤ i2 ∧ i2 ≤ (l1.length : Int)) ∧
 ∀ (b1 : Nat), h b1 = none → ∀ (h_1 : PHeap), h_1 = h.put b1 (.cells ⟨[vS [32], vS [9, 59, 32, 120, 58, 32, 34], vS [32, 32, 9], vS [59, 44, 58]]⟩ 9) →
 ∃ (b2 o1 : Nat), (ad b1 0) = some ⟨b2, o1, none⟩ ∧ (0 ≤ (Int.tmod i1 4) ∧ (Int.tmod i1 4) < (4 : Nat)) ∧
 ∃ (l2 : Bs), h_1.cell b2 (o1 + (Int.tmod i1 4).toNat * 1) = some (vS l2) ∧
 ∃ (I_1 : Nat → Bs → Int → PHeap → Prop), (∃ (m2 : Nat), I_1 m2 [] (0 : Int) h_1) ∧
 ∀ (m1 : Nat) (l3 : Bs) (i3 : Int) (h_2 : PHeap), I_1 m1 l3 i3 h_2 →
 br (decide (i3 < ((((l1.drop 0).take ((i2).toNat - 0))).length : Int)))
 (0 ≤ i3 ∧ ∃ (c1 : UInt8), (((l1.drop 0).take ((i2).toNat - 0)))[(i3).toNat]? = some c1 ∧
 br ((c1.toNat : Int) == 34)
 (Tri Tryz.prog 15 [] h_2 fun v_1 h_3 =>
 ∃ (c2 : Bool), v_1 = vB c2 ∧
 Q (vB c2) h_3)
 (0 ≤ i3 ∧ ∃ (c3 : UInt8), (((l1.drop 0).take ((i2).toNat - 0)))[(i3).toNat]? = some c3 ∧
 br ((c3.toNat : Int) == 59)
 (Tri Tryz.prog 15 [] h_2 fun v_2 h_4 =>
 ∃ (c4 : Bool), v_2 = vB c4 ∧
 Q (vB c4) h_4)
 (0 ≤ i3 ∧ ∃ (c5 : UInt8), (((l1.drop 0).take ((i2).toNat - 0)))[(i3).toNat]? = some c5 ∧
 br ((c5.toNat : Int) == 10)
 (l3.length + l2.length ≤ 9223372036854775807 ∧
 (l3 ++ l2).length + ([10, 9, 32] : Bs).length ≤ 9223372036854775807 ∧
 ∃ (m3 : Nat), m3 < m1 ∧ I_1 m3 ((l3 ++ l2) ++ ([10, 9, 32] : Bs)) (IntKind.i64.wrap (i3 + 1)) h_2 ∧
 True)
 ((0 ≤ i3 ∧ i3 ≤ (IntKind.i64.wrap (i3 + 1)) ∧ (IntKind.i64.wrap (i3 + 1)) ≤ (((l1.drop 0).take ((i2).toNat - 0)).length : Int)) ∧
 l3.length + ((((l1.drop 0).take ((i2).toNat - 0)).drop (i3).toNat).take ((IntKind.i64.wrap (i3 + 1)).toNat - (i3).toNat)).length ≤ 9223372036854775807 ∧
 ∃ (m4 : Nat), m4 < m1 ∧ I_1 m4 (l3 ++ ((((l1.drop 0).take ((i2).toNat - 0)).drop (i3).toNat).take ((IntKind.i64.wrap (i3 + 1)).toNat - (i3).toNat))) (IntKind.i64.wrap (i3 + 1)) h_2 ∧
 True))))
 (Tri Tryz.prog 13 [vS ((l1.drop 0).take ((i2).toNat - 0))] h_2 fun v_3 h_5 =>
 ∃ (a1 : OA) (n1 emk1 : Nat) (l4 : Bs) (i4 i5 : Int) (a2 : OA) (n2 emk2 : Nat) (i6 i7 : Int), v_3 = vT [vA [vL a1 n1 emk1, vS l4, vI i4, vI i5, vL a2 n2 emk2], vI i6, vI i7] ∧
 ([32] : Bs).length + l3.length ≤ 9223372036854775807 ∧
 (([32] : Bs) ++ l3).length + l2.length ≤ 9223372036854775807 ∧
 ((([32] : Bs) ++ l3) ++ l2).length + ([10, 10, 32, 59, 32, 101, 110, 100] : Bs).length ≤ 9223372036854775807 ∧
 Tri Tryz.prog 13 [vS (((([32] : Bs) ++ l3) ++ l2) ++ ([10, 10, 32, 59, 32, 101, 110, 100] : Bs))] h_5 fun v_4 h_6 =>
 ∃ (a3 : OA) (n3 k3 : Nat) (l5 : Bs) (i8 i9 : Int) (a4 : OA) (n4 k4 : Nat) (i10 i11 : Int), v_4 = vT [vA [vL a3 n3 k3, vS l5, vI i8, vI i9, vL a4 n4 k4], vI i10, vI i11] ∧
 Tri Tryz.prog 15 [] h_6 fun v_5 h_7 =>
 ∃ (c6 : Bool), v_5 = vB c6 ∧
 br c6
 (br (i7 == i11)
 (br (i6 == i10)
 (Tri Tryz.prog 29 [vA [vL a1 n1 emk1, vS l4, vI i4, vI i5, vL a2 n2 emk2], vA [vL a3 n3 k3, vS l5, vI i8, vI i9, vL a4 n4 k4]] h_7 fun v_6 h_8 =>
 ∃ (c7 : Bool), v_6 = vB c7 ∧
 Q (vB c7) h_8)
 (Q (vB false) h_7))
 (Q (vB false) h_7))
 (Q (vB false) h_7))
theorem T7 {l1 : Bs} {i1 : Int} {h : PHeap} {Q : Value → PHeap → Prop} (hR : R7 l1 i1 h Q) : Tri Tryz.prog 7 [vS l1, vU i1] h Q :=
 tri_of_dn mixed Tryz.func7 rfl (by kernel_rfl) low7 (rs := [.tmp 4]) (by kernel_rfl) rfl (Eq.mpr (by kernel_rfl : dnF Tryz.prog Tryz.f7.ntmps d7 [.tmp 4] [vS l1, vU i1] h Q = R7 l1 i1 h Q) hR)
end Go.Proofs.D
namespace Go.Proofs.D
open Go Go.Den Go.As
set_option maxRecDepth 100000
theorem run_part1 {t : TypeId} {l : List Value} {k : Nat} {v : Value} (w : World) (h2 : (isAgg t).run Tryz.prog w = .ok false w) (h3 : l[k]? = some v) : (part t ⟨l⟩ k).run Tryz.prog w = .ok v w := by
 simp [part, h2, h3]
theorem run_int3 (w : World) (a b : Int) : (Op.equalIn 9999 3 (vI a) (vI b)).run Tryz.prog w = .ok (a == b) w := run_equalIn_int w 9998 3 .i64 .i64 a b Tryz.underlying3
theorem run_str9 (w : World) (a b : Bytes) : (Op.equalIn 9999 9 (vS a) (vS b)).run Tryz.prog w = .ok (a == b) w := by
 have := run_equalIn_string w (P := Tryz.prog) 9998 9 ⟨⟨a⟩⟩ ⟨⟨b⟩⟩ Tryz.underlying9
 rw [show (Op.equalIn 9999 9 (vS a) (vS b)) = Op.equalIn (9998 + 1) 9 (.string ⟨⟨a⟩⟩) (.string ⟨⟨b⟩⟩) from rfl, this, ByteArray.toList_eq, ByteArray.toList_eq]
theorem run_bool4 (w : World) (a b : Bool) : (Op.equalIn 9999 4 (vB a) (vB b)).run Tryz.prog w = .ok (a == b) w := run_equalIn_bool' w 9998 4 a b Tryz.underlying4
theorem eq_ins (x y : Ins) (w : World) : (Op.equalIn 10000 58 (vA (insC x)) (vA (insC y))).run Tryz.prog w = .ok (decide (x = y)) w := by
 have h1 : Tryz.prog.underlying 58 = some (.struct (Tryz.prog.fieldsOf 58)) := by unfold Program.fieldsOf; rw [Tryz.underlying58]
 have h2 : Tryz.prog.stoodInHeld 58 = false := by kernel_rfl
 have := run_equalIn_struct w (P := Tryz.prog) 9999 58 ⟨insC x⟩ ⟨insC y⟩ h1 h2
 rw [show (Op.equalIn 10000 58 (vA (insC x)) (vA (insC y))) = Op.equalIn (9999 + 1) 58 (.agg ⟨insC x⟩) (.agg ⟨insC y⟩) from rfl, this]
 have p : ∀ (x : Ins) (k : Nat) (v : Value), (insC x)[k]? = some v → (part 3 ⟨insC x⟩ k).run Tryz.prog w = .ok v w := fun x k v h => run_part1 w (Tryz.isAgg3 w) h
 simp only [Program.fieldsOf, Tryz.underlying58, Op.eqFields, ne_eq, Sem.run_bind, Sem.run_ite, p _ 0 _ rfl, p _ 1 _ rfl, p _ 2 _ rfl, p _ 3 _ rfl, Result.andThen_ok, run_int3, Sem.run_pure]
 obtain ⟨x1, x2, x3, x4⟩ := x
 obtain ⟨y1, y2, y3, y4⟩ := y
 by_cases e1 : x1 = y1 <;> by_cases e2 : x2 = y2 <;> by_cases e3 : x3 = y3 <;> by_cases e4 : x4 = y4 <;> simp [e1, e2, e3, e4]
theorem eq_lb (x y : Lb) (w : World) : (Op.equalIn 10000 80 (vA (lbC x)) (vA (lbC y))).run Tryz.prog w = .ok (decide (x = y)) w := by
 have h1 : Tryz.prog.underlying 80 = some (.struct (Tryz.prog.fieldsOf 80)) := by unfold Program.fieldsOf; rw [Tryz.underlying80]
 have h2 : Tryz.prog.stoodInHeld 80 = false := by kernel_rfl
 have := run_equalIn_struct w (P := Tryz.prog) 9999 80 ⟨lbC x⟩ ⟨lbC y⟩ h1 h2
 rw [show (Op.equalIn 10000 80 (vA (lbC x)) (vA (lbC y))) = Op.equalIn (9999 + 1) 80 (.agg ⟨lbC x⟩) (.agg ⟨lbC y⟩) from rfl, this]
 have p0 : ∀ (x : Lb), (part 9 ⟨lbC x⟩ 0).run Tryz.prog w = .ok (vS x.name) w := fun x => run_part1 w (Tryz.isAgg9 w) rfl
 have p1 : ∀ (x : Lb), (part 4 ⟨lbC x⟩ 1).run Tryz.prog w = .ok (vB x.data) w := fun x => run_part1 w (Tryz.isAgg4 w) rfl
 have p2 : ∀ (x : Lb), (part 3 ⟨lbC x⟩ 2).run Tryz.prog w = .ok (vI x.off) w := fun x => run_part1 w (Tryz.isAgg3 w) rfl
 simp only [Program.fieldsOf, Tryz.underlying80, Op.eqFields, ne_eq, Sem.run_bind, Sem.run_ite, p0, p1, p2, Result.andThen_ok, run_int3, run_str9, run_bool4, Sem.run_pure]
 obtain ⟨x1, x2, x3⟩ := x
 obtain ⟨y1, y2, y3⟩ := y
 by_cases e1 : x1 = y1 <;> by_cases e2 : x2 = y2 <;> by_cases e3 : x3 = y3 <;> simp [e1, e2, e3]
theorem pure_neq {ρ : Operand → Value} {x y : Operand} {t t' ty : TypeId} {xs ys : List Value} {b : Bool} (hx : ρ x = vA xs) (hy : ρ y = vA ys) (hg : Tryz.prog.eqGuardType Tryz.prog.depth t = false) (h : ∀ w, (Op.equalIn 10000 t (vA xs) (vA ys)).run Tryz.prog w = .ok b w) :
 PureRun Tryz.prog (execOp ρ (mkO (.binOp .neq t x y t') ty)) (vB (!b)) := by
 intro w
 have h1 := h w
 have h2 : (binOp .neq t (vA xs) (vA ys)).run Tryz.prog w = .ok (vB (!b)) w := by
  rw [run_neq_struct, h1]; rfl
 have h3 : (eqGuard .neq t x y (vA xs) (vA ys)).run Tryz.prog w = .ok () w := run_eqGuard_agg (P := Tryz.prog) w .neq t x y ⟨xs⟩ ⟨ys⟩ hg
 simp only [execOp, mkO, hx, hy, Sem.run_bind, h3, h2, Result.andThen_ok, Sem.run_pure]
theorem pure_eql {ρ : Operand → Value} {x y : Operand} {t t' ty : TypeId} {xs ys : List Value} {b : Bool} (hx : ρ x = vA xs) (hy : ρ y = vA ys) (hg : Tryz.prog.eqGuardType Tryz.prog.depth t = false) (h : ∀ w, (Op.equalIn 10000 t (vA xs) (vA ys)).run Tryz.prog w = .ok b w) :
 PureRun Tryz.prog (execOp ρ (mkO (.binOp .eql t x y t') ty)) (vB b) := by
 intro w
 have h1 := h w
 have h2 : (binOp .eql t (vA xs) (vA ys)).run Tryz.prog w = .ok (vB b) w := by
  rw [run_eql_struct, h1]; rfl
 have h3 : (eqGuard .eql t x y (vA xs) (vA ys)).run Tryz.prog w = .ok () w := run_eqGuard_agg (P := Tryz.prog) w .eql t x y ⟨xs⟩ ⟨ys⟩ hg
 simp only [execOp, mkO, hx, hy, Sem.run_bind, h3, h2, Result.andThen_ok, Sem.run_pure]
attribute [local irreducible] IntKind.wrap Tri
section
variable {h : PHeap}
theorem take_eq_iff {α : Type} {l m : List α} {j : Nat} {x y : α} (hl : l[j]? = some x) (hm : m[j]? = some y) : l.take (j + 1) = m.take (j + 1) ↔ l.take j = m.take j ∧ x = y := by
 obtain ⟨h1, rfl⟩ := List.getElem?_eq_some_iff.1 hl
 obtain ⟨h2, rfl⟩ := List.getElem?_eq_some_iff.1 hm
 rw [← List.take_append_getElem h1, ← List.take_append_getElem h2]
 constructor
 · intro h
   have := List.append_inj h (by simp; omega)
   exact ⟨this.1, by simpa using this.2⟩
 · rintro ⟨h, e⟩; rw [h, e]
theorem eqIns_t {a1 a2 : OA} {k1 k2 : Nat} {l m : List Ins} (h1 : InAt h a1 l) (h2 : InAt h a2 m) (hl : l.length ≤ 1000000) : Tri Tryz.prog 57 [vL a1 l.length k1, vL a2 m.length k2] h fun v h' => v = vB (decide (l = m)) ∧ h' = h := by
 refine T57 ?_
 unfold R57
 refine br_split (fun e => ?_) fun e => ?_
 · have : l ≠ m := fun hh => by subst hh; simp at e
   exact ⟨by simp [this], rfl⟩
 have hlen : l.length = m.length := by
  have : (l.length : Int) = (m.length : Int) := by simpa using e
  omega
 refine ⟨fun n i h' => ∃ j : Nat, i = (j : Int) ∧ j + n = l.length ∧ h' = h ∧ l.take j = m.take j, ⟨l.length, 0, rfl, by omega, rfl, rfl⟩, ?_⟩
 rintro n _ h3 ⟨j, rfl, hjn, rfl, ht⟩
 refine br_split (fun e => ?_) fun e => ?_
 · have hlt : j < l.length := by have := of_decide_eq_true e; omega
   have g1 : l[j]? = some l[j] := by simp [hlt]
   have hlt2 : j < m.length := by omega
   have g2 : m[j]? = some m[j] := by simp [hlt2]
   have hiff := take_eq_iff g1 g2
   generalize l[j] = x at *
   generalize m[j] = y at *
   obtain ⟨b1, o1, ha1, r1⟩ := h1.get g1
   obtain ⟨b2, o2, ha2, r2⟩ := h2.get g2
   refine ⟨b1, o1, ha1, ⟨by omega, by omega⟩, _, _, _, _, (by rw [Int.toNat_natCast]; exact r1), b2, o2, ha2, ⟨by omega, by omega⟩, _, _, _, _, (by rw [Int.toNat_natCast]; exact r2), !decide (x = y), pure_neq (xs := insC x) (ys := insC y) rfl rfl (by kernel_rfl) (eq_ins x y), br_split (fun e1 => ?_) fun e1 => ?_⟩
   · have hxy : x ≠ y := by simpa using e1
     have : l ≠ m := fun hh => by subst hh; rw [g1] at g2; injection g2 with g2; exact hxy g2
     exact ⟨by simp [this], rfl⟩
   · have hxy : x = y := by simpa using e1
     exact ⟨n - 1, by omega, ⟨j + 1, by rw [wrap64 (by omega) (by omega)]; omega, by omega, rfl, hiff.2 ⟨ht, hxy⟩⟩, trivial⟩
 · have hj : j = l.length := by have := of_decide_eq_false e; omega
   subst hj
   rw [List.take_length, hlen, List.take_length] at ht
   exact ⟨by simp [ht], rfl⟩
theorem eqLbs_t {a1 a2 : OA} {k1 k2 : Nat} {l m : List Lb} (h1 : LbAt h a1 l) (h2 : LbAt h a2 m) (hl : l.length ≤ 1000000) : Tri Tryz.prog 58 [vL a1 l.length k1, vL a2 m.length k2] h fun v h' => v = vB (decide (l = m)) ∧ h' = h := by
 refine T58 ?_
 unfold R58
 refine br_split (fun e => ?_) fun e => ?_
 · have : l ≠ m := fun hh => by subst hh; simp at e
   exact ⟨by simp [this], rfl⟩
 have hlen : l.length = m.length := by
  have : (l.length : Int) = (m.length : Int) := by simpa using e
  omega
 refine ⟨fun n i h' => ∃ j : Nat, i = (j : Int) ∧ j + n = l.length ∧ h' = h ∧ l.take j = m.take j, ⟨l.length, 0, rfl, by omega, rfl, rfl⟩, ?_⟩
 rintro n _ h3 ⟨j, rfl, hjn, rfl, ht⟩
 refine br_split (fun e => ?_) fun e => ?_
 · have hlt : j < l.length := by have := of_decide_eq_true e; omega
   have g1 : l[j]? = some l[j] := by simp [hlt]
   have hlt2 : j < m.length := by omega
   have g2 : m[j]? = some m[j] := by simp [hlt2]
   have hiff := take_eq_iff g1 g2
   generalize l[j] = x at *
   generalize m[j] = y at *
   obtain ⟨b1, o1, ha1, r1⟩ := h1.get g1
   obtain ⟨b2, o2, ha2, r2⟩ := h2.get g2
   refine ⟨b1, o1, ha1, ⟨by omega, by omega⟩, _, _, _, (by rw [Int.toNat_natCast]; exact r1), b2, o2, ha2, ⟨by omega, by omega⟩, _, _, _, (by rw [Int.toNat_natCast]; exact r2), !decide (x = y), pure_neq (xs := lbC x) (ys := lbC y) rfl rfl (by kernel_rfl) (eq_lb x y), br_split (fun e1 => ?_) fun e1 => ?_⟩
   · have hxy : x ≠ y := by simpa using e1
     have : l ≠ m := fun hh => by subst hh; rw [g1] at g2; injection g2 with g2; exact hxy g2
     exact ⟨by simp [this], rfl⟩
   · have hxy : x = y := by simpa using e1
     exact ⟨n - 1, by omega, ⟨j + 1, by rw [wrap64 (by omega) (by omega)]; omega, by omega, rfl, hiff.2 ⟨ht, hxy⟩⟩, trivial⟩
 · have hj : j = l.length := by have := of_decide_eq_false e; omega
   subst hj
   rw [List.take_length, hlen, List.take_length] at ht
   exact ⟨by simp [ht], rfl⟩
def PV (a1 : OA) (k1 : Nat) (a2 : OA) (k2 : Nat) (q : Pg) : Value := vA [vL a1 q.code.length k1, vS q.data, vI q.zero, vI q.entry, vL a2 q.labels.length k2]
structure PgAt (h : PHeap) (a1 : OA) (k1 : Nat) (a2 : OA) (k2 : Nat) (q : Pg) : Prop where
 ins : InAt h a1 q.code
 lbs : LbAt h a2 q.labels
 ok1 : okN a1 q.code.length k1
 ok2 : okN a2 q.labels.length k2
theorem PgAt.ext {h h' : PHeap} {a1 : OA} {k1 : Nat} {a2 : OA} {k2 : Nat} {q : Pg} (x : Ext h h') (hp : PgAt h a1 k1 a2 k2 q) : PgAt h' a1 k1 a2 k2 q := ⟨hp.ins.ext x, hp.lbs.ext x, hp.ok1, hp.ok2⟩
theorem equal_t {a1 a2 a3 a4 : OA} {k1 k2 k3 k4 : Nat} {p q : Pg} (hp : PgAt h a1 k1 a2 k2 p) (hq : PgAt h a3 k3 a4 k4 q) (h1 : p.code.length ≤ 1000000) (h2 : p.labels.length ≤ 1000000) :
 Tri Tryz.prog 29 [PV a1 k1 a2 k2 p, PV a3 k3 a4 k4 q] h fun v h' => v = vB (decide (p = q)) ∧ h' = h := by
 refine T29 ?_
 unfold R29
 obtain ⟨c1, d1, z1, e1, l1⟩ := p
 obtain ⟨c2, d2, z2, e2, l2⟩ := q
 refine Tri.mono (eqIns_t hp.ins hq.ins h1) ?_
 rintro _ h3 ⟨rfl, rfl⟩
 refine ⟨_, rfl, br_split (fun g1 => br_split (fun g2 => br_split (fun g3 => br_split (fun g4 => ?_) fun g4 => ?_) fun g3 => ?_) fun g2 => ?_) fun g1 => ?_⟩
 · refine Tri.mono (eqLbs_t hp.lbs hq.lbs h2) ?_
   rintro _ h4 ⟨rfl, rfl⟩
   refine ⟨_, rfl, ?_, rfl⟩
   have q1 : c1 = c2 := of_decide_eq_true g1
   have q2 : d1 = d2 := by simpa using g2
   have q3 : z1 = z2 := by simpa using g3
   have q4 : e1 = e2 := by simpa using g4
   clear g1 g2 g3 g4
   subst q1; subst q2; subst q3; subst q4
   simp
 · have g4 : e1 ≠ e2 := by simpa using g4
   exact ⟨by simp [g4], rfl⟩
 · have g3 : z1 ≠ z2 := by simpa using g3
   exact ⟨by simp [g3], rfl⟩
 · have g2 : d1 ≠ d2 := by simpa using g2
   exact ⟨by simp [g2], rfl⟩
 · have g1 : c1 ≠ c2 := of_decide_eq_false g1
   exact ⟨by simp [g1], rfl⟩
end
end Go.Proofs.D
namespace Go.As
def progOf : Except (Nat × Nat) Pg → Pg
 | .ok q => q
 | .error _ => ⟨[], [], 0, 0, []⟩
def lineOf : Except (Nat × Nat) Pg → Nat
 | .ok _ => 0
 | .error e => e.1
def errOf : Except (Nat × Nat) Pg → Nat
 | .ok _ => 0
 | .error e => e.2
theorem spread_snoc (β : Bytes) : ∀ (a : Bytes) (c : UInt8), spread β (a ++ [c]) = spread β a ++ (if c = 10 then β ++ [10, 9, 32] else [c])
 | [], c => by
   by_cases h : c = 10 <;> simp [spread, h]
 | x :: a, c => by
   have ih := spread_snoc β a c
   by_cases h : x = 10 <;> simp [spread, h, ih]
end Go.As
namespace Go.Proofs.D
open Go Go.Den Go.As
set_option maxRecDepth 100000
attribute [local irreducible] IntKind.wrap Tri
section
variable {h h0 : PHeap}
theorem AsmR.get {r : Except (Nat × Nat) Pg} {v : Value} (hr : AsmR h0 r v h) : Ext h0 h ∧ ∃ a1 k1 a2 k2, v = vT [PV a1 k1 a2 k2 (progOf r), vI (lineOf r : Int), vI (errOf r : Int)] ∧ PgAt h a1 k1 a2 k2 (progOf r) := by
 obtain ⟨x, hr⟩ := hr
 refine ⟨x, ?_⟩
 cases r with
 | error e =>
   obtain ⟨l, e⟩ := e
   obtain ⟨_, rfl⟩ := hr
   exact ⟨none, 0, none, 0, rfl, .inl rfl, .inl rfl, ⟨Nat.le_refl _, fun _ => ⟨rfl, rfl⟩⟩, ⟨Nat.le_refl _, fun _ => ⟨rfl, rfl⟩⟩⟩
 | ok q =>
   obtain ⟨a1, k1, a2, k2, rfl, g1, g2, g3, g4⟩ := hr
   exact ⟨a1, k1, a2, k2, rfl, g1, g2, g3, g4⟩
theorem asm_small (s : Bytes) : (progOf (assembleS s)).code.length ≤ 1024 ∧ (progOf (assembleS s)).labels.length ≤ 1024 ∧ (progOf (assembleS s)).data.length ≤ 4096 := by
 cases hr : assembleS s with
 | error e => exact ⟨by simp [progOf], by simp [progOf], by simp [progOf]⟩
 | ok q =>
   have hok := check_ok (assemble_ok hr)
   have h1 := hok.codeLen
   have h2 := hok.count
   simp only [progOf]
   omega
end
theorem blanks_tri {h : PHeap} (hO : OpTab h) (hM : MaxLen h) (l1 : Bs) {k1 : Nat} (hk1 : k1 < 256) : Tri Tryz.prog 7 [vS l1, vU (k1 : Int)] h fun v h' => v = vB true ∧ ∀ k o, h k = some o → h' k = some o := by
 refine T7 ?_
 unfold R7
 refine ⟨if 1500 < (l1.length : Int) then 1500 else (l1.length : Int), pureVal_run _ (by kernel_rfl), by split <;> omega, ?_⟩
 have hcut : (l1.drop 0).take ((if 1500 < (l1.length : Int) then 1500 else (l1.length : Int)).toNat - 0) = l1.take 1500 := by
  rw [List.drop_zero, Nat.sub_zero]
  split
  · rfl
  · rw [Int.toNat_natCast, List.take_length, List.take_of_length_le (by omega)]
 rw [hcut]
 have hb : (l1.take 1500).length ≤ 1500 := by rw [List.length_take]; omega
 generalize l1.take 1500 = s at *
 intro b1 hb1 h1 hh1
 have x1 := Put.ext hh1 hb1
 have hn : Int.tmod (k1 : Int) 4 = ((k1 % 4 : Nat) : Int) := by rw [Int.tmod_eq_emod_of_nonneg (by omega)]; omega
 have hlt : k1 % 4 < 4 := Nat.mod_lt _ (by decide)
 rw [hn]
 generalize k1 % 4 = n at *
 refine ⟨b1, 0, rfl, ⟨by omega, by omega⟩, between n, ?_, ?_⟩
 · rw [Int.toNat_natCast, Nat.zero_add, Nat.mul_one, cell_of (Put.at hh1)]
   match n, hlt with
   | 0, _ => rfl
   | 1, _ => rfl
   | 2, _ => rfl
   | 3, _ => rfl
 have hβ : (between n).length ≤ 7 := (between_nl n).2
 have sl : ∀ t : Bytes, (spread (between n) t).length ≤ 10 * t.length := fun t => by
  have := spread_len (between n) t
  have h2 : ((between n).length + 3) * t.length ≤ 10 * t.length := Nat.mul_le_mul_right _ (by omega)
  omega
 have kn : ∀ h2, Ext h h2 → Tri Tryz.prog 15 [] h2 fun v_1 h_3 => ∃ (c2 : Bool), v_1 = vB c2 ∧ (vB c2 = vB true ∧ ∀ k o, h k = some o → h_3 k = some o) := fun h2 x2 => by
  refine Tri.mono (known_t (hO.ext x2) (hM.ext x2)) ?_
  rintro _ h3 ⟨rfl, x3⟩
  exact ⟨_, rfl, rfl, x2.trans x3⟩
 refine ⟨fun m l i h' => ∃ j : Nat, i = (j : Int) ∧ j + m = s.length ∧ h' = h1 ∧ l = spread (between n) (s.take j) ∧ ∀ c ∈ s.take j, c ≠ 34 ∧ c ≠ 59, ⟨s.length, 0, rfl, by omega, rfl, rfl, fun c hc => (List.not_mem_nil hc).elim⟩, ?_⟩
 rintro m _ _ h2 ⟨j, rfl, hjm, rfl, rfl, hno⟩
 have hsl := sl (s.take j)
 rw [List.length_take] at hsl
 refine br_split (fun e => ?_) fun e => ?_
 · have hlt2 : j < s.length := by have := of_decide_eq_true e; omega
   have hg : s[j]? = some s[j] := by simp [hlt2]
   have htk := List.take_append_getElem hlt2
   have hdr := List.drop_eq_getElem_cons hlt2
   generalize s[j] = c at *
   have hg' : s[((j : Nat) : Int).toNat]? = some c := by rw [Int.toNat_natCast]; exact hg
   have hw1 : IntKind.i64.wrap ((j : Int) + 1) = ((j + 1 : Nat) : Int) := by rw [wrap64 (by omega) (by omega)]; omega
   have hsn : spread (between n) (s.take (j + 1)) = spread (between n) (s.take j) ++ (if c = 10 then between n ++ [10, 9, 32] else [c]) := by rw [← htk, spread_snoc]
   refine ⟨by omega, c, hg', br_split (fun e1 => kn _ x1) fun e1 => ⟨by omega, c, hg', br_split (fun e2 => kn _ x1) fun e2 => ⟨by omega, c, hg', ?_⟩⟩⟩
   have c34 : c ≠ 34 := fun hh => by subst hh; simp at e1
   have c59 : c ≠ 59 := fun hh => by subst hh; simp at e2
   have hno2 : ∀ d ∈ s.take (j + 1), d ≠ 34 ∧ d ≠ 59 := fun d hd => by
    rw [← htk] at hd
    rcases List.mem_append.1 hd with hd | hd
    · exact hno d hd
    · rw [List.mem_singleton.1 hd]; exact ⟨c34, c59⟩
   refine br_split (fun e3 => ?_) fun e3 => ?_
   · have c10 : c = 10 := by
      apply UInt8.toNat_inj.1
      have : (c.toNat : Int) = 10 := by simpa using e3
      show c.toNat = 10
      omega
     refine ⟨by omega, by rw [List.length_append]; simp only [List.length_cons, List.length_nil]; omega, m - 1, by omega, ⟨j + 1, hw1, by omega, rfl, ?_, hno2⟩, trivial⟩
     rw [hsn, if_pos c10, List.append_assoc]
   · have c10 : c ≠ 10 := fun hh => by subst hh; simp at e3
     rw [hw1]
     have hsub : (s.drop ((j : Nat) : Int).toNat).take (((j + 1 : Nat) : Int).toNat - ((j : Nat) : Int).toNat) = [c] := by
      rw [Int.toNat_natCast, Int.toNat_natCast, Nat.add_sub_cancel_left, hdr]; rfl
     rw [hsub]
     refine ⟨⟨by omega, by omega, by omega⟩, by rw [List.length_singleton]; omega, m - 1, by omega, ⟨j + 1, rfl, by omega, rfl, ?_, hno2⟩, trivial⟩
     rw [hsn, if_neg c10]
 · have hj : j = s.length := by have := of_decide_eq_false e; omega
   subst hj
   rw [List.take_length] at hno ⊢
   have hsl := sl s
   refine Tri.mono (asm_t s (hO.ext x1) (hM.ext x1)) ?_
   intro v h3 hr
   obtain ⟨x3, a1, k1, a2, k2, rfl, hp1⟩ := hr.get
   have x13 := x1.trans x3
   refine ⟨_, _, _, _, _, _, _, _, _, _, _, rfl, by simp only [List.length_cons, List.length_nil]; omega, by simp only [List.length_append, List.length_cons, List.length_nil]; omega, by simp only [List.length_append, List.length_cons, List.length_nil]; omega, ?_⟩
   have htx : ((([32] : Bs) ++ spread (between n) s) ++ between n) ++ ([10, 10, 32, 59, 32, 101, 110, 100] : Bs) = blanksT n s := by
    unfold blanksT; simp
   rw [htx]
   refine Tri.mono (asm_t (blanksT n s) (hO.ext x13) (hM.ext x13)) ?_
   intro v h4 hr2
   rw [blanks_same n hb hno] at hr2
   obtain ⟨x4, a3, k3, a4, k4, rfl, hp2⟩ := hr2.get
   have x14 := x13.trans x4
   refine ⟨_, _, _, _, _, _, _, _, _, _, _, rfl, ?_⟩
   refine Tri.mono (known_t (hO.ext x14) (hM.ext x14)) ?_
   rintro _ h5 ⟨rfl, x5⟩
   refine ⟨_, rfl, br_pos rfl (br_pos (by simp) (br_pos (by simp) ?_))⟩
   obtain ⟨s1, s2, _⟩ := asm_small s
   refine Tri.mono (equal_t (hp1.ext (x4.trans x5)) (hp2.ext x5) (by omega) (by omega)) ?_
   rintro _ h6 ⟨rfl, rfl⟩
   exact ⟨_, rfl, by simp, x14.trans x5⟩
end Go.Proofs.D
