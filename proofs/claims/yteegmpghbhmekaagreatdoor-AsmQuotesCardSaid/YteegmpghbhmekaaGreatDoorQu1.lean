import Derived.Test.YteegmpghbhmekaaGreatDoorB7
namespace Go.Proofs.D
open Go Go.Den
set_option maxRecDepth 100000
set_option maxHeartbeats 4000000
abbrev ekk1 : List CK := [.slice, .str, qi, qi, .slice]
abbrev o30_2 : Op := .call { callee := (.builtin .append), args := #[(.tmp 22), (.tmp 23)], argTypes := #[40, 40] }
abbrev o30_4 : Op := .call { callee := (.builtin .append), args := #[(.tmp 28), (.tmp 29)], argTypes := #[40, 40] }
abbrev o30_6 : Op := .call { callee := (.builtin .append), args := #[(.tmp 34), (.tmp 35)], argTypes := #[40, 40] }
abbrev o30_9 : Op := .call { callee := (.builtin .append), args := #[(.tmp 44), (.tmp 46)], argTypes := #[40, 40] }
abbrev o30_14 : Op := .call { callee := (.builtin .append), args := #[(.tmp 55), (.tmp 62)], argTypes := #[40, 40] }
abbrev o30_15 : Op := .call { callee := (.builtin .append), args := #[(.tmp 15), (.tmp 17)], argTypes := #[40, 40] }
abbrev o30_17 : Op := .call { callee := (.builtin .append), args := #[(.tmp 65), (.tmp 66)], argTypes := #[40, 40] }
noncomputable def d30 : DCode := up ⟨[(24, .c (.one false [.slice])), (30, .c (.one false [.slice])), (36, .c (.one false [.slice])), (47, .c (.one false [.slice])), (63, .c (.one false [.slice])), (18, .c (.one false [.slice])), (67, .c (.one false [.slice]))], [], [(10, 59, [(3, .slice), (9, qi)], [])]⟩ (low Tryz.prog (fun _ => false) (Tryz.f30.body.getD .skip))
theorem low30 : low Tryz.prog (fun _ => false) (Tryz.f30.body.getD .skip) = some (eC d30) := by kernel_rfl
def R30 (l1 : Bs) (h : PHeap) (Q : Value → PHeap → Prop) : Prop :=
 ∀ (b1 : Nat), h b1 = none → ∀ (h_1 : PHeap), h_1 = h.put b1 (.cells ⟨[vU 34]⟩ 5) →
 ∃ (I_1 : Nat → OA → Nat → Nat → Int → PHeap → Prop), (∃ (m2 : Nat), I_1 m2 (ad b1 0) 1 1 (0 : Int) h_1) ∧
 ∀ (m1 : Nat) (a1 : OA) (n1 : Nat) (ekk1 : Nat) (i1 : Int) (h_2 : PHeap), I_1 m1 a1 n1 ekk1 i1 h_2 →
 br (decide (i1 < (l1.length : Int)))
 (0 ≤ i1 ∧ ∃ (c1 : UInt8), (l1)[(i1).toNat]? = some c1 ∧
 br ((c1.toNat : Int) == 10)
 (∀ (b2 : Nat), h_2 b2 = none → ∀ (h_3 : PHeap), h_3 = h_2.put b2 (.cells ⟨[vU 92, vU 110]⟩ 5) →
 Raw Tryz.prog (execOp (rho [(22, vL a1 n1 ekk1), (23, vL (ad b2 0) 2 2)]) (mkO o30_2 40)) h_3 fun v_1 h_4 =>
 ∃ (a2 : OA) (n2 k2 : Nat), v_1 = vL a2 n2 k2 ∧
 ∃ (m3 : Nat), m3 < m1 ∧ I_1 m3 a2 n2 k2 (IntKind.i64.wrap (i1 + 1)) h_4 ∧
 True)
 (br ((c1.toNat : Int) == 9)
 (∀ (b3 : Nat), h_2 b3 = none → ∀ (h_5 : PHeap), h_5 = h_2.put b3 (.cells ⟨[vU 92, vU 116]⟩ 5) →
 Raw Tryz.prog (execOp (rho [(28, vL a1 n1 ekk1), (29, vL (ad b3 0) 2 2)]) (mkO o30_4 40)) h_5 fun v_2 h_6 =>
 ∃ (a3 : OA) (n3 k3 : Nat), v_2 = vL a3 n3 k3 ∧
 ∃ (m4 : Nat), m4 < m1 ∧ I_1 m4 a3 n3 k3 (IntKind.i64.wrap (i1 + 1)) h_6 ∧
 True)
 (br ((c1.toNat : Int) == 0)
 (∀ (b4 : Nat), h_2 b4 = none → ∀ (h_7 : PHeap), h_7 = h_2.put b4 (.cells ⟨[vU 92, vU 48]⟩ 5) →
 Raw Tryz.prog (execOp (rho [(34, vL a1 n1 ekk1), (35, vL (ad b4 0) 2 2)]) (mkO o30_6 40)) h_7 fun v_3 h_8 =>
 ∃ (a4 : OA) (n4 k4 : Nat), v_3 = vL a4 n4 k4 ∧
 ∃ (m5 : Nat), m5 < m1 ∧ I_1 m5 a4 n4 k4 (IntKind.i64.wrap (i1 + 1)) h_8 ∧
 True)
 (br ((c1.toNat : Int) == 92)
 (∀ (b5 : Nat), h_2 b5 = none → ∀ (h_9 : PHeap), h_9 = h_2.put b5 (.cells ⟨[vU 92, vU (c1.toNat : Int)]⟩ 5) →
 Raw Tryz.prog (execOp (rho [(44, vL a1 n1 ekk1), (46, vL (ad b5 0) 2 2)]) (mkO o30_9 40)) h_9 fun v_4 h_10 =>
 ∃ (a5 : OA) (n5 k5 : Nat), v_4 = vL a5 n5 k5 ∧
 ∃ (m6 : Nat), m6 < m1 ∧ I_1 m6 a5 n5 k5 (IntKind.i64.wrap (i1 + 1)) h_10 ∧
 True)
 (br ((c1.toNat : Int) == 34)
 (∀ (b6 : Nat), h_2 b6 = none → ∀ (h_11 : PHeap), h_11 = h_2.put b6 (.cells ⟨[vU 92, vU (c1.toNat : Int)]⟩ 5) →
 Raw Tryz.prog (execOp (rho [(44, vL a1 n1 ekk1), (46, vL (ad b6 0) 2 2)]) (mkO o30_9 40)) h_11 fun v_5 h_12 =>
 ∃ (a6 : OA) (n6 k6 : Nat), v_5 = vL a6 n6 k6 ∧
 ∃ (m7 : Nat), m7 < m1 ∧ I_1 m7 a6 n6 k6 (IntKind.i64.wrap (i1 + 1)) h_12 ∧
 True)
 (br (decide ((c1.toNat : Int) < 32))
 (0 ≤ (Int.fdiv (c1.toNat : Int) 16) ∧ ∃ (c2 : UInt8), ([48, 49, 50, 51, 52, 53, 54, 55, 56, 57, 97, 98, 99, 100, 101, 102] : List UInt8)[(Int.fdiv (c1.toNat : Int) 16).toNat]? = some c2 ∧
 0 ≤ (IntKind.u8.wrap ((BitVec.ofInt 8 (c1.toNat : Int) &&& BitVec.ofInt 8 15).toNat : Int)) ∧ ∃ (c3 : UInt8), ([48, 49, 50, 51, 52, 53, 54, 55, 56, 57, 97, 98, 99, 100, 101, 102] : List UInt8)[(IntKind.u8.wrap ((BitVec.ofInt 8 (c1.toNat : Int) &&& BitVec.ofInt 8 15).toNat : Int)).toNat]? = some c3 ∧
 ∀ (b7 : Nat), h_2 b7 = none → ∀ (h_13 : PHeap), h_13 = h_2.put b7 (.cells ⟨[vU 92, vU 120, vU (c2.toNat : Int), vU (c3.toNat : Int)]⟩ 5) →
 Raw Tryz.prog (execOp (rho [(55, vL a1 n1 ekk1), (62, vL (ad b7 0) 4 4)]) (mkO o30_14 40)) h_13 fun v_6 h_14 =>
 ∃ (a7 : OA) (n7 k7 : Nat), v_6 = vL a7 n7 k7 ∧
 ∃ (m8 : Nat), m8 < m1 ∧ I_1 m8 a7 n7 k7 (IntKind.i64.wrap (i1 + 1)) h_14 ∧
 True)
 (br (decide ((c1.toNat : Int) > 126))
 (0 ≤ (Int.fdiv (c1.toNat : Int) 16) ∧ ∃ (c4 : UInt8), ([48, 49, 50, 51, 52, 53, 54, 55, 56, 57, 97, 98, 99, 100, 101, 102] : List UInt8)[(Int.fdiv (c1.toNat : Int) 16).toNat]? = some c4 ∧
 0 ≤ (IntKind.u8.wrap ((BitVec.ofInt 8 (c1.toNat : Int) &&& BitVec.ofInt 8 15).toNat : Int)) ∧ ∃ (c5 : UInt8), ([48, 49, 50, 51, 52, 53, 54, 55, 56, 57, 97, 98, 99, 100, 101, 102] : List UInt8)[(IntKind.u8.wrap ((BitVec.ofInt 8 (c1.toNat : Int) &&& BitVec.ofInt 8 15).toNat : Int)).toNat]? = some c5 ∧
 ∀ (b8 : Nat), h_2 b8 = none → ∀ (h_15 : PHeap), h_15 = h_2.put b8 (.cells ⟨[vU 92, vU 120, vU (c4.toNat : Int), vU (c5.toNat : Int)]⟩ 5) →
 Raw Tryz.prog (execOp (rho [(55, vL a1 n1 ekk1), (62, vL (ad b8 0) 4 4)]) (mkO o30_14 40)) h_15 fun v_7 h_16 =>
 ∃ (a8 : OA) (n8 k8 : Nat), v_7 = vL a8 n8 k8 ∧
 ∃ (m9 : Nat), m9 < m1 ∧ I_1 m9 a8 n8 k8 (IntKind.i64.wrap (i1 + 1)) h_16 ∧
 True)
 (∀ (b9 : Nat), h_2 b9 = none → ∀ (h_17 : PHeap), h_17 = h_2.put b9 (.cells ⟨[vU (c1.toNat : Int)]⟩ 5) →
 Raw Tryz.prog (execOp (rho [(15, vL a1 n1 ekk1), (17, vL (ad b9 0) 1 1)]) (mkO o30_15 40)) h_17 fun v_8 h_18 =>
 ∃ (a9 : OA) (n9 k9 : Nat), v_8 = vL a9 n9 k9 ∧
 ∃ (m10 : Nat), m10 < m1 ∧ I_1 m10 a9 n9 k9 (IntKind.i64.wrap (i1 + 1)) h_18 ∧
 True))))))))
 (∀ (b10 : Nat), h_2 b10 = none → ∀ (h_19 : PHeap), h_19 = h_2.put b10 (.cells ⟨[vU 34]⟩ 5) →
 Raw Tryz.prog (execOp (rho [(65, vL a1 n1 ekk1), (66, vL (ad b10 0) 1 1)]) (mkO o30_17 40)) h_19 fun v_9 h_20 =>
 ∃ (a10 : OA) (n10 k10 : Nat), v_9 = vL a10 n10 k10 ∧
 ∃ (l2 : Bs), BytesAt h_20 a10 n10 l2 ∧
 Q (vS l2) h_20)
theorem T30 {l1 : Bs} {h : PHeap} {Q : Value → PHeap → Prop} (hR : R30 l1 h Q) : Tri Tryz.prog 30 [vS l1] h Q :=
 tri_of_dn mixed Tryz.func30 rfl (by kernel_rfl) low30 (rs := [.tmp 2]) (by kernel_rfl) rfl (Eq.mpr (by kernel_rfl : dnF Tryz.prog Tryz.f30.ntmps d30 [.tmp 2] [vS l1] h Q = R30 l1 h Q) hR)
noncomputable def d31 : DCode := up ⟨[], [], [(7, 70, [(4, .str), (5, qi)], [])]⟩ (low Tryz.prog (fun _ => false) (Tryz.f31.body.getD .skip))
theorem low31 : low Tryz.prog (fun _ => false) (Tryz.f31.body.getD .skip) = some (eC d31) := by kernel_rfl
def R31 (l1 : Bs) (h : PHeap) (Q : Value → PHeap → Prop) : Prop :=
 ∃ (I_1 : Nat → Bs → Int → PHeap → Prop), (∃ (m2 : Nat), I_1 m2 [34] (0 : Int) h) ∧
 ∀ (m1 : Nat) (l2 : Bs) (i1 : Int) (h_1 : PHeap), I_1 m1 l2 i1 h_1 →
 br (decide (i1 < (l1.length : Int)))
 (0 ≤ i1 ∧ ∃ (c1 : UInt8), (l1)[(i1).toNat]? = some c1 ∧
 br ((c1.toNat : Int) == 10)
 (l2.length + ([92, 110] : Bs).length ≤ 9223372036854775807 ∧
 ∃ (m3 : Nat), m3 < m1 ∧ I_1 m3 (l2 ++ ([92, 110] : Bs)) (IntKind.i64.wrap (i1 + 1)) h_1 ∧
 True)
 (br ((c1.toNat : Int) == 9)
 (l2.length + ([92, 116] : Bs).length ≤ 9223372036854775807 ∧
 ∃ (m4 : Nat), m4 < m1 ∧ I_1 m4 (l2 ++ ([92, 116] : Bs)) (IntKind.i64.wrap (i1 + 1)) h_1 ∧
 True)
 (br ((c1.toNat : Int) == 0)
 (l2.length + ([92, 48] : Bs).length ≤ 9223372036854775807 ∧
 ∃ (m5 : Nat), m5 < m1 ∧ I_1 m5 (l2 ++ ([92, 48] : Bs)) (IntKind.i64.wrap (i1 + 1)) h_1 ∧
 True)
 (br ((c1.toNat : Int) == 92)
 (l2.length + ([92] : Bs).length ≤ 9223372036854775807 ∧
 ∀ (b1 : Nat), h_1 b1 = none → ∀ (h_2 : PHeap), h_2 = h_1.put b1 (.cells ⟨[vU (c1.toNat : Int)]⟩ 5) →
 ∃ (l3 : Bs), BytesAt h_2 (ad b1 0) 1 l3 ∧
 (l2 ++ ([92] : Bs)).length + l3.length ≤ 9223372036854775807 ∧
 ∃ (m6 : Nat), m6 < m1 ∧ I_1 m6 ((l2 ++ ([92] : Bs)) ++ l3) (IntKind.i64.wrap (i1 + 1)) h_2 ∧
 True)
 (br ((c1.toNat : Int) == 34)
 (l2.length + ([92] : Bs).length ≤ 9223372036854775807 ∧
 ∀ (b2 : Nat), h_1 b2 = none → ∀ (h_3 : PHeap), h_3 = h_1.put b2 (.cells ⟨[vU (c1.toNat : Int)]⟩ 5) →
 ∃ (l4 : Bs), BytesAt h_3 (ad b2 0) 1 l4 ∧
 (l2 ++ ([92] : Bs)).length + l4.length ≤ 9223372036854775807 ∧
 ∃ (m7 : Nat), m7 < m1 ∧ I_1 m7 ((l2 ++ ([92] : Bs)) ++ l4) (IntKind.i64.wrap (i1 + 1)) h_3 ∧
 True)
 (br (decide ((c1.toNat : Int) < 32))
 (l2.length + ([92, 120] : Bs).length ≤ 9223372036854775807 ∧
 (0 ≤ (IntKind.u8.wrap (Int.tdiv (c1.toNat : Int) 16)) ∧ (IntKind.u8.wrap (Int.tdiv (c1.toNat : Int) 16)) ≤ (IntKind.u8.wrap ((IntKind.u8.wrap (Int.tdiv (c1.toNat : Int) 16)) + 1)) ∧ (IntKind.u8.wrap ((IntKind.u8.wrap (Int.tdiv (c1.toNat : Int) 16)) + 1)) ≤ (16 : Int)) ∧
 (l2 ++ ([92, 120] : Bs)).length + ((([48, 49, 50, 51, 52, 53, 54, 55, 56, 57, 97, 98, 99, 100, 101, 102] : Bs).drop (IntKind.u8.wrap (Int.tdiv (c1.toNat : Int) 16)).toNat).take ((IntKind.u8.wrap ((IntKind.u8.wrap (Int.tdiv (c1.toNat : Int) 16)) + 1)).toNat - (IntKind.u8.wrap (Int.tdiv (c1.toNat : Int) 16)).toNat)).length ≤ 9223372036854775807 ∧
 (0 ≤ (Int.tmod (c1.toNat : Int) 16) ∧ (Int.tmod (c1.toNat : Int) 16) ≤ (IntKind.u8.wrap ((Int.tmod (c1.toNat : Int) 16) + 1)) ∧ (IntKind.u8.wrap ((Int.tmod (c1.toNat : Int) 16) + 1)) ≤ (16 : Int)) ∧
 ((l2 ++ ([92, 120] : Bs)) ++ ((([48, 49, 50, 51, 52, 53, 54, 55, 56, 57, 97, 98, 99, 100, 101, 102] : Bs).drop (IntKind.u8.wrap (Int.tdiv (c1.toNat : Int) 16)).toNat).take ((IntKind.u8.wrap ((IntKind.u8.wrap (Int.tdiv (c1.toNat : Int) 16)) + 1)).toNat - (IntKind.u8.wrap (Int.tdiv (c1.toNat : Int) 16)).toNat))).length + ((([48, 49, 50, 51, 52, 53, 54, 55, 56, 57, 97, 98, 99, 100, 101, 102] : Bs).drop (Int.tmod (c1.toNat : Int) 16).toNat).take ((IntKind.u8.wrap ((Int.tmod (c1.toNat : Int) 16) + 1)).toNat - (Int.tmod (c1.toNat : Int) 16).toNat)).length ≤ 9223372036854775807 ∧
 ∃ (m8 : Nat), m8 < m1 ∧ I_1 m8 (((l2 ++ ([92, 120] : Bs)) ++ ((([48, 49, 50, 51, 52, 53, 54, 55, 56, 57, 97, 98, 99, 100, 101, 102] : Bs).drop (IntKind.u8.wrap (Int.tdiv (c1.toNat : Int) 16)).toNat).take ((IntKind.u8.wrap ((IntKind.u8.wrap (Int.tdiv (c1.toNat : Int) 16)) + 1)).toNat - (IntKind.u8.wrap (Int.tdiv (c1.toNat : Int) 16)).toNat))) ++ ((([48, 49, 50, 51, 52, 53, 54, 55, 56, 57, 97, 98, 99, 100, 101, 102] : Bs).drop (Int.tmod (c1.toNat : Int) 16).toNat).take ((IntKind.u8.wrap ((Int.tmod (c1.toNat : Int) 16) + 1)).toNat - (Int.tmod (c1.toNat : Int) 16).toNat))) (IntKind.i64.wrap (i1 + 1)) h_1 ∧
 True)
 (br (decide ((c1.toNat : Int) > 126))
 (l2.length + ([92, 120] : Bs).length ≤ 9223372036854775807 ∧
 (0 ≤ (IntKind.u8.wrap (Int.tdiv (c1.toNat : Int) 16)) ∧ (IntKind.u8.wrap (Int.tdiv (c1.toNat : Int) 16)) ≤ (IntKind.u8.wrap ((IntKind.u8.wrap (Int.tdiv (c1.toNat : Int) 16)) + 1)) ∧ (IntKind.u8.wrap ((IntKind.u8.wrap (Int.tdiv (c1.toNat : Int) 16)) + 1)) ≤ (16 : Int)) ∧
 (l2 ++ ([92, 120] : Bs)).length + ((([48, 49, 50, 51, 52, 53, 54, 55, 56, 57, 97, 98, 99, 100, 101, 102] : Bs).drop (IntKind.u8.wrap (Int.tdiv (c1.toNat : Int) 16)).toNat).take ((IntKind.u8.wrap ((IntKind.u8.wrap (Int.tdiv (c1.toNat : Int) 16)) + 1)).toNat - (IntKind.u8.wrap (Int.tdiv (c1.toNat : Int) 16)).toNat)).length ≤ 9223372036854775807 ∧
 (0 ≤ (Int.tmod (c1.toNat : Int) 16) ∧ (Int.tmod (c1.toNat : Int) 16) ≤ (IntKind.u8.wrap ((Int.tmod (c1.toNat : Int) 16) + 1)) ∧ (IntKind.u8.wrap ((Int.tmod (c1.toNat : Int) 16) + 1)) ≤ (16 : Int)) ∧
 ((l2 ++ ([92, 120] : Bs)) ++ ((([48, 49, 50, 51, 52, 53, 54, 55, 56, 57, 97, 98, 99, 100, 101, 102] : Bs).drop (IntKind.u8.wrap (Int.tdiv (c1.toNat : Int) 16)).toNat).take ((IntKind.u8.wrap ((IntKind.u8.wrap (Int.tdiv (c1.toNat : Int) 16)) + 1)).toNat - (IntKind.u8.wrap (Int.tdiv (c1.toNat : Int) 16)).toNat))).length + ((([48, 49, 50, 51, 52, 53, 54, 55, 56, 57, 97, 98, 99, 100, 101, 102] : Bs).drop (Int.tmod (c1.toNat : Int) 16).toNat).take ((IntKind.u8.wrap ((Int.tmod (c1.toNat : Int) 16) + 1)).toNat - (Int.tmod (c1.toNat : Int) 16).toNat)).length ≤ 9223372036854775807 ∧
 ∃ (m9 : Nat), m9 < m1 ∧ I_1 m9 (((l2 ++ ([92, 120] : Bs)) ++ ((([48, 49, 50, 51, 52, 53, 54, 55, 56, 57, 97, 98, 99, 100, 101, 102] : Bs).drop (IntKind.u8.wrap (Int.tdiv (c1.toNat : Int) 16)).toNat).take ((IntKind.u8.wrap ((IntKind.u8.wrap (Int.tdiv (c1.toNat : Int) 16)) + 1)).toNat - (IntKind.u8.wrap (Int.tdiv (c1.toNat : Int) 16)).toNat))) ++ ((([48, 49, 50, 51, 52, 53, 54, 55, 56, 57, 97, 98, 99, 100, 101, 102] : Bs).drop (Int.tmod (c1.toNat : Int) 16).toNat).take ((IntKind.u8.wrap ((Int.tmod (c1.toNat : Int) 16) + 1)).toNat - (Int.tmod (c1.toNat : Int) 16).toNat))) (IntKind.i64.wrap (i1 + 1)) h_1 ∧
 True)
 (∀ (b3 : Nat), h_1 b3 = none → ∀ (h_4 : PHeap), h_4 = h_1.put b3 (.cells ⟨[vU (c1.toNat : Int)]⟩ 5) →
 ∃ (l5 : Bs), BytesAt h_4 (ad b3 0) 1 l5 ∧
 l2.length + l5.length ≤ 9223372036854775807 ∧
 ∃ (m10 : Nat), m10 < m1 ∧ I_1 m10 (l2 ++ l5) (IntKind.i64.wrap (i1 + 1)) h_4 ∧
 True))))))))
 (l2.length + ([34] : Bs).length ≤ 9223372036854775807 ∧
 Q (vS (l2 ++ ([34] : Bs))) h_1)
theorem T31 {l1 : Bs} {h : PHeap} {Q : Value → PHeap → Prop} (hR : R31 l1 h Q) : Tri Tryz.prog 31 [vS l1] h Q :=
 tri_of_dn mixed Tryz.func31 rfl (by kernel_rfl) low31 (rs := [.tmp 2]) (by kernel_rfl) rfl (Eq.mpr (by kernel_rfl : dnF Tryz.prog Tryz.f31.ntmps d31 [.tmp 2] [vS l1] h Q = R31 l1 h Q) hR)
abbrev o9_0 : Op := .call { callee := (.builtin .min), args := #[(.tmp 9), (.const (vI 300))], argTypes := #[3, 3] }
noncomputable def d9 : DCode := up ⟨[(10, .c (.one false [qi])), (13, .c (.one false [.str])), (17, .c (.tup [(true, ekk1), (false, [qi]), (false, [qi])])), (21, .c (.one false [.bool])), (25, .c (.one false [.str])), (34, .l [.str])], [], []⟩ (low Tryz.prog (fun _ => false) (Tryz.f9.body.getD .skip))
theorem low9 : low Tryz.prog (fun _ => false) (Tryz.f9.body.getD .skip) = some (eC d9) := by kernel_rfl
def R9 (l1 : Bs) (h : PHeap) (Q : Value → PHeap → Prop) : Prop :=
 ∃ (i1 : Int), PureRun Tryz.prog (execOp (rho [(9, vI (l1.length : Int))]) (mkO o9_0 3)) (vI i1) ∧
 (0 ≤ (0 : Int) ∧ (0 : Int) ≤ i1 ∧ i1 ≤ (l1.length : Int)) ∧
 Tri Tryz.prog 30 [vS ((l1.drop 0).take ((i1).toNat - 0))] h fun v_1 h_1 =>
 ∃ (l2 : Bs), v_1 = vS l2 ∧
 ([104, 97, 108, 116, 10, 46, 100, 97, 116, 97, 10, 46, 116, 101, 120, 116, 32] : Bs).length + l2.length ≤ 9223372036854775807 ∧
 Tri Tryz.prog 13 [vS (([104, 97, 108, 116, 10, 46, 100, 97, 116, 97, 10, 46, 116, 101, 120, 116, 32] : Bs) ++ l2)] h_1 fun v_2 h_2 =>
 ∃ (a1 : OA) (n1 ekk1 : Nat) (l3 : Bs) (i2 i3 : Int) (a2 : OA) (n2 k2 : Nat) (i4 i5 : Int), v_2 = vT [vA [vL a1 n1 ekk1, vS l3, vI i2, vI i3, vL a2 n2 k2], vI i4, vI i5] ∧
 Tri Tryz.prog 15 [] h_2 fun v_3 h_3 =>
 ∃ (c1 : Bool), v_3 = vB c1 ∧
 br c1
 (Tri Tryz.prog 31 [vS ((l1.drop 0).take ((i1).toNat - 0))] h_3 fun v_4 h_4 =>
 ∃ (l4 : Bs), v_4 = vS l4 ∧
 br (l2 == l4)
 (br (i5 == 0)
 (Q (vB (l3 == ((l1.drop 0).take ((i1).toNat - 0)))) h_4)
 (Q (vB false) h_4))
 (Q (vB false) h_4))
 (Q (vB false) h_3)
theorem T9 {l1 : Bs} {h : PHeap} {Q : Value → PHeap → Prop} (hR : R9 l1 h Q) : Tri Tryz.prog 9 [vS l1] h Q :=
 tri_of_dn mixed Tryz.func9 rfl (by kernel_rfl) low9 (rs := [.tmp 2]) (by kernel_rfl) rfl (Eq.mpr (by kernel_rfl : dnF Tryz.prog Tryz.f9.ntmps d9 [.tmp 2] [vS l1] h Q = R9 l1 h Q) hR)
end Go.Proofs.D
namespace Go.Proofs.D
open Go Go.Den Go.As
set_option maxRecDepth 100000
def hexS : Bytes := [48, 49, 50, 51, 52, 53, 54, 55, 56, 57, 97, 98, 99, 100, 101, 102]
theorem quote_tab : ∀ n : Fin 256, hexS[(Int.fdiv ((n.val : Nat) : Int) 16).toNat]? = some (hexD (n.val / 16)) ∧ hexS[(IntKind.u8.wrap ((BitVec.ofInt 8 ((n.val : Nat) : Int) &&& BitVec.ofInt 8 15).toNat : Int)).toNat]? = some (hexD (n.val % 16)) ∧
 0 ≤ Int.fdiv ((n.val : Nat) : Int) 16 ∧ 0 ≤ IntKind.u8.wrap ((BitVec.ofInt 8 ((n.val : Nat) : Int) &&& BitVec.ofInt 8 15).toNat : Int) := by decide +kernel
theorem quote_at (c : UInt8) : hexS[(Int.fdiv (c.toNat : Int) 16).toNat]? = some (hexD (c.toNat / 16)) ∧ hexS[(IntKind.u8.wrap ((BitVec.ofInt 8 (c.toNat : Int) &&& BitVec.ofInt 8 15).toNat : Int)).toNat]? = some (hexD (c.toNat % 16)) ∧
 0 ≤ Int.fdiv (c.toNat : Int) 16 ∧ 0 ≤ IntKind.u8.wrap ((BitVec.ofInt 8 (c.toNat : Int) &&& BitVec.ofInt 8 15).toNat : Int) := quote_tab ⟨c.toNat, c.toNat_lt⟩
theorem rquote_tab : ∀ n : Fin 256,
 (hexS.drop (IntKind.u8.wrap (Int.tdiv ((n.val : Nat) : Int) 16)).toNat).take ((IntKind.u8.wrap ((IntKind.u8.wrap (Int.tdiv ((n.val : Nat) : Int) 16)) + 1)).toNat - (IntKind.u8.wrap (Int.tdiv ((n.val : Nat) : Int) 16)).toNat) = [hexD (n.val / 16)] ∧
 (hexS.drop (Int.tmod ((n.val : Nat) : Int) 16).toNat).take ((IntKind.u8.wrap ((Int.tmod ((n.val : Nat) : Int) 16) + 1)).toNat - (Int.tmod ((n.val : Nat) : Int) 16).toNat) = [hexD (n.val % 16)] ∧
 (0 ≤ (IntKind.u8.wrap (Int.tdiv ((n.val : Nat) : Int) 16)) ∧ (IntKind.u8.wrap (Int.tdiv ((n.val : Nat) : Int) 16)) ≤ (IntKind.u8.wrap ((IntKind.u8.wrap (Int.tdiv ((n.val : Nat) : Int) 16)) + 1)) ∧ (IntKind.u8.wrap ((IntKind.u8.wrap (Int.tdiv ((n.val : Nat) : Int) 16)) + 1)) ≤ (16 : Int)) ∧
 (0 ≤ (Int.tmod ((n.val : Nat) : Int) 16) ∧ (Int.tmod ((n.val : Nat) : Int) 16) ≤ (IntKind.u8.wrap ((Int.tmod ((n.val : Nat) : Int) 16) + 1)) ∧ (IntKind.u8.wrap ((Int.tmod ((n.val : Nat) : Int) 16) + 1)) ≤ (16 : Int)) := by decide +kernel
theorem rquote_at (c : UInt8) :
 (hexS.drop (IntKind.u8.wrap (Int.tdiv (c.toNat : Int) 16)).toNat).take ((IntKind.u8.wrap ((IntKind.u8.wrap (Int.tdiv (c.toNat : Int) 16)) + 1)).toNat - (IntKind.u8.wrap (Int.tdiv (c.toNat : Int) 16)).toNat) = [hexD (c.toNat / 16)] ∧
 (hexS.drop (Int.tmod (c.toNat : Int) 16).toNat).take ((IntKind.u8.wrap ((Int.tmod (c.toNat : Int) 16) + 1)).toNat - (Int.tmod (c.toNat : Int) 16).toNat) = [hexD (c.toNat % 16)] ∧
 (0 ≤ (IntKind.u8.wrap (Int.tdiv (c.toNat : Int) 16)) ∧ (IntKind.u8.wrap (Int.tdiv (c.toNat : Int) 16)) ≤ (IntKind.u8.wrap ((IntKind.u8.wrap (Int.tdiv (c.toNat : Int) 16)) + 1)) ∧ (IntKind.u8.wrap ((IntKind.u8.wrap (Int.tdiv (c.toNat : Int) 16)) + 1)) ≤ (16 : Int)) ∧
 (0 ≤ (Int.tmod (c.toNat : Int) 16) ∧ (Int.tmod (c.toNat : Int) 16) ≤ (IntKind.u8.wrap ((Int.tmod (c.toNat : Int) 16) + 1)) ∧ (IntKind.u8.wrap ((Int.tmod (c.toNat : Int) 16) + 1)) ≤ (16 : Int)) := rquote_tab ⟨c.toNat, c.toNat_lt⟩
attribute [local irreducible] IntKind.wrap Tri
theorem one_bytes : ∀ w : Bytes, allOne (w.map byteV) = true
 | [] => rfl
 | c :: w => by
   have := one_bytes w
   simp only [List.map_cons, allOne, this, Bool.and_true]; rfl
theorem und40' : Tryz.prog.underlying 40 = some (.slice 5) := rfl
theorem elem5' : ElemT 5 1 := ⟨_, _, rfl, rfl, rfl, rfl, by decide⟩
theorem LM.pushB {h0 h h' : PHeap} {a : OA} {n c cc b2 : Nat} {L w : Bytes} {ty : TypeId} {ρ : Operand → Value} {cl : Call} {x y : Operand} (hcl : cl.callee = .builtin .append) (hca : cl.args = #[x, y]) (hts : cl.argTypes = #[40, 40])
 (hx : ρ x = vL a n c) (hy : ρ y = vL (ad b2 0) w.length cc) (hx0 : Ext h0 h) (hL : LM 5 1 h0 h a n c (bL L)) (hb2 : h b2 = none) (hh : h' = h.put b2 (.cells ⟨w.map byteV⟩ 5 (0, 0))) (hw : 0 < w.length) (hn : n + w.length ≤ 10000000) :
 Raw Tryz.prog (execOp ρ (mkO (.call cl) ty)) h' fun v h2 => ∃ b cap, v = vL (ad b 0) (n + w.length) cap ∧ Ext h0 h2 ∧ LM 5 1 h0 h2 (ad b 0) (n + w.length) cap (bL (L ++ w)) := by
 have hL' := hL.ext (Put.ext hh hb2)
 have hx' := hx0.trans (Put.ext hh hb2)
 refine Raw.mono (LM.extend und40' elem5' hcl hca hts hx hy hx' hL' (css2 := bL w) (m := w.length) ?_ (by simp [bL]) (fun c hc => by obtain ⟨x, _, rfl⟩ := List.mem_map.1 hc; rfl) hw hn) ?_
 · rw [bL_flat]
   exact SrcH.row und40' (by simp) (row_lit (Put.at hh) fun j v hj => by simpa using hj) (one_bytes w)
 · rintro v h2 ⟨b, cap, rfl, g1, g2, _⟩
   exact ⟨b, cap, rfl, g1, by rw [bL_app]; exact g2⟩
theorem qcs_app : ∀ (a b : Bytes), qcs (a ++ b) = qcs a ++ qcs b
 | [], _ => rfl
 | c :: a, b => by rw [List.cons_append, qcs, qcs, qcs_app a b, List.append_assoc]
theorem qc_le (c : UInt8) : (qc c).length ≤ 4 := qc_len4 c
section
variable {h : PHeap}
theorem quote_t (s : Bytes) (hl : s.length ≤ 1000000) : Tri Tryz.prog 30 [vS s] h fun v h' => v = vS (quoteA s) ∧ Ext h h' := by
 refine T30 ?_
 unfold R30
 intro b1 hb1 h1 hh1
 have hM1 : LM 5 1 h h1 (ad b1 0) 1 1 (bL [34]) := by
  have := LM.after (e := 5) (k := 1) (h0 := h) (h := h) (a := none) (n := 0) (c := 0) (css := []) (b := b1) (m := 1) (cap := 1) (rest := []) (css2 := bL [34]) (z := (0, 0)) (fun _ h => h) LM.nil rfl (fun c hc => by obtain ⟨x, _, rfl⟩ := List.mem_map.1 hc; rfl) (by omega) (.inl hb1) rfl rfl (by omega)
  rw [hh1]; exact this
 refine ⟨fun m a n k i h' => ∃ j : Nat, i = (j : Int) ∧ j + m = s.length ∧ n = 1 + (qcs (s.take j)).length ∧ Ext h h' ∧ LM 5 1 h h' a n k (bL (34 :: qcs (s.take j))), ⟨s.length, 0, rfl, by omega, rfl, Put.ext hh1 hb1, hM1⟩, ?_⟩
 rintro m a n k _ h2 ⟨j, rfl, hjm, hnl, hx, hM⟩
 have hq4 : (qcs (s.take j)).length ≤ 4 * j := by
  have := qcs_len4 (s.take j)
  rw [List.length_take] at this; omega
 refine br_split (fun e => ?_) fun e => ?_
 · have hlt : j < s.length := by have := of_decide_eq_true e; omega
   have hg : s[j]? = some s[j] := by simp [hlt]
   have htk := List.take_append_getElem hlt
   generalize s[j] = c at *
   have hsn : qcs (s.take (j + 1)) = qcs (s.take j) ++ qc c := by rw [← htk, qcs_app]; simp [qcs]
   have hw1 : IntKind.i64.wrap ((j : Int) + 1) = ((j + 1 : Nat) : Int) := by rw [wrap64 (by omega) (by omega)]; omega
   have go : ∀ (w : Bytes) (b2 cc : Nat) (h3 : PHeap) (ρ : Operand → Value) (cl : Call) (x y : Operand), qc c = w → cl.callee = .builtin .append → cl.args = #[x, y] → cl.argTypes = #[40, 40] → ρ x = vL a n k → ρ y = vL (ad b2 0) w.length cc → h2 b2 = none → h3 = h2.put b2 (.cells ⟨w.map byteV⟩ 5 (0, 0)) →
    Raw Tryz.prog (execOp ρ (mkO (.call cl) 40)) h3 fun v h4 => ∃ (a2 : OA) (n2 k2 : Nat), v = vL a2 n2 k2 ∧ ∃ (m3 : Nat), m3 < m ∧ (∃ j' : Nat, IntKind.i64.wrap ((j : Int) + 1) = (j' : Int) ∧ j' + m3 = s.length ∧ n2 = 1 + (qcs (s.take j')).length ∧ Ext h h4 ∧ LM 5 1 h h4 a2 n2 k2 (bL (34 :: qcs (s.take j')))) ∧ True := by
    intro w b2 cc h3 ρ cl x y hw g1 g2 g3 g4 g5 g6 g7
    have h1 : 1 ≤ w.length := by rw [← hw]; exact qc_len c
    have h4 : w.length ≤ 4 := by rw [← hw]; exact qc_le c
    refine Raw.mono (LM.pushB g1 g2 g3 g4 g5 hx hM g6 g7 (by omega) (by omega)) ?_
    rintro v h4 ⟨b, cap, rfl, x4, hM4⟩
    refine ⟨_, _, _, rfl, m - 1, by omega, ⟨j + 1, hw1, by omega, ?_, x4, ?_⟩, trivial⟩
    · rw [hsn, hw, List.length_append]; omega
    · rw [hsn, hw]; exact hM4
   refine ⟨by omega, c, (by rw [Int.toNat_natCast]; exact hg), ?_⟩
   have k10 : ∀ n : Nat, n < 256 → ∀ b, (((c.toNat : Int) == (n : Int)) = b) → (c == UInt8.ofNat n) = b := fun n hn b hb => by
    rw [← hb, Bool.eq_iff_iff, beq_iff_eq, beq_iff_eq]
    constructor
    · rintro rfl; rw [UInt8.toNat_ofNat_of_lt' (by simpa using hn)]
    · intro h
      apply UInt8.toNat_inj.1
      rw [UInt8.toNat_ofNat_of_lt' (by simpa using hn)]; omega
   refine br_split (fun e1 => ?_) fun e1 => br_split (fun e2 => ?_) fun e2 => br_split (fun e3 => ?_) fun e3 => br_split (fun e4 => ?_) fun e4 => br_split (fun e5 => ?_) fun e5 => br_split (fun e6 => ?_) fun e6 => br_split (fun e7 => ?_) fun e7 => ?_
   all_goals have e1 : (c == 10) = _ := k10 10 (by omega) _ e1
   · intro b2 hb2 h3 hh3
     exact go [92, 110] b2 2 h3 _ _ _ _ (by unfold qc; rw [if_pos e1]) rfl rfl rfl rfl rfl hb2 hh3
   all_goals have e2 : (c == 9) = _ := k10 9 (by omega) _ e2
   · intro b2 hb2 h3 hh3
     exact go [92, 116] b2 2 h3 _ _ _ _ (by unfold qc; rw [if_neg (by rw [e1]; decide), if_pos e2]) rfl rfl rfl rfl rfl hb2 hh3
   all_goals have e3 : (c == 0) = _ := k10 0 (by omega) _ e3
   · intro b2 hb2 h3 hh3
     exact go [92, 48] b2 2 h3 _ _ _ _ (by unfold qc; rw [if_neg (by rw [e1]; decide), if_neg (by rw [e2]; decide), if_pos e3]) rfl rfl rfl rfl rfl hb2 hh3
   all_goals have e4 : (c == 92) = _ := k10 92 (by omega) _ e4
   · intro b2 hb2 h3 hh3
     exact go [92, c] b2 2 h3 _ _ _ _ (by unfold qc; rw [if_neg (by rw [e1]; decide), if_neg (by rw [e2]; decide), if_neg (by rw [e3]; decide), if_pos (by rw [show (c == 92) = true from e4]; rfl)]) rfl rfl rfl rfl rfl hb2 hh3
   all_goals have e5 : (c == 34) = _ := k10 34 (by omega) _ e5
   · intro b2 hb2 h3 hh3
     exact go [92, c] b2 2 h3 _ _ _ _ (by unfold qc; rw [if_neg (by rw [e1]; decide), if_neg (by rw [e2]; decide), if_neg (by rw [e3]; decide), if_pos (by rw [show (c == 34) = true from e5]; simp)]) rfl rfl rfl rfl rfl hb2 hh3
   all_goals have hq : qc c = if decide (c.toNat < 32) || decide (126 < c.toNat) then [92, 120, hexD (c.toNat / 16), hexD (c.toNat % 16)] else [c] := (by unfold qc; rw [if_neg (by rw [e1]; decide), if_neg (by rw [e2]; decide), if_neg (by rw [e3]; decide), if_neg (by rw [show (c == 92) = false from e4, show (c == 34) = false from e5]; decide)])
   · have e6 := of_decide_eq_true e6
     obtain ⟨t1, t2, t3, t4⟩ := quote_at c
     refine ⟨t3, _, t1, t4, _, t2, ?_⟩
     intro b2 hb2 h3 hh3
     exact go [92, 120, hexD (c.toNat / 16), hexD (c.toNat % 16)] b2 4 h3 _ _ _ _ (by rw [hq, if_pos (by simp; omega)]) rfl rfl rfl rfl rfl hb2 hh3
   · have e7 := of_decide_eq_true e7
     obtain ⟨t1, t2, t3, t4⟩ := quote_at c
     refine ⟨t3, _, t1, t4, _, t2, ?_⟩
     intro b2 hb2 h3 hh3
     exact go [92, 120, hexD (c.toNat / 16), hexD (c.toNat % 16)] b2 4 h3 _ _ _ _ (by rw [hq, if_pos (by simp; omega)]) rfl rfl rfl rfl rfl hb2 hh3
   · have e6 := of_decide_eq_false e6
     have e7 := of_decide_eq_false e7
     intro b2 hb2 h3 hh3
     exact go [c] b2 1 h3 _ _ _ _ (by rw [hq, if_neg (by simp; omega)]) rfl rfl rfl rfl rfl hb2 hh3
 · have hj : j = s.length := by have := of_decide_eq_false e; omega
   subst hj
   rw [List.take_length] at hM hnl hq4
   intro b2 hb2 h3 hh3
   refine Raw.mono (LM.pushB (w := [34]) (cc := 1) rfl rfl rfl rfl rfl hx hM hb2 hh3 (by decide) (by simp only [List.length_cons, List.length_nil]; omega)) ?_
   rintro v h4 ⟨b, cap, rfl, x4, hM4⟩
   exact ⟨_, _, _, rfl, _, hM4.bytes, rfl, x4⟩
theorem rquote_t (s : Bytes) (hl : s.length ≤ 1000000) : Tri Tryz.prog 31 [vS s] h fun v h' => v = vS (quoteA s) ∧ Ext h h' := by
 refine T31 ?_
 unfold R31
 refine ⟨fun m l i h' => ∃ j : Nat, i = (j : Int) ∧ j + m = s.length ∧ Ext h h' ∧ l = 34 :: qcs (s.take j), ⟨s.length, 0, rfl, by omega, Ext.refl _, rfl⟩, ?_⟩
 rintro m _ _ h2 ⟨j, rfl, hjm, hx, rfl⟩
 have hq4 : (34 :: qcs (s.take j)).length ≤ 4 * j + 1 := by
  have := qcs_len4 (s.take j)
  rw [List.length_take] at this; simp only [List.length_cons]; omega
 refine br_split (fun e => ?_) fun e => ?_
 · have hlt : j < s.length := by have := of_decide_eq_true e; omega
   have hg : s[j]? = some s[j] := by simp [hlt]
   have htk := List.take_append_getElem hlt
   generalize s[j] = c at *
   have hsn : qcs (s.take (j + 1)) = qcs (s.take j) ++ qc c := by rw [← htk, qcs_app]; simp [qcs]
   have hw1 : IntKind.i64.wrap ((j : Int) + 1) = ((j + 1 : Nat) : Int) := by rw [wrap64 (by omega) (by omega)]; omega
   have go : ∀ (l : Bytes) (h3 : PHeap), l = (34 :: qcs (s.take j)) ++ qc c → Ext h2 h3 → ∃ (m3 : Nat), m3 < m ∧ (∃ j' : Nat, IntKind.i64.wrap ((j : Int) + 1) = (j' : Int) ∧ j' + m3 = s.length ∧ Ext h h3 ∧ l = 34 :: qcs (s.take j')) ∧ True := fun l h3 hl2 x3 =>
    ⟨m - 1, by omega, ⟨j + 1, hw1, by omega, hx.trans x3, by rw [hl2, hsn]; rfl⟩, trivial⟩
   refine ⟨by omega, c, (by rw [Int.toNat_natCast]; exact hg), ?_⟩
   have k10 : ∀ n : Nat, n < 256 → ∀ b, (((c.toNat : Int) == (n : Int)) = b) → (c == UInt8.ofNat n) = b := fun n hn b hb => by
    rw [← hb, Bool.eq_iff_iff, beq_iff_eq, beq_iff_eq]
    constructor
    · rintro rfl; rw [UInt8.toNat_ofNat_of_lt' (by simpa using hn)]
    · intro h
      apply UInt8.toNat_inj.1
      rw [UInt8.toNat_ofNat_of_lt' (by simpa using hn)]; omega
   have box : ∀ {b : Nat} {h3 : PHeap}, h3 = h2.put b (.cells ⟨[vU (c.toNat : Int)]⟩ 5) → BytesAt h3 (ad b 0) 1 [c] := fun {b h3} hh =>
    .inr ⟨b, 0, rfl, rfl, by subst hh; exact (cell_of (put_same _ _ _) 0).trans rfl⟩
   refine br_split (fun e1 => ?_) fun e1 => br_split (fun e2 => ?_) fun e2 => br_split (fun e3 => ?_) fun e3 => br_split (fun e4 => ?_) fun e4 => br_split (fun e5 => ?_) fun e5 => br_split (fun e6 => ?_) fun e6 => br_split (fun e7 => ?_) fun e7 => ?_
   all_goals have e1 : (c == 10) = _ := k10 10 (by omega) _ e1
   · exact ⟨by simp only [List.length_cons, List.length_nil] at *; omega, go _ h2 (by unfold qc; rw [if_pos e1]) (Ext.refl _)⟩
   all_goals have e2 : (c == 9) = _ := k10 9 (by omega) _ e2
   · exact ⟨by simp only [List.length_cons, List.length_nil] at *; omega, go _ h2 (by unfold qc; rw [if_neg (by rw [e1]; decide), if_pos e2]) (Ext.refl _)⟩
   all_goals have e3 : (c == 0) = _ := k10 0 (by omega) _ e3
   · exact ⟨by simp only [List.length_cons, List.length_nil] at *; omega, go _ h2 (by unfold qc; rw [if_neg (by rw [e1]; decide), if_neg (by rw [e2]; decide), if_pos e3]) (Ext.refl _)⟩
   all_goals have e4 : (c == 92) = _ := k10 92 (by omega) _ e4
   · refine ⟨by simp only [List.length_cons, List.length_nil] at *; omega, ?_⟩
     intro b2 hb2 h3 hh3
     refine ⟨[c], box hh3, by simp only [List.length_append, List.length_cons, List.length_nil] at *; omega, go _ h3 (by unfold qc; rw [if_neg (by rw [e1]; decide), if_neg (by rw [e2]; decide), if_neg (by rw [e3]; decide), if_pos (by rw [show (c == 92) = true from e4]; rfl), List.append_assoc]; rfl) (Put.ext hh3 hb2)⟩
   all_goals have e5 : (c == 34) = _ := k10 34 (by omega) _ e5
   · refine ⟨by simp only [List.length_cons, List.length_nil] at *; omega, ?_⟩
     intro b2 hb2 h3 hh3
     refine ⟨[c], box hh3, by simp only [List.length_append, List.length_cons, List.length_nil] at *; omega, go _ h3 (by unfold qc; rw [if_neg (by rw [e1]; decide), if_neg (by rw [e2]; decide), if_neg (by rw [e3]; decide), if_pos (by rw [show (c == 34) = true from e5]; simp), List.append_assoc]; rfl) (Put.ext hh3 hb2)⟩
   all_goals have hq : qc c = if decide (c.toNat < 32) || decide (126 < c.toNat) then [92, 120, hexD (c.toNat / 16), hexD (c.toNat % 16)] else [c] := (by unfold qc; rw [if_neg (by rw [e1]; decide), if_neg (by rw [e2]; decide), if_neg (by rw [e3]; decide), if_neg (by rw [show (c == 92) = false from e4, show (c == 34) = false from e5]; decide)])
   all_goals obtain ⟨t1, t2, t3, t4⟩ := rquote_at c
   all_goals unfold hexS at t1 t2
   · have e6 := of_decide_eq_true e6
     rw [t1, t2]
     refine ⟨by simp only [List.length_cons, List.length_nil] at *; omega, t3, by simp only [List.length_append, List.length_cons, List.length_nil] at *; omega, t4, by simp only [List.length_append, List.length_cons, List.length_nil] at *; omega, go _ h2 ?_ (Ext.refl _)⟩
     rw [hq, if_pos (by simp; omega), List.append_assoc, List.append_assoc]; rfl
   · have e7 := of_decide_eq_true e7
     rw [t1, t2]
     refine ⟨by simp only [List.length_cons, List.length_nil] at *; omega, t3, by simp only [List.length_append, List.length_cons, List.length_nil] at *; omega, t4, by simp only [List.length_append, List.length_cons, List.length_nil] at *; omega, go _ h2 ?_ (Ext.refl _)⟩
     rw [hq, if_pos (by simp; omega), List.append_assoc, List.append_assoc]; rfl
   · have e6 := of_decide_eq_false e6
     have e7 := of_decide_eq_false e7
     intro b2 hb2 h3 hh3
     exact ⟨[c], box hh3, by simp only [List.length_append, List.length_cons, List.length_nil] at *; omega, go _ h3 (by rw [hq, if_neg (by simp; omega)]) (Put.ext hh3 hb2)⟩
 · have hj : j = s.length := by have := of_decide_eq_false e; omega
   subst hj
   rw [List.take_length] at *
   exact ⟨by simp only [List.length_cons, List.length_nil] at *; omega, rfl, hx⟩
end
theorem quotes_tri {h : PHeap} (hO : OpTab h) (hM : MaxLen h) (l1 : Bs) : Tri Tryz.prog 9 [vS l1] h fun v h' => v = vB true ∧ ∀ k o, h k = some o → h' k = some o := by
 refine T9 ?_
 unfold R9
 refine ⟨if 300 < (l1.length : Int) then 300 else (l1.length : Int), pureVal_run _ (by kernel_rfl), by split <;> omega, ?_⟩
 have hcut : (l1.drop 0).take ((if 300 < (l1.length : Int) then 300 else (l1.length : Int)).toNat - 0) = l1.take 300 := by
  rw [List.drop_zero, Nat.sub_zero]
  split
  · rfl
  · rw [Int.toNat_natCast, List.take_length, List.take_of_length_le (by omega)]
 rw [hcut]
 have hb : (l1.take 300).length ≤ 300 := by rw [List.length_take]; omega
 generalize l1.take 300 = s at *
 refine Tri.mono (quote_t s (by omega)) ?_
 rintro _ h1 ⟨rfl, x1⟩
 have hql : (quoteA s).length ≤ 1202 := by
  have := qcs_len4 s
  unfold quoteA; simp only [List.length_cons, List.length_append, List.length_nil]; omega
 refine ⟨_, rfl, by simp only [List.length_cons, List.length_nil]; omega, ?_⟩
 refine Tri.mono (asm_t (qText s) (hO.ext x1) (hM.ext x1)) ?_
 rintro v h2 ⟨x2, hr⟩
 rw [quote_back hb] at hr
 obtain ⟨a1, k1, a2, k2, rfl, hI, hL, _, _⟩ := hr
 have x12 := x1.trans x2
 refine ⟨_, _, _, _, _, _, _, _, _, _, _, rfl, ?_⟩
 refine Tri.mono (known_t (hO.ext x12) (hM.ext x12)) ?_
 rintro _ h3 ⟨rfl, x3⟩
 refine ⟨_, rfl, br_pos rfl ?_⟩
 refine Tri.mono (rquote_t s (by omega)) ?_
 rintro _ h4 ⟨rfl, x4⟩
 exact ⟨_, rfl, br_pos (by simp) (br_pos rfl ⟨by simp, (x12.trans x3).trans x4⟩)⟩
end Go.Proofs.D
