import Derived.Test.YteegmpghbhmekaaGreatDoorB7
import Derived.Laws.MakeOwn
namespace Go.Proofs.D
open Go Go.Den
set_option maxRecDepth 100000
set_option maxHeartbeats 4000000
abbrev elk1 : List CK := [.slice, .str, qi, qi, .slice]
abbrev o4_3 : Op := .makeSlice 40 (.tmp 20) (.tmp 20)
noncomputable def d4 : DCode := up ⟨[(14, .c (.one false [.bool])), (21, .c (.one false [.slice])), (35, .c (.tup [(true, elk1), (false, [qi]), (false, [qi])])), (62, .c (.one false [.str])), (64, .c (.tup [(true, elk1), (false, [qi]), (false, [qi])])), (90, .l [qi]), (96, .l [.str])], [30], [(22, 10, [(7, qi)], [])]⟩ (low Tryz.prog (fun _ => false) (Tryz.f4.body.getD .skip))
theorem low4 : low Tryz.prog (fun _ => false) (Tryz.f4.body.getD .skip) = some (eC d4) := by kernel_rfl
def R4 (i1 : Int) (i2 : Int) (h : PHeap) (Q : Value → PHeap → Prop) : Prop :=
 Tri Tryz.prog 15 [] h fun v_1 h_1 =>
 ∃ (c1 : Bool), v_1 = vB c1 ∧
 br (!c1)
 (Q (vB false) h_1)
 (Raw Tryz.prog (execOp (rho [(20, vI (IntKind.i64.wrap (65531 + (IntKind.i64.wrap ((Int.tmod i1 4)))))), (20, vI (IntKind.i64.wrap (65531 + (IntKind.i64.wrap ((Int.tmod i1 4))))))]) (mkO o4_3 40)) h_1 fun v_2 h_2 =>
 ∃ (a1 : OA) (n1 elk1 : Nat), v_2 = vL a1 n1 elk1 ∧
 ∃ (I_1 : Nat → Int → PHeap → Prop), (∃ (m2 : Nat), I_1 m2 (0 : Int) h_2) ∧
 ∀ (m1 : Nat) (i3 : Int) (h_3 : PHeap), I_1 m1 i3 h_3 →
 br (decide (i3 < ((n1 : Nat) : Int)))
 (∃ (b1 o1 : Nat), a1 = some ⟨b1, o1, none⟩ ∧ (0 ≤ i3 ∧ i3 < n1) ∧
 ∃ (l1 : List Value) (t1 : TypeId) (z1 : Nat × Nat), h_3 b1 = some (.cells ⟨l1⟩ t1 z1) ∧ ((o1 + (i3).toNat * 1) + 1 ≤ l1.length ∧ z1.2 ≤ (o1 + (i3).toNat * 1)) ∧
 ∀ (h_4 : PHeap), h_4 = h_3.put b1 (.cells ⟨splice l1 (o1 + (i3).toNat * 1) [vU 32]⟩ t1 z1) →
 ∃ (m3 : Nat), m3 < m1 ∧ I_1 m3 (IntKind.i64.wrap (i3 + 1)) h_4 ∧
 True)
 (∃ (l2 : Bs), BytesAt h_3 a1 n1 l2 ∧
 l2.length + ([104, 97, 108, 116] : Bs).length ≤ 9223372036854775807 ∧
 Tri Tryz.prog 13 [vS (l2 ++ ([104, 97, 108, 116] : Bs))] h_3 fun v_3 h_5 =>
 ∃ (a2 : OA) (n2 k2 : Nat) (l3 : Bs) (i4 i5 : Int) (a3 : OA) (n3 k3 : Nat) (i6 i7 : Int), v_3 = vT [vA [vL a2 n2 k2, vS l3, vI i4, vI i5, vL a3 n3 k3], vI i6, vI i7] ∧
 br (decide ((IntKind.i64.wrap ((Int.tmod i1 4))) > 1))
 (br (i7 != 5)
 (Q (vB false) h_5)
 (br (i6 != 0)
 (Q (vB false) h_5)
 (br (decide ((IntKind.i64.wrap ((Int.tmod i1 4))) ≤ 1))
 (br (i7 != 0)
 (Q (vB false) h_5)
 (Tri Tryz.prog 18 [vI (Int.tmod (IntKind.i64.wrap (i2)) 4200)] h_5 fun v_4 h_6 =>
 ∃ (l4 : Bs), v_4 = vS l4 ∧
 ([104, 97, 108, 116, 10, 46, 100, 97, 116, 97, 10, 46, 115, 112, 97, 99, 101, 32, 49, 48, 48, 10, 46, 122, 101, 114, 111, 32] : Bs).length + l4.length ≤ 9223372036854775807 ∧
 Tri Tryz.prog 13 [vS (([104, 97, 108, 116, 10, 46, 100, 97, 116, 97, 10, 46, 115, 112, 97, 99, 101, 32, 49, 48, 48, 10, 46, 122, 101, 114, 111, 32] : Bs) ++ l4)] h_6 fun v_5 h_7 =>
 ∃ (a4 : OA) (n4 k4 : Nat) (l5 : Bs) (i8 i9 : Int) (a5 : OA) (n5 k5 : Nat) (i10 i11 : Int), v_5 = vT [vA [vL a4 n4 k4, vS l5, vI i8, vI i9, vL a5 n5 k5], vI i10, vI i11] ∧
 br (decide ((Int.tmod (IntKind.i64.wrap (i2)) 4200) > 4096))
 (br (i11 == 2)
 (Q (vB (i10 == 4)) h_7)
 (Q (vB false) h_7))
 (br (decide ((Int.tmod (IntKind.i64.wrap (i2)) 4200) > 3932))
 (br (i11 == 9)
 (Q (vB (i10 == 0)) h_7)
 (Q (vB false) h_7))
 (br (i11 == 0)
 (br (i8 == (Int.tmod (IntKind.i64.wrap (i2)) 4200))
 (Q (vB ((l5.length : Int) == 100)) h_7)
 (Q (vB false) h_7))
 (Q (vB false) h_7)))))
 (Tri Tryz.prog 18 [vI (Int.tmod (IntKind.i64.wrap (i2)) 4200)] h_5 fun v_6 h_8 =>
 ∃ (l6 : Bs), v_6 = vS l6 ∧
 ([104, 97, 108, 116, 10, 46, 100, 97, 116, 97, 10, 46, 115, 112, 97, 99, 101, 32, 49, 48, 48, 10, 46, 122, 101, 114, 111, 32] : Bs).length + l6.length ≤ 9223372036854775807 ∧
 Tri Tryz.prog 13 [vS (([104, 97, 108, 116, 10, 46, 100, 97, 116, 97, 10, 46, 115, 112, 97, 99, 101, 32, 49, 48, 48, 10, 46, 122, 101, 114, 111, 32] : Bs) ++ l6)] h_8 fun v_7 h_9 =>
 ∃ (a6 : OA) (n6 k6 : Nat) (l7 : Bs) (i12 i13 : Int) (a7 : OA) (n7 k7 : Nat) (i14 i15 : Int), v_7 = vT [vA [vL a6 n6 k6, vS l7, vI i12, vI i13, vL a7 n7 k7], vI i14, vI i15] ∧
 br (decide ((Int.tmod (IntKind.i64.wrap (i2)) 4200) > 4096))
 (br (i15 == 2)
 (Q (vB (i14 == 4)) h_9)
 (Q (vB false) h_9))
 (br (decide ((Int.tmod (IntKind.i64.wrap (i2)) 4200) > 3932))
 (br (i15 == 9)
 (Q (vB (i14 == 0)) h_9)
 (Q (vB false) h_9))
 (br (i15 == 0)
 (br (i12 == (Int.tmod (IntKind.i64.wrap (i2)) 4200))
 (Q (vB ((l7.length : Int) == 100)) h_9)
 (Q (vB false) h_9))
 (Q (vB false) h_9)))))))
 (br (decide ((IntKind.i64.wrap ((Int.tmod i1 4))) ≤ 1))
 (br (i7 != 0)
 (Q (vB false) h_5)
 (Tri Tryz.prog 18 [vI (Int.tmod (IntKind.i64.wrap (i2)) 4200)] h_5 fun v_8 h_10 =>
 ∃ (l8 : Bs), v_8 = vS l8 ∧
 ([104, 97, 108, 116, 10, 46, 100, 97, 116, 97, 10, 46, 115, 112, 97, 99, 101, 32, 49, 48, 48, 10, 46, 122, 101, 114, 111, 32] : Bs).length + l8.length ≤ 9223372036854775807 ∧
 Tri Tryz.prog 13 [vS (([104, 97, 108, 116, 10, 46, 100, 97, 116, 97, 10, 46, 115, 112, 97, 99, 101, 32, 49, 48, 48, 10, 46, 122, 101, 114, 111, 32] : Bs) ++ l8)] h_10 fun v_9 h_11 =>
 ∃ (a8 : OA) (n8 k8 : Nat) (l9 : Bs) (i16 i17 : Int) (a9 : OA) (n9 k9 : Nat) (i18 i19 : Int), v_9 = vT [vA [vL a8 n8 k8, vS l9, vI i16, vI i17, vL a9 n9 k9], vI i18, vI i19] ∧
 br (decide ((Int.tmod (IntKind.i64.wrap (i2)) 4200) > 4096))
 (br (i19 == 2)
 (Q (vB (i18 == 4)) h_11)
 (Q (vB false) h_11))
 (br (decide ((Int.tmod (IntKind.i64.wrap (i2)) 4200) > 3932))
 (br (i19 == 9)
 (Q (vB (i18 == 0)) h_11)
 (Q (vB false) h_11))
 (br (i19 == 0)
 (br (i16 == (Int.tmod (IntKind.i64.wrap (i2)) 4200))
 (Q (vB ((l9.length : Int) == 100)) h_11)
 (Q (vB false) h_11))
 (Q (vB false) h_11)))))
 (Tri Tryz.prog 18 [vI (Int.tmod (IntKind.i64.wrap (i2)) 4200)] h_5 fun v_10 h_12 =>
 ∃ (l10 : Bs), v_10 = vS l10 ∧
 ([104, 97, 108, 116, 10, 46, 100, 97, 116, 97, 10, 46, 115, 112, 97, 99, 101, 32, 49, 48, 48, 10, 46, 122, 101, 114, 111, 32] : Bs).length + l10.length ≤ 9223372036854775807 ∧
 Tri Tryz.prog 13 [vS (([104, 97, 108, 116, 10, 46, 100, 97, 116, 97, 10, 46, 115, 112, 97, 99, 101, 32, 49, 48, 48, 10, 46, 122, 101, 114, 111, 32] : Bs) ++ l10)] h_12 fun v_11 h_13 =>
 ∃ (a10 : OA) (n10 k10 : Nat) (l11 : Bs) (i20 i21 : Int) (a11 : OA) (n11 k11 : Nat) (i22 i23 : Int), v_11 = vT [vA [vL a10 n10 k10, vS l11, vI i20, vI i21, vL a11 n11 k11], vI i22, vI i23] ∧
 br (decide ((Int.tmod (IntKind.i64.wrap (i2)) 4200) > 4096))
 (br (i23 == 2)
 (Q (vB (i22 == 4)) h_13)
 (Q (vB false) h_13))
 (br (decide ((Int.tmod (IntKind.i64.wrap (i2)) 4200) > 3932))
 (br (i23 == 9)
 (Q (vB (i22 == 0)) h_13)
 (Q (vB false) h_13))
 (br (i23 == 0)
 (br (i20 == (Int.tmod (IntKind.i64.wrap (i2)) 4200))
 (Q (vB ((l11.length : Int) == 100)) h_13)
 (Q (vB false) h_13))
 (Q (vB false) h_13)))))))
theorem T4 {i1 : Int} {i2 : Int} {h : PHeap} {Q : Value → PHeap → Prop} (hR : R4 i1 i2 h Q) : Tri Tryz.prog 4 [vU i1, .int .u16 i2] h Q :=
 tri_of_dn mixed Tryz.func4 rfl (by kernel_rfl) low4 (rs := [.tmp 4]) (by kernel_rfl) rfl (Eq.mpr (by kernel_rfl : dnF Tryz.prog Tryz.f4.ntmps d4 [.tmp 4] [vU i1, .int .u16 i2] h Q = R4 i1 i2 h Q) hR)
noncomputable def d18 : DCode := up ⟨[(8, .c (.one false [.str])), (19, .c (.one false [.str]))], [], []⟩ (low Tryz.prog (fun _ => false) (Tryz.f18.body.getD .skip))
theorem low18 : low Tryz.prog (fun _ => false) (Tryz.f18.body.getD .skip) = some (eC d18) := by kernel_rfl
def R18 (i1 : Int) (h : PHeap) (Q : Value → PHeap → Prop) : Prop :=
 br (decide (i1 < 0))
 (Tri Tryz.prog 18 [vI (IntKind.i64.wrap (0 - i1))] h fun v_1 h_1 =>
 ∃ (l1 : Bs), v_1 = vS l1 ∧
 ([45] : Bs).length + l1.length ≤ 9223372036854775807 ∧
 Q (vS (([45] : Bs) ++ l1)) h_1)
 (br (decide (i1 < 10))
 ((0 ≤ i1 ∧ i1 ≤ (IntKind.i64.wrap (i1 + 1)) ∧ (IntKind.i64.wrap (i1 + 1)) ≤ (10 : Int)) ∧
 Q (vS ((([48, 49, 50, 51, 52, 53, 54, 55, 56, 57] : Bs).drop (i1).toNat).take ((IntKind.i64.wrap (i1 + 1)).toNat - (i1).toNat))) h)
 ((0 ≤ (Int.tmod i1 10) ∧ (Int.tmod i1 10) ≤ (IntKind.i64.wrap ((Int.tmod i1 10) + 1)) ∧ (IntKind.i64.wrap ((Int.tmod i1 10) + 1)) ≤ (10 : Int)) ∧
 Tri Tryz.prog 18 [vI (IntKind.i64.wrap (Int.tdiv i1 10))] h fun v_2 h_2 =>
 ∃ (l2 : Bs), v_2 = vS l2 ∧
 l2.length + ((([48, 49, 50, 51, 52, 53, 54, 55, 56, 57] : Bs).drop (Int.tmod i1 10).toNat).take ((IntKind.i64.wrap ((Int.tmod i1 10) + 1)).toNat - (Int.tmod i1 10).toNat)).length ≤ 9223372036854775807 ∧
 Q (vS (l2 ++ ((([48, 49, 50, 51, 52, 53, 54, 55, 56, 57] : Bs).drop (Int.tmod i1 10).toNat).take ((IntKind.i64.wrap ((Int.tmod i1 10) + 1)).toNat - (Int.tmod i1 10).toNat)))) h_2))
theorem T18 {i1 : Int} {h : PHeap} {Q : Value → PHeap → Prop} (hR : R18 i1 h Q) : Tri Tryz.prog 18 [vI i1] h Q :=
 tri_of_dn mixed Tryz.func18 rfl (by kernel_rfl) low18 (rs := [.tmp 2]) (by kernel_rfl) rfl (Eq.mpr (by kernel_rfl : dnF Tryz.prog Tryz.f18.ntmps d18 [.tmp 2] [vI i1] h Q = R18 i1 h Q) hR)
end Go.Proofs.D
namespace Go.Proofs.D
open Go Go.Den Go.As
set_option maxRecDepth 100000
def tenS : Bytes := [48, 49, 50, 51, 52, 53, 54, 55, 56, 57]
theorem ten_tab : ∀ n : Fin 10, (tenS.drop n.val).take 1 = [UInt8.ofNat (48 + n.val)] := by decide +kernel
theorem ten_at {n : Nat} (h : n < 10) : (tenS.drop n).take 1 = [UInt8.ofNat (48 + n)] := ten_tab ⟨n, h⟩
attribute [local irreducible] IntKind.wrap Tri
theorem decimal_t : ∀ (n : Nat), n ≤ 1000000000000 → ∀ {h : PHeap}, Tri Tryz.prog 18 [vI (n : Int)] h fun v h' => v = vS (digs n) ∧ h' = h := by
 intro n
 induction n using Nat.strongRecOn with
 | ind n ih =>
   intro hn h
   refine T18 ?_
   unfold R18
   refine br_neg (decide_eq_false (by omega)) (br_split (fun e => ?_) fun e => ?_)
   · have e := of_decide_eq_true e
     have e : n < 10 := by omega
     have hw : IntKind.i64.wrap ((n : Int) + 1) = ((n + 1 : Nat) : Int) := by rw [wrap64 (by omega) (by omega)]; omega
     rw [hw]
     refine ⟨⟨by omega, by omega, by omega⟩, ?_, rfl⟩
     rw [Int.toNat_natCast, Int.toNat_natCast, Nat.add_sub_cancel_left]
     rw [digs, dif_pos e]
     exact congrArg vS (ten_at e)
   · have e := of_decide_eq_false e
     have hm : Int.tmod (n : Int) 10 = ((n % 10 : Nat) : Int) := by rw [Int.tmod_eq_emod_of_nonneg (by omega)]; omega
     have hd : Int.tdiv (n : Int) 10 = ((n / 10 : Nat) : Int) := by rw [Int.tdiv_eq_ediv_of_nonneg (by omega)]; omega
     have hw : IntKind.i64.wrap (((n % 10 : Nat) : Int) + 1) = ((n % 10 + 1 : Nat) : Int) := by rw [wrap64 (by omega) (by omega)]; omega
     have hw2 : IntKind.i64.wrap ((n / 10 : Nat) : Int) = ((n / 10 : Nat) : Int) := wrap64 (by omega) (by omega)
     rw [hm, hd, hw, hw2]
     refine ⟨⟨by omega, by omega, by omega⟩, ?_⟩
     refine Tri.mono (ih (n / 10) (by omega) (by omega)) ?_
     rintro _ h1 ⟨rfl, rfl⟩
     have ht : (tenS.drop ((n % 10 : Nat) : Int).toNat).take (((n % 10 + 1 : Nat) : Int).toNat - ((n % 10 : Nat) : Int).toNat) = [UInt8.ofNat (48 + n % 10)] := by
      rw [Int.toNat_natCast, Int.toNat_natCast, Nat.add_sub_cancel_left]
      exact ten_at (Nat.mod_lt _ (by decide))
     unfold tenS at ht
     rw [ht]
     have hl := digs_len 12 (n / 10) (by omega)
     refine ⟨_, rfl, by rw [List.length_singleton]; omega, ?_, rfl⟩
     conv => rhs; rw [digs, dif_neg (by omega)]
theorem raw_makeB {h : PHeap} {N : Nat} {ty : TypeId} {ρ : Operand → Value} {x y : Operand} (hx : ρ x = vI (N : Int)) (hy : ρ y = vI (N : Int)) (hN : N ≤ 1000000) :
 Raw Tryz.prog (execOp ρ (mkO (.makeSlice 40 x y) ty)) h fun v h' => ∃ b, h b = none ∧ v = vL (ad b 0) N N ∧ h' = h.put b (.cells ⟨List.replicate N (byteV 0)⟩ 5 (0, 0)) := by
 intro w hs
 have hinf : ∃ i, Tryz.prog.info? 5 = some i ∧ i.bytes = 1 ∧ i.size = 1 ∧ i.zero = some (byteV 0) := ⟨_, rfl, rfl, rfl, rfl⟩
 obtain ⟨i, hi, hby, hsz, hz⟩ := hinf
 have hrun := run_makeSlice (P := Tryz.prog) w 40 5 i (byteV 0) rfl hi hz .i64 .i64 (N : Int) (N : Int) (by omega) (Int.le_refl _) (by rw [hsz]; omega) (by rw [hby]; omega) (by omega)
 have hmc : madeCells (byteV 0).cells ((N : Int).toNat * i.size) = ⟨List.replicate N (byteV 0)⟩ := by
  rw [hsz, Int.toNat_natCast, Nat.mul_one]
  apply Array.ext'
  show (madeCells #[byteV 0] N).toList = List.replicate N (byteV 0)
  unfold madeCells
  apply List.ext_getElem?
  intro j
  by_cases hj : j < N <;> simp [List.getElem?_replicate, Nat.mod_one, hj]
 rw [hmc] at hrun
 rw [Int.toNat_natCast] at hrun
 refine ⟨.value (vL (ad w.heap.size 0) N N), vL (ad w.heap.size 0) N N, w.alloc (.cells ⟨List.replicate N (byteV 0)⟩ 5), h.put w.heap.size (.cells ⟨List.replicate N (byteV 0)⟩ 5), ?_, .inl rfl, ⟨_, hs.fresh, rfl, rfl⟩, hs.allocReal _, Keep.allocReal w h _⟩
 simp only [execOp, mkO, hx, hy]
 simp [hrun]
def tail4 (i2 : Int) (h_5 : PHeap) (Q : Value → PHeap → Prop) : Prop :=
 (Tri Tryz.prog 18 [vI (Int.tmod (IntKind.i64.wrap (i2)) 4200)] h_5 fun v_4 h_6 =>
 ∃ (l4 : Bs), v_4 = vS l4 ∧
 ([104, 97, 108, 116, 10, 46, 100, 97, 116, 97, 10, 46, 115, 112, 97, 99, 101, 32, 49, 48, 48, 10, 46, 122, 101, 114, 111, 32] : Bs).length + l4.length ≤ 9223372036854775807 ∧
 Tri Tryz.prog 13 [vS (([104, 97, 108, 116, 10, 46, 100, 97, 116, 97, 10, 46, 115, 112, 97, 99, 101, 32, 49, 48, 48, 10, 46, 122, 101, 114, 111, 32] : Bs) ++ l4)] h_6 fun v_5 h_7 =>
 ∃ (a4 : OA) (n4 k4 : Nat) (l5 : Bs) (i8 i9 : Int) (a5 : OA) (n5 k5 : Nat) (i10 i11 : Int), v_5 = vT [vA [vL a4 n4 k4, vS l5, vI i8, vI i9, vL a5 n5 k5], vI i10, vI i11] ∧
 br (decide ((Int.tmod (IntKind.i64.wrap (i2)) 4200) > 4096))
 (br (i11 == 2)
 (Q (vB (i10 == 4)) h_7)
 (Q (vB false) h_7))
 (br (decide ((Int.tmod (IntKind.i64.wrap (i2)) 4200) > 3932))
 (br (i11 == 9)
 (Q (vB (i10 == 0)) h_7)
 (Q (vB false) h_7))
 (br (i11 == 0)
 (br (i8 == (Int.tmod (IntKind.i64.wrap (i2)) 4200))
 (Q (vB ((l5.length : Int) == 100)) h_7)
 (Q (vB false) h_7))
 (Q (vB false) h_7))))
theorem tail_4 {h : PHeap} (hO : OpTab h) (hM : MaxLen h) {k2 : Nat} (hk2 : k2 < 65536) {Q : Value → PHeap → Prop} (hQ : ∀ h', Ext h h' → Q (vB true) h') : tail4 (k2 : Int) h Q := by
 unfold tail4
 have hz : Int.tmod (IntKind.i64.wrap (k2 : Int)) 4200 = ((k2 % 4200 : Nat) : Int) := by
  rw [wrap64 (by omega) (by omega), Int.tmod_eq_emod_of_nonneg (by omega)]; omega
 rw [hz]
 have hlt : k2 % 4200 < 4200 := Nat.mod_lt _ (by decide)
 generalize k2 % 4200 = z at *
 refine Tri.mono (decimal_t z (by omega)) ?_
 rintro _ h1 ⟨rfl, rfl⟩
 obtain ⟨d1, d2, d3⟩ := digs_ok z
 have d4 := digs_len 4 z (by omega)
 refine ⟨_, rfl, by simp only [List.length_cons, List.length_nil]; omega, ?_⟩
 refine Tri.mono (asm_t (zText (digs z)) hO hM) ?_
 rintro v h2 ⟨x2, hr⟩
 rw [limits_zero d1 d3 (by omega), d2] at hr
 by_cases h1 : 4096 < z
 · rw [if_pos h1] at hr
   obtain ⟨_, rfl⟩ := hr
   exact ⟨_, _, _, _, _, _, _, _, _, _, _, rfl, br_pos (by simp; omega) (br_pos rfl (hQ _ x2))⟩
 rw [if_neg h1] at hr
 by_cases h3 : 3932 < z
 · rw [if_pos h3] at hr
   obtain ⟨_, rfl⟩ := hr
   exact ⟨_, _, _, _, _, _, _, _, _, _, _, rfl, br_neg (by simp; omega) (br_pos (by simp; omega) (br_pos rfl (hQ _ x2)))⟩
 rw [if_neg h3] at hr
 obtain ⟨a1, k1, a2, k2, rfl, _⟩ := hr
 exact ⟨_, _, _, _, _, _, _, _, _, _, _, rfl, br_neg (by simp; omega) (br_neg (by simp; omega) (br_pos rfl (br_pos (by simp) (hQ _ x2))))⟩
theorem limits_tri {h : PHeap} (hO : OpTab h) (hM : MaxLen h) {k1 k2 : Nat} (hk1 : k1 < 256) (hk2 : k2 < 65536) : Tri Tryz.prog 4 [vU (k1 : Int), .int .u16 (k2 : Int)] h fun v h' => v = vB true ∧ ∀ k o, h k = some o → h' k = some o := by
 refine T4 ?_
 unfold R4
 refine Tri.mono (known_t hO hM) ?_
 rintro _ h1 ⟨rfl, x1⟩
 refine ⟨_, rfl, br_neg rfl ?_⟩
 have hn : IntKind.i64.wrap (Int.tmod (k1 : Int) 4) = ((k1 % 4 : Nat) : Int) := by
  rw [Int.tmod_eq_emod_of_nonneg (by omega), wrap64 (by omega) (by omega)]; omega
 have hlt : k1 % 4 < 4 := Nat.mod_lt _ (by decide)
 rw [hn]
 generalize k1 % 4 = n at *
 have hN : IntKind.i64.wrap (65531 + (n : Int)) = ((65531 + n : Nat) : Int) := by rw [wrap64 (by omega) (by omega)]; omega
 rw [hN]
 refine Raw.mono (raw_makeB (N := 65531 + n) rfl rfl (by omega)) ?_
 rintro _ h2 ⟨b, hb, rfl, hh2⟩
 have hxb : ∀ o, Ext h1 (h1.put b o) := fun o => Ext.put hb o
 refine ⟨_, _, _, rfl, ?_⟩
 refine ⟨fun m i h' => ∃ j : Nat, i = (j : Int) ∧ j + m = 65531 + n ∧ h' = h1.put b (.cells ⟨List.replicate j (byteV 32) ++ List.replicate (65531 + n - j) (byteV 0)⟩ 5 (0, 0)), ⟨65531 + n, 0, rfl, by omega, by rw [hh2]; rfl⟩, ?_⟩
 rintro m _ h3 ⟨j, rfl, hjm, rfl⟩
 refine br_split (fun e => ?_) fun e => ?_
 · have hlt2 : j < 65531 + n := by have := of_decide_eq_true e; omega
   refine ⟨b, 0, rfl, ⟨by omega, by omega⟩, _, _, _, put_same _ _ _, ⟨?_, Nat.zero_le _⟩, ?_⟩
   · rw [Int.toNat_natCast, List.length_append, List.length_replicate, List.length_replicate]; omega
   rintro h4 rfl
   refine ⟨m - 1, by omega, ⟨j + 1, by rw [wrap64 (by omega) (by omega)]; omega, by omega, ?_⟩, trivial⟩
   rw [put_put, Int.toNat_natCast, Nat.zero_add, Nat.mul_one]
   have hsp : splice (List.replicate j (byteV 32) ++ List.replicate (65531 + n - j) (byteV 0)) j [vU 32] = List.replicate (j + 1) (byteV 32) ++ List.replicate (65531 + n - (j + 1)) (byteV 0) := by
    unfold splice
    have h1 : (List.replicate j (byteV 32) ++ List.replicate (65531 + n - j) (byteV 0)).take j = List.replicate j (byteV 32) := by
     rw [List.take_append_of_le_length (by simp), List.take_of_length_le (by simp)]
    have h2 : (List.replicate j (byteV 32) ++ List.replicate (65531 + n - j) (byteV 0)).drop (j + [vU 32].length) = List.replicate (65531 + n - (j + 1)) (byteV 0) := by
     rw [List.drop_append, List.length_replicate]
     simp only [List.length_cons, List.length_nil, List.drop_replicate]
     rw [show j - (j + (0 + 1)) = 0 by omega, show 65531 + n - j - (j + (0 + 1) - j) = 65531 + n - (j + 1) by omega]; rfl
    rw [h1, h2, List.replicate_succ']; rfl
   rw [hsp]
 · have hj : j = 65531 + n := by have := of_decide_eq_false e; omega
   subst hj
   refine ⟨List.replicate (65531 + n) 32, .inr ⟨b, 0, rfl, by simp, ?_⟩, by simp only [List.length_replicate, List.length_cons, List.length_nil]; omega, ?_⟩
   · rw [List.map_replicate]
     refine row_lit (put_same _ _ _) fun j v hj => ?_
     rw [Nat.zero_add, List.getElem?_append_left (List.getElem?_eq_some_iff.1 hj).1]; exact hj
   have x3 := x1.trans (hxb (.cells ⟨List.replicate (65531 + n) (byteV 32) ++ List.replicate (65531 + n - (65531 + n)) (byteV 0)⟩ 5 (0, 0)))
   generalize h1.put b _ = h3 at *
   refine Tri.mono (asm_t (List.replicate (65531 + n) 32 ++ haltB) (hO.ext x3) (hM.ext x3)) ?_
   rintro v h4 ⟨x4, hr⟩
   have x34 := x3.trans x4
   have tl : tail4 (k2 : Int) h4 fun v h' => v = vB true ∧ ∀ k o, h k = some o → h' k = some o := tail_4 (hO.ext x34) (hM.ext x34) hk2 fun h' x => ⟨rfl, x34.trans x⟩
   rw [limits_long] at hr
   by_cases h1 : 1 < n
   · rw [if_pos h1] at hr
     obtain ⟨_, rfl⟩ := hr
     refine ⟨_, _, _, _, _, _, _, _, _, _, _, rfl, br_pos (by simp; omega) (br_neg rfl (br_neg rfl (br_neg (by simp; omega) tl)))⟩
   · rw [if_neg h1] at hr
     obtain ⟨a1, k1, a2, k2', rfl, _⟩ := hr
     refine ⟨_, _, _, _, _, _, _, _, _, _, _, rfl, br_neg (by simp; omega) (br_pos (by simp; omega) (br_neg rfl tl))⟩
end Go.Proofs.D
