import Derived.Test.YtifjnoabmbckpaaGreatDoorSam8
import Derived.WalkKit
import Derived.ProofKit
import Derived.OpenShut
import Derived.Deep.DeepHandedRow
namespace Go.Proofs.D
open Go Go.Den Go.Sx
set_option maxRecDepth 100000
attribute [local irreducible] IntKind.wrap Tri parseS
section
variable {s : Bytes} {g : PHeap} {cb m1 m2 : Nat} {gl fn : Tab} {c : CS} {h h' : PHeap}
theorem RStr_str {h : PHeap} {a : OA} {L : List Bytes} (hA : At 1 RStr h a L) : StrAt h a L := by
 rcases hA with hA | ⟨b, o, ha, hA⟩
 · exact .inl hA
 · refine .inr ⟨b, o, ha, fun j l hj => ?_⟩
   obtain ⟨cs, g1, g2⟩ := hA j l hj
   have g2 : cs = [vS l] := g2
   subst g2
   have : h.cell b (o + j * 1) = some (vS l) := g1
   rwa [Nat.mul_one] at this
theorem loopB {fs : List F} (hc : cntFs fs ≤ 10000) {fa : OA} (hF : At 5 (RF (plP s) 8 7) g fa fs) {Q : PHeap → Prop} {T : Prop} (hT : T)
 (hk : KS s g cb m1 m2 gl fn c h) (hQ : ∀ h c', KS s g cb m1 m2 gl fn c' h → c'.err = ckB gl fn fs c.err → Q h) :
 ∃ (I_3 : Nat → Int → PHeap → Prop), (∃ (m11 : Nat), I_3 m11 (0 : Int) h) ∧ ∀ (m10 : Nat) (i10 : Int) (h_11 : PHeap), I_3 m10 i10 h_11 →
   br (decide (i10 < ((fs.length : Nat) : Int)))
    (∃ (b4 o3 : Nat), fa = some ⟨b4, o3, none⟩ ∧ (0 ≤ i10 ∧ i10 < fs.length) ∧
     ∃ (l3 : Bs) (a5 : OA) (n5 k5 : Nat) (a6 : OA) (n6 k6 : Nat) (i11 i12 : Int), h_11.row b4 (o3 + (i10).toNat * 5) [vS l3, vL a5 n5 k5, vL a6 n6 k6, vI i11, vI i12] ∧
     Tri Tryz.prog 60 [vL a5 n5 k5] h_11 fun v_8 h_12 => ∃ (a7 : OA) (n7 k7 : Nat), v_8 = vL a7 n7 k7 ∧
      ∃ (l4 : List Value) (t1 : TypeId) (z1 : Nat × Nat), h_12 cb = some (.cells ⟨l4⟩ t1 z1) ∧ (2 + 1 ≤ l4.length ∧ z1.2 ≤ 2) ∧ ∀ (h_13 : PHeap), h_13 = h_12.put cb (.cells ⟨splice l4 2 [vL a7 n7 k7]⟩ t1 z1) →
        ∃ (l5 : List Value) (t2 : TypeId) (z2 : Nat × Nat), h_13 cb = some (.cells ⟨l5⟩ t2 z2) ∧ (3 + 1 ≤ l5.length ∧ z2.2 ≤ 3) ∧ ∀ (h_14 : PHeap), h_14 = h_13.put cb (.cells ⟨splice l5 3 [vI ((n5 : Nat) : Int)]⟩ t2 z2) →
          Tri Tryz.prog 61 [vP cb 0, vL a6 n6 k6, vB false] h_14 fun v_9 h_15 => v_9 = vT [] ∧ ∃ (m12 : Nat), m12 < m10 ∧ I_3 m12 (IntKind.i64.wrap (i10 + 1)) h_15 ∧ T ∧ True)
    (Q h_11) := by
 have hlen := cntFs_len fs
 refine ⟨fun m i h' => ∃ (j : Nat) (c' : CS), i = j ∧ j + m = fs.length ∧ KS s g cb m1 m2 gl fn c' h' ∧ ckB gl fn (fs.drop j) c'.err = ckB gl fn fs c.err, ⟨fs.length, 0, c, rfl, by omega, hk, rfl⟩, ?_⟩
 rintro m _ h1 ⟨j, c', rfl, hjm, hk1, he⟩
 refine br_split (fun e2 => ?_) (fun e2 => ?_)
 · have hj : j < fs.length := by
    have := of_decide_eq_true e2
    omega
   obtain ⟨b, o, cs, rfl, hr, hrel⟩ := hF.get hj
   have hcj := cntFs_mem (List.getElem_mem hj)
   rw [List.drop_eq_getElem_cons hj, ckB] at he
   generalize fs[j] = x at *
   obtain ⟨a1, c1, a2, c2, rfl, hP, hB, hok⟩ := hrel
   simp only [cntF] at hcj
   refine ⟨b, o, rfl, ⟨by omega, by omega⟩, _, _, _, _, _, _, _, _, _, row_ext (fun ob => hk1.ext b ob) hr, ?_⟩
   refine Tri.mono (clone_t ((RStr_str hP).ext hk1.ext) hok (by omega)) ?_
   rintro _ h2 ⟨a', k', rfl, ho2, hx2, hf2⟩
   obtain ⟨a0, k0, hb0, hv0⟩ := hk1.bl
   refine ⟨_, _, _, rfl, _, _, _, hx2 _ _ hb0, ⟨by simp, Nat.zero_le _⟩, ?_⟩
   intro h3 hh3
   refine ⟨_, _, _, Put.at hh3, ⟨by simp [splice], Nat.zero_le _⟩, ?_⟩
   intro h4 hh4
   have hx4 := (Put.chg hh3).trans (Put.chg hh4)
   obtain ⟨L1, ck1, hm1, _⟩ := hk1.mg
   obtain ⟨L2, ck2, hm2, _⟩ := hk1.mf
   have hB2 : KB g cb m1 m2 gl fn h2 := hk1.toKB.of (hk1.ext.trans hx2) (by rw [hx2 _ _ hm1, hm1]) (by rw [hx2 _ _ hm2, hm2])
   have hv2 : KV g cb m1 m2 h2 a' k' x.params := ⟨ho2, fun q hq => by
    have hn := hf2 q hq
    refine ⟨fun e => ?_, fun e => ?_, fun e => ?_, ?_⟩
    · subst e; rw [hb0] at hn; cases hn
    · subst e; rw [hm1] at hn; cases hn
    · subst e; rw [hm2] at hn; cases hn
    · cases hg : g q with
      | none => rfl
      | some o => rw [hk1.ext _ _ hg] at hn; cases hn⟩
   have hk4 : KS s g cb m1 m2 gl fn ⟨c'.err, x.params, x.params.length⟩ h4 := ⟨hB2.chg hx4, hk1.er, Nat.le_refl _, a', k', Put.at hh4, hv2.chg hx4⟩
   refine Tri.mono (list_t (fun e _ => stmt_t _ e (Nat.le_refl _)) hB false hk4 (by show x.params.length + cntSs x.body ≤ _; omega)) ?_
   rintro _ h5 ⟨rfl, hk5⟩
   refine ⟨rfl, m - 1, by omega, ⟨j + 1, _, ?_, by omega, hk5, he⟩, hT, trivial⟩
   rw [wrap64 (by omega) (by omega)]; rfl
 · have : fs.length ≤ j := by
    have := of_decide_eq_false e2
    omega
   rw [List.drop_eq_nil_of_le this] at he
   exact hQ _ _ hk1 he
theorem check_tri {p : Pg} (hw : ∀ f ∈ p.funcs, wfSs f.body) (hc : cntP p ≤ 4097) {ga fa : OA} {gc fc : Nat} (hG : At 5 (RG (plP s)) h ga p.globals) (hF : At 5 (RF (plP s) 8 7) h fa p.funcs) :
 Tri Tryz.prog 19 [vA [vL ga p.globals.length gc, vL fa p.funcs.length fc]] h fun v h' => v = vT [vI (erp s (checkS p)).1, vI (erp s (checkS p)).2.1, vI (erp s (checkS p)).2.2] ∧ Ext h h' := by
 refine T19 ?_
 unfold R19
 refine Tri.mono (tree_tri hw hc hF) ?_
 rintro _ h1 ⟨rfl, hx1⟩
 have hG := hG.ext (RG_mono _) hx1
 have hF := hF.ext (RF_mono _ _ _) hx1
 refine ⟨_, rfl, br_neg rfl ?_⟩
 refine raw_makeMap fun m1 hm1 => ⟨m1, rfl, ?_⟩
 refine raw_makeMap fun m2 hm2 => ⟨m2, rfl, ?_⟩
 intro cb hcb h4 hh4
 simp only [cntP] at hc
 have hlen := cntFs_len p.funcs
 have hn21 : m2 ≠ m1 := fun e => by subst e; rw [put_same] at hm2; cases hm2
 have hm2' : h1 m2 = none := by rwa [put_ne hn21] at hm2
 have hnc2 : cb ≠ m2 := fun e => by subst e; rw [put_same] at hcb; cases hcb
 rw [put_ne hnc2] at hcb
 have hnc1 : cb ≠ m1 := fun e => by subst e; rw [put_same] at hcb; cases hcb
 rw [put_ne hnc1] at hcb
 have hk4 : KS s h1 cb m1 m2 [] [] ⟨none, [], 0⟩ h4 := by
  refine ⟨⟨fun k o hk => ?_, hcb, hm1, hm2', hnc1.symm, hnc2.symm, hn21.symm, ⟨[], 0, ?_, fun n => rfl⟩, ⟨[], 0, ?_, fun n => rfl⟩⟩, (fun x hx => by cases hx), Nat.le_refl _, none, 0, Put.at hh4, ⟨by simp, .inl ⟨rfl, rfl⟩⟩, fun b hb => by cases hb⟩
  · rw [hh4, put_ne (fun e => by subst e; rw [hcb] at hk; cases hk), put_ne (fun e => by subst e; rw [hm2'] at hk; cases hk), put_ne (fun e => by subst e; rw [hm1] at hk; cases hk)]
    exact hk
  · rw [hh4, put_ne hnc1.symm, put_ne hn21.symm, put_same]; rfl
  · rw [hh4, put_ne hnc2.symm, put_same]; rfl
 clear hh4 hcb hm1 hm2 hn21 hm2' hnc1 hnc2
 refine ⟨fun m i h' => ∃ (j : Nat) (gl : Tab) (e : Er), i = j ∧ j + m = p.globals.length ∧ KS s h1 cb m1 m2 gl [] ⟨e, [], 0⟩ h' ∧ ckGs j (p.globals.drop j) gl e = ckGs 0 p.globals [] none, ⟨p.globals.length, 0, [], none, rfl, by omega, hk4, rfl⟩, ?_⟩
 clear hk4
 rintro m _ h5 ⟨j, gl, e, rfl, hjm, hk5, he⟩
 refine br_split (fun e2 => ?_) (fun e2 => ?_)
 · have hj : j < p.globals.length := by
    have := of_decide_eq_true e2
    omega
   obtain ⟨b, o, cs, rfl, hr, hrel⟩ := hG.get hj
   rw [List.drop_eq_getElem_cons hj, ckGs] at he
   generalize p.globals[j] = x at *
   have hrel : cs = [vS x.name, vI x.size, vI x.value] ++ plP s x.pos := hrel
   subst hrel
   refine ⟨b, o, rfl, ⟨by omega, by omega⟩, _, _, _, _, _, row_ext (fun ob => hk5.ext b ob) hr, ?_⟩
   refine Tri.mono (global_t hk5 j x) ?_
   rintro _ h6 ⟨rfl, hk6⟩
   refine ⟨rfl, m - 1, by omega, ⟨j + 1, _, _, ?_, by omega, hk6, he⟩, rfl, trivial⟩
   rw [wrap64 (by omega) (by omega)]; rfl
 have : p.globals.length ≤ j := by
  have := of_decide_eq_false e2
  omega
 rw [List.drop_eq_nil_of_le this] at he
 have he1 : gl = (ckGs 0 p.globals [] none).1 := (congrArg Prod.fst he)
 have he2 : e = (ckGs 0 p.globals [] none).2 := (congrArg Prod.snd he)
 clear e2 this he hjm
 refine ⟨fun m i h' => ∃ (j : Nat) (fn : Tab) (e' : Er), i = j ∧ j + m = p.funcs.length ∧ KS s h1 cb m1 m2 gl fn ⟨e', [], 0⟩ h' ∧ ckFs gl j (p.funcs.drop j) fn e' = ckFs gl 0 p.funcs [] e, ⟨p.funcs.length, 0, [], e, rfl, by omega, hk5, rfl⟩, ?_⟩
 rintro m _ h7 ⟨j, fn, e', rfl, hjm, hk7, he⟩
 refine br_split (fun e3 => ?_) (fun e3 => ?_)
 · have hj : j < p.funcs.length := by
    have := of_decide_eq_true e3
    omega
   obtain ⟨b, o, cs, rfl, hr, hrel⟩ := hF.get hj
   have hcj := cntFs_mem (List.getElem_mem hj)
   rw [List.drop_eq_getElem_cons hj, ckFs] at he
   generalize p.funcs[j] = x at *
   obtain ⟨a1, c1, a2, c2, rfl, hP, hB, hok⟩ := hrel
   simp only [cntF] at hcj
   refine ⟨b, o, rfl, ⟨by omega, by omega⟩, _, _, _, _, _, _, _, _, _, row_ext (fun ob => hk7.ext b ob) hr, ?_⟩
   refine Tri.mono (function_t hk7 j x hP hok (by omega)) ?_
   rintro _ h8 ⟨rfl, hk8⟩
   refine ⟨rfl, m - 1, by omega, ⟨j + 1, _, _, ?_, by omega, hk8, he⟩, rfl, trivial⟩
   rw [wrap64 (by omega) (by omega)]; rfl
 have : p.funcs.length ≤ j := by
  have := of_decide_eq_false e3
  omega
 rw [List.drop_eq_nil_of_le this] at he
 have he3 : fn = (ckFs gl 0 p.funcs [] e).1 := (congrArg Prod.fst he)
 have he4 : e' = (ckFs gl 0 p.funcs [] e).2 := (congrArg Prod.snd he)
 clear e3 this he hjm
 obtain ⟨a7, k7, hb7, hv7⟩ := hk7.bl
 refine ⟨_, cell_of hb7 1, ?_⟩
 refine Raw.mono (lookF (l := mainS) hk7.toKB rfl rfl 117) ?_
 rintro _ h7 ⟨rfl, rfl⟩
 have hck : checkS p = ckB gl fn p.funcs (failC ((getT fn mainS).isNone || ((getT fn mainS).getD 0 != 0)) none 8 e') := by
  rw [checkS, he4, he3, he2, he1]
 have fin : ∀ (h9 : PHeap) (c' : CS), KS s h1 cb m1 m2 gl fn c' h9 → c'.err = ckB gl fn p.funcs (failC ((getT fn mainS).isNone || ((getT fn mainS).getD 0 != 0)) none 8 e') →
  ∃ (i13 : Int), h9.cell cb 4 = some (vI i13) ∧ ∃ (i14 : Int), h9.cell cb 5 = some (vI i14) ∧ ∃ (i15 : Int), h9.cell cb 6 = some (vI i15) ∧
    vT [vI i13, vI i14, vI i15] = vT [vI (erp s (checkS p)).1, vI (erp s (checkS p)).2.1, vI (erp s (checkS p)).2.2] ∧ Ext h h9 := fun h9 c' hk9 he9 => by
  obtain ⟨a9, k9, hb9, hv9⟩ := hk9.bl
  refine ⟨_, cell_of hb9 4, _, cell_of hb9 5, _, cell_of hb9 6, ?_, hx1.trans hk9.ext⟩
  rw [he9, ← hck]
 refine ⟨_, _, rfl, br_split (fun e5 => ?_) (fun e5 => ?_)⟩
 · have e5 : (getT fn mainS).isNone = true := by cases hq : getT fn mainS with
    | none => rfl
    | some x => rw [hq] at e5; cases e5
   refine Tri.mono (fail_t hk7 _ none 8 (by decide)) ?_
   rintro _ h8 ⟨rfl, hk8⟩
   refine ⟨rfl, loopB (by omega) hF rfl hk8 fun h9 c' hk9 he9 => fin h9 c' hk9 ?_⟩
   rw [he9, e5, Bool.true_or]
 · have e5 : (getT fn mainS).isNone = false := by cases hq : getT fn mainS with
    | none => rw [hq] at e5; cases e5
    | some x => rfl
   refine Tri.mono (fail_t hk7 _ none 8 (by decide)) ?_
   rintro _ h8 ⟨rfl, hk8⟩
   refine ⟨rfl, loopB (by omega) hF rfl hk8 fun h9 c' hk9 he9 => fin h9 c' hk9 ?_⟩
   rw [he9, e5, Bool.false_or, bne_cast]
end
end Go.Proofs.D
namespace Go.Proofs.D
open Go Go.Den
set_option maxRecDepth 100000
set_option maxHeartbeats 4000000
abbrev dzk1 : List CK := [qi, .str, .str, qi, .str, .slice, qi, qi]
noncomputable def d22 : DCode := up ⟨[(7, .l dzk1), (8, .c (.one false [.bool])), (10, .l dzk1), (11, .c (.one false [.str]))], [], []⟩ (low Tryz.prog (fun d => Nat.beq d 5) (Tryz.f22.body.getD .skip))
theorem low22 : low Tryz.prog (fun d => Nat.beq d 5) (Tryz.f22.body.getD .skip) = some (eC d22) := by kernel_rfl
def R22 (i1 : Int) (l1 : Bs) (l2 : Bs) (i2 : Int) (l3 : Bs) (a1 : OA) (n1 : Nat) (dzk1 : Nat) (i3 : Int) (i4 : Int) (h : PHeap) (Q : Value → PHeap → Prop) : Prop :=
 ∀ (b1 : Nat), h b1 = none → ∀ (h_1 : PHeap), h_1 = h.put b1 (.cells ⟨[vI 4096]⟩ 129) →
 Tri Tryz.prog 66 [vP b1 0, vA [vI i1, vS l1, vS l2, vI i2, vS l3, vL a1 n1 dzk1, vI i3, vI i4]] h_1 fun v_1 h_2 =>
 ∃ (c1 : Bool), v_1 = vB c1 ∧
 br (!c1)
 (Q (vS []) h_2)
 (Tri Tryz.prog 67 [vA [vI i1, vS l1, vS l2, vI i2, vS l3, vL a1 n1 dzk1, vI i3, vI i4]] h_2 fun v_2 h_3 =>
 ∃ (l4 : Bs), v_2 = vS l4 ∧
 Q (vS l4) h_3)
theorem T22 {i1 : Int} {l1 : Bs} {l2 : Bs} {i2 : Int} {l3 : Bs} {a1 : OA} {n1 : Nat} {dzk1 : Nat} {i3 : Int} {i4 : Int} {h : PHeap} {Q : Value → PHeap → Prop} (hR : R22 i1 l1 l2 i2 l3 a1 n1 dzk1 i3 i4 h Q) : Tri Tryz.prog 22 [vA [vI i1, vS l1, vS l2, vI i2, vS l3, vL a1 n1 dzk1, vI i3, vI i4]] h Q :=
 tri_of_dn mixed Tryz.func22 rfl (by kernel_rfl) low22 (rs := [.tmp 2]) (by kernel_rfl) rfl (Eq.mpr (by kernel_rfl : dnF Tryz.prog Tryz.f22.ntmps d22 [.tmp 2] [vA [vI i1, vS l1, vS l2, vI i2, vS l3, vL a1 n1 dzk1, vI i3, vI i4]] h Q = R22 i1 l1 l2 i2 l3 a1 n1 dzk1 i3 i4 h Q) hR)
abbrev o67_1 : Op := .call { callee := (.builtin .append), args := #[(.tmp 18), (.tmp 21)], argTypes := #[51, 51] }
noncomputable def d67 : DCode := up ⟨[(12, .l [.slice]), (17, .l dzk1), (19, .l dzk1), (20, .c (.one false [.str])), (22, .c (.one false [.slice])), (25, .l [qi]), (29, .l [qi]), (30, .c (.one false [.str])), (35, .l [.str]), (36, .c (.tup [(false, [.str]), (false, [qi])])), (43, .l [.str]), (47, .l [.str]), (53, .l [.str]), (56, .c (.one false [.str])), (62, .l [.str]), (65, .l [.str]), (67, .l [.slice]), (70, .l [qi]), (72, .c (.one false [.str])), (77, .l [.str]), (78, .c (.one false [qi])), (81, .l [.str]), (83, .l [.slice]), (86, .l [qi]), (90, .l [.slice]), (93, .l [.str]), (94, .c (.one false [qi])), (98, .c (.one false [.str])), (101, .l [.str]), (103, .l [.slice]), (106, .l [qi]), (110, .l [.slice]), (113, .l [.str]), (114, .c (.one false [qi])), (118, .c (.one false [.str])), (122, .l [.str]), (128, .l [.str])], [], [(15, 12, [(3, .slice), (14, qi)], [])]⟩ (low Tryz.prog (fun _ => false) (Tryz.f67.body.getD .skip))
theorem low67 : low Tryz.prog (fun _ => false) (Tryz.f67.body.getD .skip) = some (eC d67) := by kernel_rfl
def R67 (i1 : Int) (l1 : Bs) (l2 : Bs) (i2 : Int) (l3 : Bs) (a1 : OA) (n1 : Nat) (dzk1 : Nat) (i3 : Int) (i4 : Int) (h : PHeap) (Q : Value → PHeap → Prop) : Prop :=
 ∃ (I_1 : Nat → OA → Nat → Nat → Int → PHeap → Prop), (∃ (m2 : Nat), I_1 m2 none 0 0 (0 : Int) h) ∧
 ∀ (m1 : Nat) (a2 : OA) (n2 : Nat) (k2 : Nat) (i5 : Int) (h_1 : PHeap), I_1 m1 a2 n2 k2 i5 h_1 →
 br (decide (i5 < ((n1 : Nat) : Int)))
 (∃ (b1 o1 : Nat), a1 = some ⟨b1, o1, none⟩ ∧ (0 ≤ i5 ∧ i5 < n1) ∧
 ∃ (i6 : Int) (l4 l5 : Bs) (i7 : Int) (l6 : Bs) (a3 : OA) (n3 k3 : Nat) (i8 i9 : Int), h_1.row b1 (o1 + (i5).toNat * 8) [vI i6, vS l4, vS l5, vI i7, vS l6, vL a3 n3 k3, vI i8, vI i9] ∧
 Tri Tryz.prog 67 [vA [vI i6, vS l4, vS l5, vI i7, vS l6, vL a3 n3 k3, vI i8, vI i9]] h_1 fun v_1 h_2 =>
 ∃ (l7 : Bs), v_1 = vS l7 ∧
 ∀ (b2 : Nat), h_2 b2 = none → ∀ (h_3 : PHeap), h_3 = h_2.put b2 (.cells ⟨[vS l7]⟩ 9) →
 Raw Tryz.prog (execOp (rho [(18, vL a2 n2 k2), (21, vL (ad b2 0) 1 1)]) (mkO o67_1 51)) h_3 fun v_2 h_4 =>
 ∃ (a4 : OA) (n4 k4 : Nat), v_2 = vL a4 n4 k4 ∧
 ∃ (m3 : Nat), m3 < m1 ∧ I_1 m3 a4 n4 k4 (IntKind.i64.wrap (i5 + 1)) h_4 ∧
 tv [vI i1, vS l1, vS l2, vI i2, vS l3, vL a1 n1 dzk1, vI i3, vI i4] ∧ True)
 (br (i1 == 1)
 (Tri Tryz.prog 80 [vI i2] h_1 fun v_3 h_5 =>
 ∃ (l8 : Bs), v_3 = vS l8 ∧
 Q (vS l8) h_5)
 (br (i1 == 2)
 (Tri Tryz.prog 109 [vS l3] h_1 fun v_4 h_6 =>
 ∃ (l9 : Bs) (i10 : Int), v_4 = vT [vS l9, vI i10] ∧
 Q (vS l9) h_6)
 (br (i1 == 4)
 (l2.length + ([91] : Bs).length ≤ 9223372036854775807 ∧
 ∃ (b3 o2 : Nat), a2 = some ⟨b3, o2, none⟩ ∧ (0 ≤ (0 : Int) ∧ (0 : Int) < n2) ∧
 ∃ (l10 : Bs), h_1.cell b3 o2 = some (vS l10) ∧
 (l2 ++ ([91] : Bs)).length + l10.length ≤ 9223372036854775807 ∧
 ((l2 ++ ([91] : Bs)) ++ l10).length + ([93] : Bs).length ≤ 9223372036854775807 ∧
 Q (vS (((l2 ++ ([91] : Bs)) ++ l10) ++ ([93] : Bs))) h_1)
 (br (i1 == 5)
 (l2.length + ([40] : Bs).length ≤ 9223372036854775807 ∧
 Tri Tryz.prog 81 [vL a2 n2 k2, vS [44, 32]] h_1 fun v_5 h_7 =>
 ∃ (l11 : Bs), v_5 = vS l11 ∧
 (tv [vS l2]) ∧
 (l2 ++ ([40] : Bs)).length + l11.length ≤ 9223372036854775807 ∧
 ((l2 ++ ([40] : Bs)) ++ l11).length + ([41] : Bs).length ≤ 9223372036854775807 ∧
 Q (vS (((l2 ++ ([40] : Bs)) ++ l11) ++ ([41] : Bs))) h_7)
 (br (i1 == 6)
 (∃ (b4 o3 : Nat), a2 = some ⟨b4, o3, none⟩ ∧ (0 ≤ (0 : Int) ∧ (0 : Int) < n2) ∧
 ∃ (l12 : Bs), h_1.cell b4 o3 = some (vS l12) ∧
 ∃ (b5 o4 : Nat), a1 = some ⟨b5, o4, none⟩ ∧ (0 ≤ (0 : Int) ∧ (0 : Int) < n1) ∧
 ∃ (i11 : Int), h_1.cell b5 o4 = some (vI i11) ∧
 Tri Tryz.prog 110 [vS l12, vB (i11 == 7)] h_1 fun v_6 h_8 =>
 ∃ (l13 : Bs), v_6 = vS l13 ∧
 (h_8.cell b5 o4 = some (vI i11)) ∧
 (tv [vL a1 n1 dzk1]) ∧
 (tv [vS l1]) ∧
 l1.length + l13.length ≤ 9223372036854775807 ∧
 Q (vS (l1 ++ l13)) h_8)
 (br (i1 == 7)
 (Tri Tryz.prog 26 [vS l1] h_1 fun v_7 h_9 =>
 ∃ (i12 : Int), v_7 = vI i12 ∧
 ∃ (b6 o5 : Nat), a2 = some ⟨b6, o5, none⟩ ∧ (0 ≤ (0 : Int) ∧ (0 : Int) < n2) ∧
 ∃ (l14 : Bs), h_9.cell b6 o5 = some (vS l14) ∧
 ∃ (b7 o6 : Nat), a1 = some ⟨b7, o6, none⟩ ∧ (0 ≤ (0 : Int) ∧ (0 : Int) < n1) ∧
 ∃ (i13 : Int), h_9.cell b7 o6 = some (vI i13) ∧
 br (i13 == 7)
 (∃ (b8 o7 : Nat), a1 = some ⟨b8, o7, none⟩ ∧ (0 ≤ (0 : Int) ∧ (0 : Int) < n1) ∧
 ∃ (l15 : Bs), h_9.cell b8 (o7 + 1) = some (vS l15) ∧
 Tri Tryz.prog 26 [vS l15] h_9 fun v_8 h_10 =>
 ∃ (i14 : Int), v_8 = vI i14 ∧
 (tv [vL a1 n1 dzk1]) ∧
 (h_10.cell b7 o6 = some (vI i13)) ∧
 (tv [vL a1 n1 dzk1]) ∧
 (h_10.cell b6 o5 = some (vS l14)) ∧
 Tri Tryz.prog 110 [vS l14, vB (decide (i14 < i12))] h_10 fun v_9 h_11 =>
 ∃ (l16 : Bs), v_9 = vS l16 ∧
 (tv [vL a1 n1 dzk1]) ∧
 (h_11.cell b7 o6 = some (vI i13)) ∧
 (tv [vL a1 n1 dzk1]) ∧
 ∃ (b9 o8 : Nat), a2 = some ⟨b9, o8, none⟩ ∧ (0 ≤ (1 : Int) ∧ (1 : Int) < n2) ∧
 ∃ (l17 : Bs), h_11.cell b9 (o8 + 1) = some (vS l17) ∧
 ∃ (b10 o9 : Nat), a1 = some ⟨b10, o9, none⟩ ∧ (0 ≤ (1 : Int) ∧ (1 : Int) < n1) ∧
 ∃ (i15 : Int), h_11.cell b10 (o9 + 8) = some (vI i15) ∧
 br (i15 == 7)
 (∃ (b11 o10 : Nat), a1 = some ⟨b11, o10, none⟩ ∧ (0 ≤ (1 : Int) ∧ (1 : Int) < n1) ∧
 ∃ (l18 : Bs), h_11.cell b11 (o10 + 9) = some (vS l18) ∧
 Tri Tryz.prog 26 [vS l18] h_11 fun v_10 h_12 =>
 ∃ (i16 : Int), v_10 = vI i16 ∧
 (tv [vL a1 n1 dzk1]) ∧
 (h_12.cell b10 (o9 + 8) = some (vI i15)) ∧
 (tv [vL a1 n1 dzk1]) ∧
 (h_12.cell b9 (o8 + 1) = some (vS l17)) ∧
 Tri Tryz.prog 110 [vS l17, vB (decide (i16 ≤ i12))] h_12 fun v_11 h_13 =>
 ∃ (l19 : Bs), v_11 = vS l19 ∧
 (tv [vL a1 n1 dzk1]) ∧
 (h_13.cell b10 (o9 + 8) = some (vI i15)) ∧
 (tv [vL a1 n1 dzk1]) ∧
 l16.length + ([32] : Bs).length ≤ 9223372036854775807 ∧
 (l16 ++ ([32] : Bs)).length + l1.length ≤ 9223372036854775807 ∧
 ((l16 ++ ([32] : Bs)) ++ l1).length + ([32] : Bs).length ≤ 9223372036854775807 ∧
 (((l16 ++ ([32] : Bs)) ++ l1) ++ ([32] : Bs)).length + l19.length ≤ 9223372036854775807 ∧
 Q (vS ((((l16 ++ ([32] : Bs)) ++ l1) ++ ([32] : Bs)) ++ l19)) h_13)
 ((h_11.cell b10 (o9 + 8) = some (vI i15)) ∧
 (tv [vL a1 n1 dzk1]) ∧
 (h_11.cell b9 (o8 + 1) = some (vS l17)) ∧
 Tri Tryz.prog 110 [vS l17, vB false] h_11 fun v_12 h_14 =>
 ∃ (l20 : Bs), v_12 = vS l20 ∧
 (h_14.cell b10 (o9 + 8) = some (vI i15)) ∧
 (tv [vL a1 n1 dzk1]) ∧
 l16.length + ([32] : Bs).length ≤ 9223372036854775807 ∧
 (l16 ++ ([32] : Bs)).length + l1.length ≤ 9223372036854775807 ∧
 ((l16 ++ ([32] : Bs)) ++ l1).length + ([32] : Bs).length ≤ 9223372036854775807 ∧
 (((l16 ++ ([32] : Bs)) ++ l1) ++ ([32] : Bs)).length + l20.length ≤ 9223372036854775807 ∧
 Q (vS ((((l16 ++ ([32] : Bs)) ++ l1) ++ ([32] : Bs)) ++ l20)) h_14))
 ((h_9.cell b7 o6 = some (vI i13)) ∧
 (tv [vL a1 n1 dzk1]) ∧
 (h_9.cell b6 o5 = some (vS l14)) ∧
 Tri Tryz.prog 110 [vS l14, vB false] h_9 fun v_13 h_15 =>
 ∃ (l21 : Bs), v_13 = vS l21 ∧
 (h_15.cell b7 o6 = some (vI i13)) ∧
 (tv [vL a1 n1 dzk1]) ∧
 ∃ (b12 o11 : Nat), a2 = some ⟨b12, o11, none⟩ ∧ (0 ≤ (1 : Int) ∧ (1 : Int) < n2) ∧
 ∃ (l22 : Bs), h_15.cell b12 (o11 + 1) = some (vS l22) ∧
 ∃ (b13 o12 : Nat), a1 = some ⟨b13, o12, none⟩ ∧ (0 ≤ (1 : Int) ∧ (1 : Int) < n1) ∧
 ∃ (i17 : Int), h_15.cell b13 (o12 + 8) = some (vI i17) ∧
 br (i17 == 7)
 (∃ (b14 o13 : Nat), a1 = some ⟨b14, o13, none⟩ ∧ (0 ≤ (1 : Int) ∧ (1 : Int) < n1) ∧
 ∃ (l23 : Bs), h_15.cell b14 (o13 + 9) = some (vS l23) ∧
 Tri Tryz.prog 26 [vS l23] h_15 fun v_14 h_16 =>
 ∃ (i18 : Int), v_14 = vI i18 ∧
 (tv [vL a1 n1 dzk1]) ∧
 (h_16.cell b13 (o12 + 8) = some (vI i17)) ∧
 (tv [vL a1 n1 dzk1]) ∧
 (h_16.cell b12 (o11 + 1) = some (vS l22)) ∧
 Tri Tryz.prog 110 [vS l22, vB (decide (i18 ≤ i12))] h_16 fun v_15 h_17 =>
 ∃ (l24 : Bs), v_15 = vS l24 ∧
 (tv [vL a1 n1 dzk1]) ∧
 (h_17.cell b13 (o12 + 8) = some (vI i17)) ∧
 (tv [vL a1 n1 dzk1]) ∧
 l21.length + ([32] : Bs).length ≤ 9223372036854775807 ∧
 (l21 ++ ([32] : Bs)).length + l1.length ≤ 9223372036854775807 ∧
 ((l21 ++ ([32] : Bs)) ++ l1).length + ([32] : Bs).length ≤ 9223372036854775807 ∧
 (((l21 ++ ([32] : Bs)) ++ l1) ++ ([32] : Bs)).length + l24.length ≤ 9223372036854775807 ∧
 Q (vS ((((l21 ++ ([32] : Bs)) ++ l1) ++ ([32] : Bs)) ++ l24)) h_17)
 ((h_15.cell b13 (o12 + 8) = some (vI i17)) ∧
 (tv [vL a1 n1 dzk1]) ∧
 (h_15.cell b12 (o11 + 1) = some (vS l22)) ∧
 Tri Tryz.prog 110 [vS l22, vB false] h_15 fun v_16 h_18 =>
 ∃ (l25 : Bs), v_16 = vS l25 ∧
 (h_18.cell b13 (o12 + 8) = some (vI i17)) ∧
 (tv [vL a1 n1 dzk1]) ∧
 l21.length + ([32] : Bs).length ≤ 9223372036854775807 ∧
 (l21 ++ ([32] : Bs)).length + l1.length ≤ 9223372036854775807 ∧
 ((l21 ++ ([32] : Bs)) ++ l1).length + ([32] : Bs).length ≤ 9223372036854775807 ∧
 (((l21 ++ ([32] : Bs)) ++ l1) ++ ([32] : Bs)).length + l25.length ≤ 9223372036854775807 ∧
 Q (vS ((((l21 ++ ([32] : Bs)) ++ l1) ++ ([32] : Bs)) ++ l25)) h_18)))
 (Q (vS l2) h_1)))))))
theorem T67 {i1 : Int} {l1 : Bs} {l2 : Bs} {i2 : Int} {l3 : Bs} {a1 : OA} {n1 : Nat} {dzk1 : Nat} {i3 : Int} {i4 : Int} {h : PHeap} {Q : Value → PHeap → Prop} (hR : R67 i1 l1 l2 i2 l3 a1 n1 dzk1 i3 i4 h Q) : Tri Tryz.prog 67 [vA [vI i1, vS l1, vS l2, vI i2, vS l3, vL a1 n1 dzk1, vI i3, vI i4]] h Q :=
 tri_of_dn mixed Tryz.func67 rfl (by kernel_rfl) low67 (rs := [.tmp 2]) (by kernel_rfl) rfl (Eq.mpr (by kernel_rfl : dnF Tryz.prog Tryz.f67.ntmps d67 [.tmp 2] [vA [vI i1, vS l1, vS l2, vI i2, vS l3, vL a1 n1 dzk1, vI i3, vI i4]] h Q = R67 i1 l1 l2 i2 l3 a1 n1 dzk1 i3 i4 h Q) hR)
noncomputable def d80 : DCode := up ⟨[(4, .c (.one false [.str]))], [], []⟩ (low Tryz.prog (fun _ => false) (Tryz.f80.body.getD .skip))
theorem low80 : low Tryz.prog (fun _ => false) (Tryz.f80.body.getD .skip) = some (eC d80) := by kernel_rfl
def R80 (i1 : Int) (h : PHeap) (Q : Value → PHeap → Prop) : Prop :=
 Tri Tryz.prog 126 [vI i1] h fun v_1 h_1 =>
 ∃ (l1 : Bs), v_1 = vS l1 ∧
 Q (vS l1) h_1
theorem T80 {i1 : Int} {h : PHeap} {Q : Value → PHeap → Prop} (hR : R80 i1 h Q) : Tri Tryz.prog 80 [vI i1] h Q :=
 tri_of_dn mixed Tryz.func80 rfl (by kernel_rfl) low80 (rs := [.tmp 2]) (by kernel_rfl) rfl (Eq.mpr (by kernel_rfl : dnF Tryz.prog Tryz.f80.ntmps d80 [.tmp 2] [vI i1] h Q = R80 i1 h Q) hR)
noncomputable def d110 : DCode := up ⟨[], [], []⟩ (low Tryz.prog (fun _ => false) (Tryz.f110.body.getD .skip))
theorem low110 : low Tryz.prog (fun _ => false) (Tryz.f110.body.getD .skip) = some (eC d110) := by kernel_rfl
def R110 (l1 : Bs) (c1 : Bool) (h : PHeap) (Q : Value → PHeap → Prop) : Prop :=
 br c1
 (([40] : Bs).length + l1.length ≤ 9223372036854775807 ∧
 (([40] : Bs) ++ l1).length + ([41] : Bs).length ≤ 9223372036854775807 ∧
 Q (vS ((([40] : Bs) ++ l1) ++ ([41] : Bs))) h)
 (Q (vS l1) h)
theorem T110 {l1 : Bs} {c1 : Bool} {h : PHeap} {Q : Value → PHeap → Prop} (hR : R110 l1 c1 h Q) : Tri Tryz.prog 110 [vS l1, vB c1] h Q :=
 tri_of_dn mixed Tryz.func110 rfl (by kernel_rfl) low110 (rs := [.tmp 4]) (by kernel_rfl) rfl (Eq.mpr (by kernel_rfl : dnF Tryz.prog Tryz.f110.ntmps d110 [.tmp 4] [vS l1, vB c1] h Q = R110 l1 c1 h Q) hR)
noncomputable def d126 : DCode := up ⟨[(4, .c (.one false [.str]))], [], []⟩ (low Tryz.prog (fun _ => false) (Tryz.f126.body.getD .skip))
theorem low126 : low Tryz.prog (fun _ => false) (Tryz.f126.body.getD .skip) = some (eC d126) := by kernel_rfl
def R126 (i1 : Int) (h : PHeap) (Q : Value → PHeap → Prop) : Prop :=
 Tri Tryz.prog 159 [vI i1, vI 10] h fun v_1 h_1 =>
 ∃ (l1 : Bs), v_1 = vS l1 ∧
 Q (vS l1) h_1
theorem T126 {i1 : Int} {h : PHeap} {Q : Value → PHeap → Prop} (hR : R126 i1 h Q) : Tri Tryz.prog 126 [vI i1] h Q :=
 tri_of_dn mixed Tryz.func126 rfl (by kernel_rfl) low126 (rs := [.tmp 2]) (by kernel_rfl) rfl (Eq.mpr (by kernel_rfl : dnF Tryz.prog Tryz.f126.ntmps d126 [.tmp 2] [vI i1] h Q = R126 i1 h Q) hR)
abbrev o159_6 : Op := .slice 245 (.tmp 5) (some (.const (vI 1))) (some (.tmp 29)) none
abbrev o159_9 : Op := .slice 245 (.tmp 5) none (some (.tmp 37)) none
abbrev o159_11 : Op := .slice 245 (.tmp 5) (some (.const (vI 1))) (some (.tmp 41)) none
noncomputable def d159 : DCode := up ⟨[(19, .c (.one false [.str])), (27, .c (.one false [qi])), (30, .c (.one false [.slice])), (32, .c (.tup [])), (38, .c (.one false [.slice])), (42, .c (.one false [.slice])), (50, .c (.tup [(false, [.slice]), (false, [.str])]))], [35], []⟩ (low Tryz.prog (fun d => Nat.beq d 5) (Tryz.f159.body.getD .skip))
theorem low159 : low Tryz.prog (fun d => Nat.beq d 5) (Tryz.f159.body.getD .skip) = some (eC d159) := by kernel_rfl
def R159 (i1 : Int) (i2 : Int) (h : PHeap) (Q : Value → PHeap → Prop) : Prop :=
 br (i2 == 10)
 (br (decide (0 ≤ i1))
 (br (decide (i1 < 100))
 (Tri Tryz.prog 180 [vI i1] h fun v_1 h_1 =>
 ∃ (l1 : Bs), v_1 = vS l1 ∧
 Q (vS l1) h_1)
 (∀ (b1 : Nat), h b1 = none → ∀ (h_2 : PHeap), h_2 = h.put b1 (.cells ⟨[vU 0, vU 0, vU 0, vU 0, vU 0, vU 0, vU 0, vU 0, vU 0, vU 0, vU 0, vU 0, vU 0, vU 0, vU 0, vU 0, vU 0, vU 0, vU 0, vU 0, vU 0, vU 0, vU 0, vU 0]⟩ 245) →
 br (decide (i1 < 0))
 (Tri Tryz.prog 181 [.int .u64 (IntKind.u64.wrap (0 - (IntKind.u64.wrap (i1))))] h_2 fun v_2 h_3 =>
 ∃ (i3 : Int), v_2 = vI i3 ∧
 ∃ (a1 : OA) (n1 dzk1 : Nat), PureRun Tryz.prog (execOp (rho [(5, vP b1 0), (29, vI (IntKind.i64.wrap (1 + i3)))]) (mkO o159_6 45)) (vL a1 n1 dzk1) ∧
 Tri Tryz.prog 182 [vL a1 n1 dzk1, .int .u64 (IntKind.u64.wrap (0 - (IntKind.u64.wrap (i1))))] h_3 fun v_3 h_4 =>
 v_3 = vT [] ∧
 br (decide (i1 < 0))
 ((0 ≤ (0 : Int) ∧ (0 : Int) < 24) ∧
 ∃ (l2 : List Value) (t1 : TypeId) (z1 : Nat × Nat), h_4 b1 = some (.cells ⟨l2⟩ t1 z1) ∧ (0 + 1 ≤ l2.length ∧ z1.2 ≤ 0) ∧
 ∀ (h_5 : PHeap), h_5 = h_4.put b1 (.cells ⟨splice l2 0 [vU 45]⟩ t1 z1) →
 ∃ (a2 : OA) (n2 k2 : Nat), PureRun Tryz.prog (execOp (rho [(5, vP b1 0), (37, vI (IntKind.i64.wrap (1 + i3)))]) (mkO o159_9 45)) (vL a2 n2 k2) ∧
 ∃ (l3 : Bs), BytesAt h_5 a2 n2 l3 ∧
 Q (vS l3) h_5)
 (∃ (a3 : OA) (n3 k3 : Nat), PureRun Tryz.prog (execOp (rho [(5, vP b1 0), (41, vI (IntKind.i64.wrap (1 + i3)))]) (mkO o159_11 45)) (vL a3 n3 k3) ∧
 ∃ (l4 : Bs), BytesAt h_4 a3 n3 l4 ∧
 Q (vS l4) h_4))
 (Tri Tryz.prog 181 [.int .u64 (IntKind.u64.wrap (i1))] h_2 fun v_4 h_6 =>
 ∃ (i4 : Int), v_4 = vI i4 ∧
 ∃ (a4 : OA) (n4 k4 : Nat), PureRun Tryz.prog (execOp (rho [(5, vP b1 0), (29, vI (IntKind.i64.wrap (1 + i4)))]) (mkO o159_6 45)) (vL a4 n4 k4) ∧
 Tri Tryz.prog 182 [vL a4 n4 k4, .int .u64 (IntKind.u64.wrap (i1))] h_6 fun v_5 h_7 =>
 v_5 = vT [] ∧
 br (decide (i1 < 0))
 ((0 ≤ (0 : Int) ∧ (0 : Int) < 24) ∧
 ∃ (l5 : List Value) (t2 : TypeId) (z2 : Nat × Nat), h_7 b1 = some (.cells ⟨l5⟩ t2 z2) ∧ (0 + 1 ≤ l5.length ∧ z2.2 ≤ 0) ∧
 ∀ (h_8 : PHeap), h_8 = h_7.put b1 (.cells ⟨splice l5 0 [vU 45]⟩ t2 z2) →
 ∃ (a5 : OA) (n5 k5 : Nat), PureRun Tryz.prog (execOp (rho [(5, vP b1 0), (37, vI (IntKind.i64.wrap (1 + i4)))]) (mkO o159_9 45)) (vL a5 n5 k5) ∧
 ∃ (l6 : Bs), BytesAt h_8 a5 n5 l6 ∧
 Q (vS l6) h_8)
 (∃ (a6 : OA) (n6 k6 : Nat), PureRun Tryz.prog (execOp (rho [(5, vP b1 0), (41, vI (IntKind.i64.wrap (1 + i4)))]) (mkO o159_11 45)) (vL a6 n6 k6) ∧
 ∃ (l7 : Bs), BytesAt h_7 a6 n6 l7 ∧
 Q (vS l7) h_7))))
 (∀ (b2 : Nat), h b2 = none → ∀ (h_9 : PHeap), h_9 = h.put b2 (.cells ⟨[vU 0, vU 0, vU 0, vU 0, vU 0, vU 0, vU 0, vU 0, vU 0, vU 0, vU 0, vU 0, vU 0, vU 0, vU 0, vU 0, vU 0, vU 0, vU 0, vU 0, vU 0, vU 0, vU 0, vU 0]⟩ 245) →
 br (decide (i1 < 0))
 (Tri Tryz.prog 181 [.int .u64 (IntKind.u64.wrap (0 - (IntKind.u64.wrap (i1))))] h_9 fun v_6 h_10 =>
 ∃ (i5 : Int), v_6 = vI i5 ∧
 ∃ (a7 : OA) (n7 k7 : Nat), PureRun Tryz.prog (execOp (rho [(5, vP b2 0), (29, vI (IntKind.i64.wrap (1 + i5)))]) (mkO o159_6 45)) (vL a7 n7 k7) ∧
 Tri Tryz.prog 182 [vL a7 n7 k7, .int .u64 (IntKind.u64.wrap (0 - (IntKind.u64.wrap (i1))))] h_10 fun v_7 h_11 =>
 v_7 = vT [] ∧
 br (decide (i1 < 0))
 ((0 ≤ (0 : Int) ∧ (0 : Int) < 24) ∧
 ∃ (l8 : List Value) (t3 : TypeId) (z3 : Nat × Nat), h_11 b2 = some (.cells ⟨l8⟩ t3 z3) ∧ (0 + 1 ≤ l8.length ∧ z3.2 ≤ 0) ∧
 ∀ (h_12 : PHeap), h_12 = h_11.put b2 (.cells ⟨splice l8 0 [vU 45]⟩ t3 z3) →
 ∃ (a8 : OA) (n8 k8 : Nat), PureRun Tryz.prog (execOp (rho [(5, vP b2 0), (37, vI (IntKind.i64.wrap (1 + i5)))]) (mkO o159_9 45)) (vL a8 n8 k8) ∧
 ∃ (l9 : Bs), BytesAt h_12 a8 n8 l9 ∧
 Q (vS l9) h_12)
 (∃ (a9 : OA) (n9 k9 : Nat), PureRun Tryz.prog (execOp (rho [(5, vP b2 0), (41, vI (IntKind.i64.wrap (1 + i5)))]) (mkO o159_11 45)) (vL a9 n9 k9) ∧
 ∃ (l10 : Bs), BytesAt h_11 a9 n9 l10 ∧
 Q (vS l10) h_11))
 (Tri Tryz.prog 181 [.int .u64 (IntKind.u64.wrap (i1))] h_9 fun v_8 h_13 =>
 ∃ (i6 : Int), v_8 = vI i6 ∧
 ∃ (a10 : OA) (n10 k10 : Nat), PureRun Tryz.prog (execOp (rho [(5, vP b2 0), (29, vI (IntKind.i64.wrap (1 + i6)))]) (mkO o159_6 45)) (vL a10 n10 k10) ∧
 Tri Tryz.prog 182 [vL a10 n10 k10, .int .u64 (IntKind.u64.wrap (i1))] h_13 fun v_9 h_14 =>
 v_9 = vT [] ∧
 br (decide (i1 < 0))
 ((0 ≤ (0 : Int) ∧ (0 : Int) < 24) ∧
 ∃ (l11 : List Value) (t4 : TypeId) (z4 : Nat × Nat), h_14 b2 = some (.cells ⟨l11⟩ t4 z4) ∧ (0 + 1 ≤ l11.length ∧ z4.2 ≤ 0) ∧
 ∀ (h_15 : PHeap), h_15 = h_14.put b2 (.cells ⟨splice l11 0 [vU 45]⟩ t4 z4) →
 ∃ (a11 : OA) (n11 k11 : Nat), PureRun Tryz.prog (execOp (rho [(5, vP b2 0), (37, vI (IntKind.i64.wrap (1 + i6)))]) (mkO o159_9 45)) (vL a11 n11 k11) ∧
 ∃ (l12 : Bs), BytesAt h_15 a11 n11 l12 ∧
 Q (vS l12) h_15)
 (∃ (a12 : OA) (n12 k12 : Nat), PureRun Tryz.prog (execOp (rho [(5, vP b2 0), (41, vI (IntKind.i64.wrap (1 + i6)))]) (mkO o159_11 45)) (vL a12 n12 k12) ∧
 ∃ (l13 : Bs), BytesAt h_14 a12 n12 l13 ∧
 Q (vS l13) h_14))))
 (Tri Tryz.prog 183 [vL none 0 0, .int .u64 (IntKind.u64.wrap (i1)), vI i2, vB (decide (i1 < 0)), vB false] h fun v_10 h_16 =>
 ∃ (a13 : OA) (n13 k13 : Nat) (l14 : Bs), v_10 = vT [vL a13 n13 k13, vS l14] ∧
 Q (vS l14) h_16)
theorem T159 {i1 : Int} {i2 : Int} {h : PHeap} {Q : Value → PHeap → Prop} (hR : R159 i1 i2 h Q) : Tri Tryz.prog 159 [vI i1, vI i2] h Q :=
 tri_of_dn mixed Tryz.func159 rfl (by kernel_rfl) low159 (rs := [.tmp 4]) (by kernel_rfl) rfl (Eq.mpr (by kernel_rfl : dnF Tryz.prog Tryz.f159.ntmps d159 [.tmp 4] [vI i1, vI i2] h Q = R159 i1 i2 h Q) hR)
noncomputable def d180 : DCode := up ⟨[], [], []⟩ (low Tryz.prog (fun _ => false) (Tryz.f180.body.getD .skip))
theorem low180 : low Tryz.prog (fun _ => false) (Tryz.f180.body.getD .skip) = some (eC d180) := by kernel_rfl
def R180 (i1 : Int) (h : PHeap) (Q : Value → PHeap → Prop) : Prop :=
 br (decide (i1 < 10))
 ((0 ≤ i1 ∧ i1 ≤ (IntKind.i64.wrap (i1 + 1)) ∧ (IntKind.i64.wrap (i1 + 1)) ≤ (36 : Int)) ∧
 Q (vS ((([48, 49, 50, 51, 52, 53, 54, 55, 56, 57, 97, 98, 99, 100, 101, 102, 103, 104, 105, 106, 107, 108, 109, 110, 111, 112, 113, 114, 115, 116, 117, 118, 119, 120, 121, 122] : Bs).drop (i1).toNat).take ((IntKind.i64.wrap (i1 + 1)).toNat - (i1).toNat))) h)
 ((0 ≤ (IntKind.i64.wrap (i1 * 2)) ∧ (IntKind.i64.wrap (i1 * 2)) ≤ (IntKind.i64.wrap ((IntKind.i64.wrap (i1 * 2)) + 2)) ∧ (IntKind.i64.wrap ((IntKind.i64.wrap (i1 * 2)) + 2)) ≤ (200 : Int)) ∧
 Q (vS ((([48, 48, 48, 49, 48, 50, 48, 51, 48, 52, 48, 53, 48, 54, 48, 55, 48, 56, 48, 57, 49, 48, 49, 49, 49, 50, 49, 51, 49, 52, 49, 53, 49, 54, 49, 55, 49, 56, 49, 57, 50, 48, 50, 49, 50, 50, 50, 51, 50, 52, 50, 53, 50, 54, 50, 55, 50, 56, 50, 57, 51, 48, 51, 49, 51, 50, 51, 51, 51, 52, 51, 53, 51, 54, 51, 55, 51, 56, 51, 57, 52, 48, 52, 49, 52, 50, 52, 51, 52, 52, 52, 53, 52, 54, 52, 55, 52, 56, 52, 57, 53, 48, 53, 49, 53, 50, 53, 51, 53, 52, 53, 53, 53, 54, 53, 55, 53, 56, 53, 57, 54, 48, 54, 49, 54, 50, 54, 51, 54, 52, 54, 53, 54, 54, 54, 55, 54, 56, 54, 57, 55, 48, 55, 49, 55, 50, 55, 51, 55, 52, 55, 53, 55, 54, 55, 55, 55, 56, 55, 57, 56, 48, 56, 49, 56, 50, 56, 51, 56, 52, 56, 53, 56, 54, 56, 55, 56, 56, 56, 57, 57, 48, 57, 49, 57, 50, 57, 51, 57, 52, 57, 53, 57, 54, 57, 55, 57, 56, 57, 57] : Bs).drop (IntKind.i64.wrap (i1 * 2)).toNat).take ((IntKind.i64.wrap ((IntKind.i64.wrap (i1 * 2)) + 2)).toNat - (IntKind.i64.wrap (i1 * 2)).toNat))) h)
theorem T180 {i1 : Int} {h : PHeap} {Q : Value → PHeap → Prop} (hR : R180 i1 h Q) : Tri Tryz.prog 180 [vI i1] h Q :=
 tri_of_dn mixed Tryz.func180 rfl (by kernel_rfl) low180 (rs := [.tmp 2]) (by kernel_rfl) rfl (Eq.mpr (by kernel_rfl : dnF Tryz.prog Tryz.f180.ntmps d180 [.tmp 2] [vI i1] h Q = R180 i1 h Q) hR)
end Go.Proofs.D
namespace Go.Sx
def encl (b : Bool) (s : Bytes) : Bytes := if b then [40] ++ s ++ [41] else s
def kd : E → Nat
 | .mk k _ _ _ _ _ _ => k
def opE : E → Bytes
 | .mk _ op _ _ _ _ _ => op
mutual
def txE : E → Bytes
 | .mk k op nm v _ args _ =>
   if k = 1 then [UInt8.ofNat (48 + v)]
   else if k = 7 then
    let t := txEs args
    encl (decide (kd (args.getD 0 (.mk 0 [] [] 0 [] [] 0)) = 7 ∧ levelS (opE (args.getD 0 (.mk 0 [] [] 0 [] [] 0))) < levelS op)) (t.getD 0 []) ++ [32] ++ op ++ [32] ++
     encl (decide (kd (args.getD 1 (.mk 0 [] [] 0 [] [] 0)) = 7 ∧ levelS (opE (args.getD 1 (.mk 0 [] [] 0 [] [] 0))) ≤ levelS op)) (t.getD 1 [])
   else nm
def txEs : List E → List Bytes
 | [] => []
 | e :: es => txE e :: txEs es
end
mutual
def smE : E → Bool
 | .mk k _ _ v _ args _ => (k == 1 && decide (v < 10) && args.isEmpty || k == 3 && args.isEmpty || k == 7 && args.length == 2) && smEs args
def smEs : List E → Bool
 | [] => true
 | e :: es => smE e && smEs es
end
theorem encl_len (b : Bool) (s : Bytes) : s.length ≤ (encl b s).length := by unfold encl; split <;> simp; omega
end Go.Sx
namespace Go.Proofs.D
open Go Go.Den Go.Sx
set_option maxRecDepth 100000
attribute [local irreducible] IntKind.wrap Tri parseS
section
variable {s : Bytes} {h h' : PHeap}
theorem Own.str {a : OA} {n k : Nat} {L : List Bytes} (hn : n = L.length) (ho : Own h 9 1 (vL a n k) n (L.map fun l => vS l)) : StrAt h a L := by
 subst hn
 rcases ho.2 with ⟨_, h1⟩ | ⟨b, cap, rest, h1, h2, _, _⟩
 · exact .inl (List.eq_nil_of_length_eq_zero h1)
 · injection h1 with h1 _ _
   refine .inr ⟨b, 0, h1, fun j l hj => ?_⟩
   rw [cell_of h2]
   have : j < L.length := (List.getElem?_eq_some_iff.1 hj).1
   rw [List.getElem?_append_left (by simpa using this)]
   simp [hj]
theorem encl_t (b : Bool) (l : Bytes) (hl : l.length ≤ 1000000) (h : PHeap) : Tri Tryz.prog 110 [vS l, vB b] h fun v h' => v = vS (encl b l) ∧ h' = h := by
 refine T110 ?_
 unfold R110
 refine br_split (fun e => ?_) (fun e => ?_)
 · subst e
   refine ⟨by simp; omega, by simp; omega, rfl, rfl⟩
 · subst e; exact ⟨rfl, rfl⟩
theorem itoa_t (v : Nat) (hv : v < 10) (h : PHeap) : Tri Tryz.prog 80 [vI v] h fun r h' => r = vS [UInt8.ofNat (48 + v)] ∧ h' = h := by
 refine T80 ?_
 unfold R80
 suffices hs : Tri Tryz.prog 126 [vI v] h fun r h' => r = vS [UInt8.ofNat (48 + v)] ∧ h' = h by
  refine Tri.mono hs ?_
  rintro _ h ⟨rfl, rfl⟩
  exact ⟨_, rfl, rfl, rfl⟩
 refine T126 ?_
 unfold R126
 suffices hs : Tri Tryz.prog 159 [vI v, vI 10] h fun r h' => r = vS [UInt8.ofNat (48 + v)] ∧ h' = h by
  refine Tri.mono hs ?_
  rintro _ h ⟨rfl, rfl⟩
  exact ⟨_, rfl, rfl, rfl⟩
 refine T159 ?_
 unfold R159
 refine br_pos rfl (br_pos (by simp) (br_pos (by simp; omega) ?_))
 suffices hs : Tri Tryz.prog 180 [vI v] h fun r h' => r = vS [UInt8.ofNat (48 + v)] ∧ h' = h by
  refine Tri.mono hs ?_
  rintro _ h ⟨rfl, rfl⟩
  exact ⟨_, rfl, rfl, rfl⟩
 refine T180 ?_
 unfold R180
 refine br_pos (by simp; omega) ?_
 rw [wrap64 (by omega) (by omega)]
 refine ⟨⟨by omega, by omega, by omega⟩, ?_, rfl⟩
 rw [show (((v : Nat) : Int) + 1).toNat - ((v : Nat) : Int).toNat = 1 by omega, Int.toNat_natCast]
 have : ∀ v, v < 10 → ((([48, 49, 50, 51, 52, 53, 54, 55, 56, 57, 97, 98, 99, 100, 101, 102, 103, 104, 105, 106, 107, 108, 109, 110, 111, 112, 113, 114, 115, 116, 117, 118, 119, 120, 121, 122] : Bytes).drop v).take 1) = [UInt8.ofNat (48 + v)] := by decide
 rw [this v hv]
theorem flat_vS : ∀ (l : List E), (l.map fun e => [vS (txE e)]).flatten = (l.map txE).map fun l => vS l
 | [] => rfl
 | x :: l => by rw [List.map_cons, List.flatten_cons, flat_vS l]; rfl
theorem smEs_iff : ∀ {l : List E}, smEs l = true ↔ ∀ e ∈ l, smE e = true
 | [] => by simp [smEs]
 | e :: l => by simp [smEs, smEs_iff (l := l)]
theorem exp_t : ∀ k e, cntE e ≤ k → k ≤ 100000 → smE e = true → (txE e).length ≤ 1000000 → ∀ cs h, RE (plP s) 8 h e cs → Tri Tryz.prog 67 [vA cs] h fun v h' => v = vS (txE e) ∧ Ext h h' := by
 intro k
 induction k with
 | zero => intro e he; have := cntE_pos e; omega
 | succ k ih =>
   intro e he hk5 hsm hle cs h hrel
   match e, he, hsm, hle, hrel with
   | .mk kd op nm vl tx args pos, he, hsm, hle, hrel =>
   obtain ⟨a1, c1, rfl, hA1⟩ := RE_iff.1 hrel
   simp only [cntE] at he
   have hlen := cntEs_len args
   simp only [smE, Bool.and_eq_true] at hsm
   obtain ⟨hsm1, hsm2⟩ := hsm
   have hsub : ∀ e ∈ args, (txE e).length ≤ 1000000 := fun e hm => by
    simp only [Bool.or_eq_true, Bool.and_eq_true, beq_iff_eq, decide_eq_true_eq] at hsm1
    rcases hsm1 with (⟨_, hn⟩ | ⟨_, hn⟩) | ⟨rfl, h2⟩
    · simp at hn; subst hn; cases hm
    · simp at hn; subst hn; cases hm
    · obtain ⟨x, y, rfl⟩ : ∃ x y, args = [x, y] := match args, h2 with | [x, y], _ => ⟨x, y, rfl⟩
      simp only [txE, txEs, List.getD_cons_zero, List.getD_cons_succ, if_neg (show ¬ (7 : Nat) = 1 by decide), if_true, List.length_append] at hle
      simp only [List.mem_cons, List.not_mem_nil, or_false] at hm
      rcases hm with rfl | rfl
      · have := encl_len (decide (Go.Sx.kd e = 7 ∧ levelS (opE e) < levelS op)) (txE e); omega
      · have := encl_len (decide (Go.Sx.kd e = 7 ∧ levelS (opE e) ≤ levelS op)) (txE e); omega
   refine T67 ?_
   unfold R67
   refine ⟨fun m a n k i h' => ∃ j : Nat, i = j ∧ j + m = args.length ∧ n = j ∧ Ext h h' ∧ LM 9 1 h h' a n k ((args.take j).map fun e => [vS (txE e)]), ⟨args.length, 0, rfl, by omega, rfl, Ext.refl _, LM.nil⟩, ?_⟩
   rintro m a2 n2 k2 _ h1 ⟨j, rfl, hjm, rfl, hx1, hM1⟩
   refine br_split (fun e2 => ?_) (fun e2 => ?_)
   · have hj : n2 < args.length := by
      have := of_decide_eq_true e2
      omega
     obtain ⟨b, o, cs, rfl, hr, hrel⟩ := hA1.get hj
     have hmem := List.getElem_mem hj
     have ihj := ih _ (by have := cntEs_mem hmem; omega) (by omega) (smEs_iff.1 hsm2 _ hmem) (hsub _ hmem) cs h1 (hrel.ext hx1)
     have htake := List.take_append_getElem hj
     generalize args[n2] = x at *
     match x, hrel with
     | .mk kd' op' nm' vl' tx' args' pos', hrel =>
     obtain ⟨a3, c3, rfl, hA3⟩ := RE_iff.1 hrel
     refine ⟨b, o, rfl, ⟨by omega, by omega⟩, _, _, _, _, _, _, _, _, _, _, row_ext (fun ob => hx1 b ob) hr, ?_⟩
     refine Tri.mono ihj ?_
     rintro _ h2 ⟨rfl, hx2⟩
     refine ⟨_, rfl, ?_⟩
     intro b2 hb2 h3 hh3
     refine Raw.mono (LM.append (h0 := h) (cs := [vS _]) und51 elem9 rfl rfl rfl rfl rfl (hM1.ext hx2) hb2 hh3 rfl rfl (by omega) (hx1.trans hx2).dom) ?_
     rintro _ h4 ⟨b4, cap4, rfl, hk4, hd4, hn4, hq4, hM4, hR4⟩
     refine ⟨_, _, _, rfl, m - 1, by omega, ⟨n2 + 1, ?_, by omega, rfl, fun q o hq => hk4 q o (ne_of hq) ((hx1.trans hx2) q o hq), ?_⟩, rfl, trivial⟩
     · rw [wrap64 (by omega) (by omega)]; rfl
     · rw [← htake, List.map_append]; exact hM4
   have hjl : n2 = args.length := by
    have := of_decide_eq_false e2
    omega
   subst hjl
   rw [List.take_length] at hM1
   have hstr : StrAt h1 a2 (args.map txE) := Own.str (n := args.length) (by simp) (by have := hM1.row; rwa [flat_vS] at this)
   simp only [Bool.or_eq_true, Bool.and_eq_true, beq_iff_eq, decide_eq_true_eq] at hsm1
   rcases hsm1 with (⟨⟨rfl, hv⟩, hn⟩ | ⟨rfl, hn⟩) | ⟨rfl, h2⟩
   · refine br_pos rfl ?_
     refine Tri.mono (itoa_t vl hv h1) ?_
     rintro _ h1 ⟨rfl, rfl⟩
     exact ⟨_, rfl, rfl, hx1⟩
   · (repeat refine br_neg rfl ?_)
     exact ⟨rfl, hx1⟩
   · obtain ⟨x, y, rfl⟩ : ∃ x y, args = [x, y] := match args, h2 with | [x, y], _ => ⟨x, y, rfl⟩
     iterate 5 refine br_neg rfl ?_
     refine br_pos rfl ?_
     rcases hstr with hstr | ⟨sb, so, rfl, hstr⟩
     · cases hstr
     rcases hA1 with hA1 | ⟨eb, eo, rfl, hA1⟩
     · cases hA1
     have hs0 := hstr 0 _ rfl
     have hs1 := hstr 1 _ rfl
     obtain ⟨cs0, hr0, hrel0⟩ := hA1 0 x rfl
     obtain ⟨cs1, hr1, hrel1⟩ := hA1 1 y rfl
     have hlx := hsub x (by simp)
     have hly := hsub y (by simp)
     have hex : txE (.mk 7 op nm vl tx [x, y] pos) = encl (decide (Go.Sx.kd x = 7 ∧ levelS (opE x) < levelS op)) (txE x) ++ [32] ++ op ++ [32] ++ encl (decide (Go.Sx.kd y = 7 ∧ levelS (opE y) ≤ levelS op)) (txE y) := rfl
     rw [hex] at hle ⊢
     simp only [List.length_append] at hle
     match x, y, hrel0, hrel1 with
     | .mk k0 op0 nm0 v0 tx0 args0 pos0, .mk k1 op1 nm1 v1 tx1 args1 pos1, hrel0, hrel1 =>
     obtain ⟨a3, c3, rfl, hA3⟩ := RE_iff.1 hrel0
     obtain ⟨a4, c4, rfl, hA4⟩ := RE_iff.1 hrel1
     have hr0 := row_ext (fun ob => hx1 eb ob) hr0
     have hr1 := row_ext (fun ob => hx1 eb ob) hr1
     refine Tri.mono (level_tri op h1) ?_
     rintro _ h1 ⟨rfl, rfl⟩
     have hdl : decide (Go.Sx.kd (.mk k0 op0 nm0 v0 tx0 args0 pos0) = 7 ∧ levelS (opE (.mk k0 op0 nm0 v0 tx0 args0 pos0)) < levelS op) = (decide (k0 = 7) && decide (levelS op0 < levelS op)) := Bool.decide_and ..
     have hdr : decide (Go.Sx.kd (.mk k1 op1 nm1 v1 tx1 args1 pos1) = 7 ∧ levelS (opE (.mk k1 op1 nm1 v1 tx1 args1 pos1)) ≤ levelS op) = (decide (k1 = 7) && decide (levelS op1 ≤ levelS op)) := Bool.decide_and ..
     rw [hdl, hdr] at hle ⊢
     have hlt : decide (((levelS op0 : Nat) : Int) < ((levelS op : Nat) : Int)) = decide (levelS op0 < levelS op) := by rw [Bool.eq_iff_iff]; simp
     have hlr : decide (((levelS op1 : Nat) : Int) ≤ ((levelS op : Nat) : Int)) = decide (levelS op1 ≤ levelS op) := by rw [Bool.eq_iff_iff]; simp
     refine ⟨_, rfl, sb, so, rfl, ⟨by decide, by simp⟩, _, hs0, eb, eo, rfl, ⟨by decide, by simp⟩, _, hr0.1, br_split (fun e => ?_) (fun e => ?_)⟩
     · have e : k0 = 7 := by have := beq_iff_eq.1 e; omega
       refine ⟨eb, eo, rfl, ⟨by decide, by simp⟩, _, hr0.2.1, ?_⟩
       refine Tri.mono (level_tri op0 h1) ?_
       rintro _ h1 ⟨rfl, rfl⟩
       refine ⟨_, rfl, rfl, hr0.1, rfl, hs0, ?_⟩
       refine Tri.mono (encl_t _ _ hlx h1) ?_
       rintro _ h1 ⟨rfl, rfl⟩
       rw [hlt]
       have hdl2 : (decide (k0 = 7) && decide (levelS op0 < levelS op)) = decide (levelS op0 < levelS op) := by rw [e]; rfl
       rw [hdl2] at hle ⊢
       refine ⟨_, rfl, rfl, hr0.1, rfl, sb, so, rfl, ⟨by decide, by simp⟩, _, hs1, eb, eo, rfl, ⟨by decide, by simp⟩, _, hr1.1, br_split (fun e' => ?_) (fun e' => ?_)⟩
       · have e' : k1 = 7 := by have := beq_iff_eq.1 e'; omega
         refine ⟨eb, eo, rfl, ⟨by decide, by simp⟩, _, hr1.2.1, ?_⟩
         refine Tri.mono (level_tri op1 h1) ?_
         rintro _ h1 ⟨rfl, rfl⟩
         refine ⟨_, rfl, rfl, hr1.1, rfl, hs1, ?_⟩
         refine Tri.mono (encl_t _ _ hly h1) ?_
         rintro _ h1 ⟨rfl, rfl⟩
         rw [hlr]
         have hdr2 : (decide (k1 = 7) && decide (levelS op1 ≤ levelS op)) = decide (levelS op1 ≤ levelS op) := by rw [e']; rfl
         rw [hdr2] at hle ⊢
         exact ⟨_, rfl, rfl, hr1.1, rfl, by omega, by simp only [List.length_append]; omega, by simp only [List.length_append]; omega, by simp only [List.length_append]; omega, rfl, hx1⟩
       · have e' : k1 ≠ 7 := fun q => by subst q; cases e'
         refine ⟨hr1.1, rfl, hs1, ?_⟩
         refine Tri.mono (encl_t _ _ hly h1) ?_
         rintro _ h1 ⟨rfl, rfl⟩
         have hdr2 : (decide (k1 = 7) && decide (levelS op1 ≤ levelS op)) = false := by rw [decide_eq_false e']; rfl
         rw [hdr2] at hle ⊢
         exact ⟨_, rfl, hr1.1, rfl, by omega, by simp only [List.length_append]; omega, by simp only [List.length_append]; omega, by simp only [List.length_append]; omega, rfl, hx1⟩
     · have e : k0 ≠ 7 := fun q => by subst q; cases e
       refine ⟨hr0.1, rfl, hs0, ?_⟩
       refine Tri.mono (encl_t _ _ hlx h1) ?_
       rintro _ h1 ⟨rfl, rfl⟩
       have hdl2 : (decide (k0 = 7) && decide (levelS op0 < levelS op)) = false := by rw [decide_eq_false e]; rfl
       rw [hdl2] at hle ⊢
       refine ⟨_, rfl, hr0.1, rfl, sb, so, rfl, ⟨by decide, by simp⟩, _, hs1, eb, eo, rfl, ⟨by decide, by simp⟩, _, hr1.1, br_split (fun e' => ?_) (fun e' => ?_)⟩
       · have e' : k1 = 7 := by have := beq_iff_eq.1 e'; omega
         refine ⟨eb, eo, rfl, ⟨by decide, by simp⟩, _, hr1.2.1, ?_⟩
         refine Tri.mono (level_tri op1 h1) ?_
         rintro _ h1 ⟨rfl, rfl⟩
         refine ⟨_, rfl, rfl, hr1.1, rfl, hs1, ?_⟩
         refine Tri.mono (encl_t _ _ hly h1) ?_
         rintro _ h1 ⟨rfl, rfl⟩
         rw [hlr]
         have hdr2 : (decide (k1 = 7) && decide (levelS op1 ≤ levelS op)) = decide (levelS op1 ≤ levelS op) := by rw [e']; rfl
         rw [hdr2] at hle ⊢
         exact ⟨_, rfl, rfl, hr1.1, rfl, by omega, by simp only [List.length_append]; omega, by simp only [List.length_append]; omega, by simp only [List.length_append]; omega, rfl, hx1⟩
       · have e' : k1 ≠ 7 := fun q => by subst q; cases e'
         refine ⟨hr1.1, rfl, hs1, ?_⟩
         refine Tri.mono (encl_t _ _ hly h1) ?_
         rintro _ h1 ⟨rfl, rfl⟩
         have hdr2 : (decide (k1 = 7) && decide (levelS op1 ≤ levelS op)) = false := by rw [decide_eq_false e']; rfl
         rw [hdr2] at hle ⊢
         exact ⟨_, rfl, hr1.1, rfl, by omega, by simp only [List.length_append]; omega, by simp only [List.length_append]; omega, by simp only [List.length_append]; omega, rfl, hx1⟩
def exT : Bytes := [102, 117, 110, 99, 32, 109, 97, 105, 110, 40, 41, 32, 123, 32, 120, 32, 61, 32, 97, 32, 45, 32, 40, 98, 32, 45, 32, 99, 41, 32, 42, 32, 40, 50, 41, 59, 32, 125]
def exE : E := .mk 7 [45] [] 0 [] [.mk 3 [] [97] 0 [] [] 18, .mk 7 [42] [] 0 [] [.mk 7 [45] [] 0 [] [.mk 3 [] [98] 0 [] [] 23, .mk 3 [] [99] 0 [] [] 27] 25, .mk 1 [] [] 2 [] [] 33] 30] 20
def exP : Pg := ⟨[], [⟨[109, 97, 105, 110], [], [.mk 2 [120] [exE] [] [] 14], 5⟩]⟩
theorem ex_parse : parseS exT = .ok exP := by kernel_rfl
theorem ex_check : (checkS exP).map (·.1) = some 37 := by decide +kernel
theorem ex_text : smE exE = true ∧ txE exE = [97, 32, 45, 32, 40, 98, 32, 45, 32, 99, 41, 32, 42, 32, 50] := by decide +kernel
theorem known_ok : KnownOk := by
 intro h ht
 refine T16 ?_
 unfold R16
 refine Tri.mono (parse_tri exT h ht) ?_
 rintro v h1 ⟨hx1, hv⟩
 rw [ex_parse] at hv
 obtain ⟨ga, gc, fa, fc, rfl, hG, hF⟩ := hv
 have hG := hG.whole (RG_mono _) (Ext.refl _)
 have hF := hF.whole (RF_mono _ _ _) (Ext.refl _)
 refine ⟨_, _, _, _, _, _, _, _, _, rfl, br_neg rfl (br_neg rfl ?_)⟩
 obtain ⟨b1, o1, cs, ha, hr, hrel⟩ := hF.get (n := 0) (by decide)
 obtain ⟨pa, pc, ba, bc, rfl, hP, hB, _⟩ := hrel
 obtain ⟨b2, o2, cs2, hb, hr2, hrel2⟩ := hB.get (n := 0) (by decide)
 obtain ⟨aa, ac, _, _, _, _, rfl, hE, _, _⟩ := RS_iff.1 hrel2
 obtain ⟨b3, o3, cs3, hc, hr3, hrel3⟩ := hE.get (n := 0) (by decide)
 have hw := parseS_wf ex_parse
 have hcnt := parseS_cnt ex_parse
 refine ⟨b1, o1, ha, ⟨by decide, by decide⟩, _, _, _, hr.2.2.1, br_neg rfl ⟨b1, o1, ha, ⟨by decide, by decide⟩, _, _, _, hr.2.2.1, b2, o2, hb, ⟨by decide, by decide⟩, _, _, _, hr2.2.2.1, br_neg rfl ?_⟩⟩
 refine Tri.mono (check_tri hw hcnt hG hF) ?_
 rintro _ h2 ⟨rfl, hx2⟩
 have hr' := row_ext (fun ob => hx2 b1 ob) hr
 have hr2' := row_ext (fun ob => hx2 b2 ob) hr2
 have hr3' := row_ext (fun ob => hx2 b3 ob) hr3
 refine ⟨_, _, _, rfl, b1, o1, ha, ⟨by decide, by decide⟩, _, _, _, hr'.2.2.1, b2, o2, hb, ⟨by decide, by decide⟩, _, _, _, hr2'.2.2.1, b3, o3, hc, ⟨by decide, by decide⟩, ?_⟩
 have hrel3 : RE (plP exT) 8 h1 exE cs3 := hrel3
 obtain ⟨a8, c8, rfl, hA8⟩ := RE_iff.1 hrel3
 refine ⟨_, _, _, _, _, _, _, _, _, _, hr3', ?_⟩
 have hwe : wfE exE := by
  have := wfSs_iff.1 (hw _ (List.mem_cons_self ..)) _ (List.mem_cons_self ..)
  exact (wfEs_iff.1 this.2.1 _ (List.mem_cons_self ..))
 have hout : Tri Tryz.prog 22 [vA ([vI (7 : Nat), vS [45], vS [], vI (0 : Nat), vS [], vL a8 2 c8] ++ plP exT 20)] h2 fun v h' => v = vS (txE exE) ∧ Ext h2 h' := by
  refine T22 ?_
  unfold R22
  intro b4 hb4 h3 hh3
  have hx3 := Put.ext hh3 hb4
  refine Tri.mono (texpr (s := exT) hb4 (cntE exE) exE (Nat.le_refl _) hwe _ (hrel3.ext hx2) h3 (4096 - cntE exE) hx3 ⟨by decide +kernel, Put.at hh3⟩) ?_
  rintro _ h4 ⟨rfl, ha4, hc4⟩
  have hx4 := ext_away hb4 hx3 ha4
  refine ⟨_, rfl, br_neg rfl ?_⟩
  refine Tri.mono (exp_t (s := exT) _ exE (Nat.le_refl _) (by decide +kernel) ex_text.1 (by decide +kernel) _ h4 (hrel3.ext (hx2.trans hx4))) ?_
  rintro _ h5 ⟨rfl, hx5⟩
  exact ⟨_, rfl, rfl, hx4.trans hx5⟩
 refine Tri.mono hout ?_
 rintro _ h3 ⟨rfl, hx3⟩
 refine ⟨_, rfl, br_pos (by rw [ex_text.2]; rfl) ⟨?_, (hx1.trans hx2).trans hx3⟩⟩
 have : (erp exT (checkS exP)).2.2 = 37 := by
  have h0 := ex_check
  cases hq : checkS exP with
  | none => rw [hq] at h0; cases h0
  | some x =>
    rw [hq] at h0
    obtain ⟨c, p⟩ := x
    have h0 : c = 37 := by simpa using h0
    subst h0
    cases p <;> rfl
 rw [this]; rfl
end
end Go.Proofs.D
namespace Go.Proofs.D
open Go Go.Den Go.Sx
set_option maxRecDepth 100000
attribute [local irreducible] IntKind.wrap Tri parseS
section
variable {s : Bytes} {pb po : Nat} {h : PHeap}
end
theorem short_min (n : Int) : PureRun Tryz.prog (execOp (rho [(5, vI n)]) (mkO o13_0 3)) (vI (if 1500 < n then 1500 else n)) := pureVal_run _ (by kernel_rfl)
theorem short_tri (s : Bytes) (h : PHeap) : Tri Tryz.prog 13 [vS s] h fun v h' => v = vS (s.take 1500) ∧ h' = h := by
 refine T13 ?_
 unfold R13
 refine ⟨_, short_min _, ?_⟩
 split
 · rename_i hl
   refine ⟨⟨Int.le_refl _, by omega, by omega⟩, ?_, rfl⟩
   rw [List.drop_zero]; rfl
 · rename_i hl
   refine ⟨⟨Int.le_refl _, by omega, Int.le_refl _⟩, ?_, rfl⟩
   rw [List.drop_zero, Int.toNat_natCast, Nat.sub_zero, List.take_of_length_le (by omega), List.take_of_length_le (by omega)]
end Go.Proofs.D
namespace Go.Proofs.D
open Go Go.Den Go.Sx
set_option maxRecDepth 100000
attribute [local irreducible] IntKind.wrap Tri parseS
theorem sames_tri {h : PHeap} (ht : L.EscTab h) (s t : Bytes) : Tri Tryz.prog 11 [vS s, vS t] h fun v h' => v = vB true ∧ Ext h h' := by
 refine T11 ?_
 unfold R11
 refine Tri.mono (short_tri s h) ?_
 rintro _ h ⟨rfl, rfl⟩
 refine ⟨_, rfl, ?_⟩
 refine Tri.mono (short_tri t h) ?_
 rintro _ h ⟨rfl, rfl⟩
 refine ⟨_, rfl, ?_⟩
 generalize s.take 1500 = s
 generalize t.take 1500 = t
 refine Tri.mono (parse_r s h) ?_
 rintro v1 h1 ⟨hx1, hv1⟩
 have hd1 : ∃ ga gn gc fa fn fc i e, v1 = vT [vA [vL ga gn gc, vL fa fn fc], vI i, vI e] ∧ ((e ≠ 0) ∨ e = 0 ∧ ∃ p, parseS s = .ok p ∧ gn = p.globals.length ∧ fn = p.funcs.length ∧ At 4 (RG plR) h1 ga p.globals ∧ At 4 (RF plR 7 6) h1 fa p.funcs) := by
  cases hp : parseS s with
  | error e =>
    rw [hp] at hv1
    have hv1 : v1 = _ := hv1
    exact ⟨_, _, _, _, _, _, _, _, hv1, .inl (by have := parseS_err hp; omega)⟩
  | ok p =>
    rw [hp] at hv1
    obtain ⟨ga, gc, fa, fc, rfl, hG, hF⟩ := hv1
    exact ⟨_, _, _, _, _, _, _, _, rfl, .inr ⟨rfl, p, rfl, rfl, rfl, hG.whole (RG_mono _) (Ext.refl _), hF.whole (RF_mono _ _ _) (Ext.refl _)⟩⟩
 clear hv1
 obtain ⟨ga, gn, gc, fa, fn, fc, i1, e1, rfl, hd1⟩ := hd1
 refine ⟨_, _, _, _, _, _, _, _, rfl, ?_⟩
 refine Tri.mono (parse_r t h1) ?_
 rintro v2 h2 ⟨hx2, hv2⟩
 have hd2 : ∃ ga gn gc fa fn fc i e, v2 = vT [vA [vL ga gn gc, vL fa fn fc], vI i, vI e] ∧ ((e ≠ 0) ∨ e = 0 ∧ ∃ p, parseS t = .ok p ∧ gn = p.globals.length ∧ fn = p.funcs.length ∧ At 4 (RG plR) h2 ga p.globals ∧ At 4 (RF plR 7 6) h2 fa p.funcs) := by
  cases hp : parseS t with
  | error e =>
    rw [hp] at hv2
    have hv2 : v2 = _ := hv2
    exact ⟨_, _, _, _, _, _, _, _, hv2, .inl (by have := parseS_err hp; omega)⟩
  | ok p =>
    rw [hp] at hv2
    obtain ⟨ga, gc, fa, fc, rfl, hG, hF⟩ := hv2
    exact ⟨_, _, _, _, _, _, _, _, rfl, .inr ⟨rfl, p, rfl, rfl, rfl, hG.whole (RG_mono _) (Ext.refl _), hF.whole (RF_mono _ _ _) (Ext.refl _)⟩⟩
 clear hv2
 obtain ⟨ga', gn', gc', fa', fn', fc', i2, e2, rfl, hd2⟩ := hd2
 refine ⟨_, _, _, _, _, _, _, _, rfl, ?_⟩
 have hx02 := hx1.trans hx2
 refine Tri.mono (known_ok h2 (ht.ext hx02)) ?_
 rintro _ h3 ⟨rfl, hx3⟩
 have hx03 := hx02.trans hx3
 refine ⟨_, rfl, br_neg rfl ?_⟩
 have kn : Tri Tryz.prog 16 [] h3 fun v_7 h_7 => ∃ (c3 : Bool), v_7 = vB c3 ∧ (vB c3 = vB true ∧ Ext h h_7) := by
  refine Tri.mono (known_ok h3 (ht.ext hx03)) ?_
  rintro _ h4 ⟨rfl, hx4⟩
  exact ⟨_, rfl, rfl, hx03.trans hx4⟩
 rcases hd1 with hd1 | ⟨rfl, p, hp, rfl, rfl, hG1, hF1⟩
 · exact br_pos (by simpa using hd1) kn
 refine br_neg rfl ?_
 rcases hd2 with hd2 | ⟨rfl, q, hq, rfl, rfl, hG2, hF2⟩
 · exact br_pos (by simpa using hd2) kn
 refine br_neg rfl ?_
 clear kn
 refine Tri.mono (parse_tri s h3 (ht.ext hx03)) ?_
 rintro v4 h4 ⟨hx4, hv4⟩
 rw [hp] at hv4
 obtain ⟨ga4, gc4, fa4, fc4, rfl, hG4, hF4⟩ := hv4
 refine ⟨_, _, _, _, _, _, _, _, _, rfl, ?_⟩
 have hx04 := hx03.trans hx4
 refine Tri.mono (parse_tri t h4 (ht.ext hx04)) ?_
 rintro v5 h5 ⟨hx5, hv5⟩
 rw [hq] at hv5
 obtain ⟨ga5, gc5, fa5, fc5, rfl, hG5, hF5⟩ := hv5
 refine ⟨_, _, _, _, _, _, _, _, _, rfl, br_pos rfl (br_pos rfl ?_)⟩
 have hx05 := hx04.trans hx5
 have hG4 := hG4.whole (RG_mono _) hx5
 have hF4 := hF4.whole (RF_mono _ _ _) hx5
 have hG5 := hG5.whole (RG_mono _) (Ext.refl _)
 have hF5 := hF5.whole (RF_mono _ _ _) (Ext.refl _)
 have hx15 : Ext h1 h5 := hx2.trans (hx3.trans (hx4.trans hx5))
 have hx25 : Ext h2 h5 := hx3.trans (hx4.trans hx5)
 have hwp := parseS_wf hp
 have hwq := parseS_wf hq
 have hcp := parseS_cnt hp
 have hcq := parseS_cnt hq
 refine Tri.mono (same_p hwp hcp hwq hcq hG4 hF4 hG5 hF5) ?_
 rintro _ h6 ⟨rfl, hx6⟩
 refine ⟨_, rfl, rfl, rfl, ?_⟩
 refine Tri.mono (same_n p q (by omega) (hG4.ext (RG_mono _) hx6) (hF4.ext (RF_mono _ _ _) hx6) (hG2.ext (RG_mono _) (hx25.trans hx6)) (hF2.ext (RF_mono _ _ _) (hx25.trans hx6))) ?_
 rintro _ h6 ⟨rfl, rfl⟩
 refine ⟨_, rfl, ?_⟩
 have fin : Tri Tryz.prog 32 [vA [vL ga4 p.globals.length gc4, vL fa4 p.funcs.length fc4], vA [vL ga4 p.globals.length gc4, vL fa4 p.funcs.length fc4]] h6 fun v_15 h_15 => ∃ (c9 : Bool), v_15 = vB c9 ∧ (vB c9 = vB true ∧ Ext h h_15) := by
  refine Tri.mono (same_p hwp hcp hwp hcp (hG4.ext (RG_mono _) hx6) (hF4.ext (RF_mono _ _ _) hx6) (hG4.ext (RG_mono _) hx6) (hF4.ext (RF_mono _ _ _) hx6)) ?_
  rintro _ h7 ⟨rfl, hx7⟩
  exact ⟨_, rfl, by rw [eqP_refl], (hx05.trans hx6).trans hx7⟩
 refine br_split (fun e => ?_) (fun e => ?_)
 · refine Tri.mono (same_n q p (by omega) (hG5.ext (RG_mono _) hx6) (hF5.ext (RF_mono _ _ _) hx6) (hG1.ext (RG_mono _) (hx15.trans hx6)) (hF1.ext (RF_mono _ _ _) (hx15.trans hx6))) ?_
   rintro _ h6 ⟨rfl, rfl⟩
   exact ⟨_, rfl, br_pos (by rw [eqP_symm q p]; simp) fin⟩
 · exact br_pos (by rw [e]; rfl) fin
end Go.Proofs.D
namespace Go.Fr
open Go Go.Den Go.ChangeShapes Go.RowKit
def Kept (w w' : World) : Prop := w'.os = w.os ∧ w'.output = w.output ∧ w.heap.size ≤ w'.heap.size ∧ ∀ k, k < w.heap.size → w'.heap[k]? = w.heap[k]?
theorem calls_of_tri {P : Program} {f : FuncId} {fn : Func} {args : List Value} {Q : Value → Prop} {h : PHeap} (ht : Tri P f args h fun v h' => Q v ∧ ∀ k o, h k = some o → h' k = some o) (hf : P.funcs[f]? = some fn) (hb : fn.body.isSome = true) (hname : (fn.name == "runtime.NumGoroutine") = false) (w : World) (hs : Sub w h) :
 Calls P f args.toArray w fun e w' => ∃ v, e = .returned v ∧ Q v ∧ Kept w w' := by
 have h1 := ht w hs
 unfold CallR at h1
 have hcall : (callFunc f args.toArray).run P w = .ok (.enter f args.toArray) w := by
  unfold callFunc
  have hname' : ¬ fn.name = "runtime.NumGoroutine" := fun e => by rw [e] at hname; simp at hname
  cases hbb : fn.body with
  | none => rw [hbb] at hb; cases hb
  | some c => simp [program, Sem.run, hf, hname', hbb]
 rw [hcall] at h1
 refine Calls.mono h1 fun e w' he => ?_
 cases e with
 | returned v =>
   obtain ⟨h', ⟨hq, hx⟩, hs', hk⟩ := he
   refine ⟨v, rfl, hq, hk.os, hk.output, hk.size, fun k hk' => ?_⟩
   cases hh : h k with
   | none => exact (hk.out k hk' hh).2
   | some o => rw [hs k o hh, hs' k o (hx k o hh)]
 | _ => exact he.elim
def one (w : World) (b : Nat) : PHeap := fun k => if k = b then w.heap[b]? else none
theorem one_sub (w : World) (b : Nat) : Sub w (one w b) := fun k o hk => by
 unfold one at hk; split at hk
 · rename_i e; subst e; exact hk
 · cases hk
theorem one_cell {w : World} {b i : Nat} {v : Value} (h : w.cell? ⟨b, i, none⟩ = some v) : (one w b).cell b i = some v := by
 unfold World.cell? at h
 unfold PHeap.cell one
 rw [if_pos rfl]
 cases hb : w.heap[b]? with
 | none => simp [hb] at h
 | some o =>
   cases o with
   | cells c t z => simpa [hb] using h
   | _ => simp [hb] at h
theorem Kept.but {w w' : World} (h : Kept w w') (may : MemPlace → Prop) : w.keptBut w' may := by
 obtain ⟨h1, h2, h3, h4⟩ := h
 obtain ⟨_, _, r⟩ := World.keptBut_refl w may
 refine ⟨h1, h2, fun i hi => ?_⟩
 have := r i hi
 rw [h4 i hi]
 exact this
theorem Kept.frozen {w w' : World} (h : Kept w w') (b off : Nat) (hb : b < w.heap.size) : w'.frozen? ⟨b, off, none⟩ = w.frozen? ⟨b, off, none⟩ := by
 simp only [World.frozen?, h.2.2.2 b hb]
section
variable {H : Type} {enc : TypeId × Value → H} {P : Program}
theorem post_kept {f : Func} {s : ChangeSpec} {apart fresh handsOn again : Bool} {W W' : World} {args : Array Value} {v : Value} {ds gs : List (DataW H)} {before pa pv : List MemPlace}
 (hW : DataW.Whole enc P f.params.toList s.vars apart W args.toList ds gs before)
 (hres : ∀ (b : Nat) (sp : Nat → Bool) (hd : Bool), DataW.TrodAll enc P W' b sp hd f.resultTypes.toList (v.resultList f.resultTypes.size) (s.fn H (ds ++ gs)).results [])
 (hargs : ∀ sp : Nat → Bool, (∀ p ∈ before, sp p.block = true) → DataW.TrodAll enc P W' 0 sp true f.params.toList args.toList (s.fn H (ds ++ gs)).args pa)
 (hvars : ∀ sp : Nat → Bool, (∀ p ∈ before, sp p.block = true) → DataW.TrodVars enc P W' sp s.vars (s.fn H (ds ++ gs)).vars pv)
 (hps : before = pa ++ pv) (hk : Kept W W')
 (hok : ∀ (j : Nat) (t : TypeId) (r : Value), f.resultTypes[j]? = some t → (v.resultList f.resultTypes.size)[j]? = some r → Value.okWide P W' .any 0 t r) :
 s.post enc P f apart fresh handsOn again W args v W' := by
 have hlt : ∀ p ∈ before, p.block < W.heap.size := fun p hp => hW.lt p hp
 have hold : ∀ p ∈ before, (fun b => decide (b < W.heap.size)) p.block = true := fun p hp => by simpa using hlt p hp
 refine ⟨ds, gs, before, [], pa, pv, hW, hres _ _ _, hargs _ hold, hvars _ hold, World.keptBut_mono (fun p hp => ⟨hp, ?_⟩) (hk.but _), fun _ => ?_⟩
 · rw [hps, List.mem_append] at hp
   exact Or.inr hp
 · obtain ⟨_, _, _, _, _, hz, hn⟩ := hW
   refine ⟨hok, _, _, ([] ++ pa) ++ pv, ⟨[] ++ pa, pv, trodAll_append (hargs _ (fun _ _ => rfl)) (hres _ _ _), hvars _ (fun _ _ => rfl), rfl, ?_, ?_⟩, ?_⟩
   · intro b off hp
     have hp' : MemPlace.cell b off ∈ before := by rw [hps]; simpa using hp
     rw [hk.frozen b off (hlt _ hp')]
     exact hz b off hp'
   · intro ha
     have := hn ha
     rw [hps] at this
     simpa using this
   · intro p hp _
     rw [hps]
     simpa using hp
end
end Go.Fr
