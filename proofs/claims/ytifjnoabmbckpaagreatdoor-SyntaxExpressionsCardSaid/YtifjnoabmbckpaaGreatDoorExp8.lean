import Derived.Test.YtifjnoabmbckpaaGreatDoorExp7
import Derived.WalkKit
import Derived.ProofKit
import Derived.OpenShut
import Derived.Deep.DeepHandedRow
import Derived.ChangeSlices
namespace Go.Proofs.D
open Go Go.Den Go.Sx
set_option maxRecDepth 100000
attribute [local irreducible] IntKind.wrap Tri parseS
def plQ (p : Nat → Int × Int) (n : Nat) : List Value := [vI (p n).1, vI (p n).2]
section
variable {p : Nat → Int × Int} {g : PHeap} {cb : Nat}
def TEq (p : Nat → Int × Int) (g : PHeap) (cb : Nat) (e : E) : Prop := ∀ cs, RE (plQ p) 8 g e cs → ∀ h n, Ext g h → CB cb (n + cntE e) h → Tri Tryz.prog 66 [vP cb 0, vA cs] h (CP cb n h)
theorem texprsq (hg : g cb = none) {f b1 : Nat} (hf : f = 108 ∨ f = 176) {es : List E} (ih : ∀ e ∈ es, TEq p g cb e) {a : Option Addr} {c : Nat} (hA : At 8 (RE (plQ p) 8) g a es) {h : PHeap} {n : Nat} (hx : Ext g h) (hb : b1 ≠ cb) (hb1 : h b1 = some (.cells ⟨[vP cb 0]⟩ 127)) (hc : CB cb (n + cntEs es) h) :
 Tri Tryz.prog 107 [vL a es.length c, vF f [] [vP b1 0]] h fun v h' => v = vB false ∧ Away cb h h' ∧ CB cb n h' := by
 refine T107 ?_
 unfold R107
 have hl := hc.1
 have hlen := cntEs_len es
 suffices hs : Tri Tryz.prog 153 [vL a es.length c, vF f [] [vP b1 0]] h fun v h' => v = vI (-1) ∧ Away cb h h' ∧ CB cb n h' by
  refine Tri.mono hs ?_
  rintro _ h1 ⟨rfl, h2, h3⟩
  exact ⟨_, rfl, rfl, h2, h3⟩
 refine T153 ?_
 unfold R153
 refine ⟨fun m i h' => Away cb h h' ∧ ∃ j : Nat, i = j ∧ j + m = es.length ∧ CB cb (n + cntEs (es.drop j)) h', ⟨es.length, Away.refl _ _, 0, rfl, by omega, hc⟩, ?_⟩
 rintro m _ h1 ⟨ha, j, rfl, hjm, hcj⟩
 refine br_split (fun e => ?_) (fun e => ?_)
 · have hj : j < es.length := by
    have := of_decide_eq_true e
    omega
   obtain ⟨b, o, cs, rfl, hr, hrel⟩ := hA.get hj
   have ihj := ih _ (List.getElem_mem hj) _ hrel h1 (n + cntEs (es.drop (j + 1))) (ext_away hg hx ha) (by rw [cntEs_drop hj] at hcj; rwa [show n + cntEs (es.drop (j + 1)) + cntE es[j] = n + (cntE es[j] + cntEs (es.drop (j + 1))) by omega])
   have hr := row_ext (fun ob => ext_away hg hx ha b ob) hr
   have hb2 := ha _ _ hb hb1
   generalize es[j] = x at *
   match x, hrel with
   | .mk kd op nm vl tx args pos, hrel =>
   obtain ⟨a1, c1, rfl, hA1⟩ := RE_iff.1 hrel
   refine ⟨b, o, rfl, ⟨by omega, by omega⟩, _, _, _, _, _, _, _, _, _, _, hr, ?_⟩
   rcases hf with rfl | rfl
   · refine T108 ?_
     unfold R108
     refine ⟨_, _, cell_of hb2 0, ?_⟩
     refine Tri.mono ihj ?_
     rintro _ h2 ⟨rfl, h3, h4⟩
     refine ⟨_, rfl, _, rfl, br_neg rfl ⟨m - 1, by omega, ⟨ha.trans h3, j + 1, ?_, by omega, h4⟩, trivial⟩⟩
     rw [wrap64 (by omega) (by omega)]; rfl
   · refine T176 ?_
     unfold R176
     refine ⟨_, _, cell_of hb2 0, ?_⟩
     refine Tri.mono ihj ?_
     rintro _ h2 ⟨rfl, h3, h4⟩
     refine ⟨_, rfl, _, rfl, br_neg rfl ⟨m - 1, by omega, ⟨ha.trans h3, j + 1, ?_, by omega, h4⟩, trivial⟩⟩
     rw [wrap64 (by omega) (by omega)]; rfl
 · have : es.length ≤ j := by
    have := of_decide_eq_false e
    omega
   rw [List.drop_eq_nil_of_le this] at hcj
   exact ⟨rfl, ha, hcj⟩
theorem texprq (hg : g cb = none) : ∀ k e, cntE e ≤ k → wfE e → TEq p g cb e := by
 intro k
 induction k with
 | zero => intro e he; have := cntE_pos e; omega
 | succ k ih =>
   intro e he hw cs hrel h n hx hc
   match e, he, hw, hrel, hc with
   | .mk kd op nm vl tx args pos, he, hw, hrel, hc =>
   obtain ⟨a1, c1, rfl, hA1⟩ := RE_iff.1 hrel
   simp only [cntE] at he hc
   have hih : ∀ e ∈ args, TEq p g cb e := fun e hm => ih e (by have := cntEs_mem hm; omega) (wfEs_iff.1 hw.2 e hm)
   refine T66 ?_
   unfold R66
   intro b1 hb1 h1 hh1
   have hn1 := ne_cb hc hb1
   have hx1 := Put.ext hh1 hb1
   refine ⟨_, _, cell_of (Put.at hh1) 0, ?_⟩
   refine Tri.mono (one_t (n := n + cntEs args) (cb_put hc hb1 hh1)) ?_
   rintro _ h2 ⟨rfl, ha2, hc2⟩
   have ha02 : Away cb h h2 := hx1.away.trans ha2
   have hb2 := ha2 _ _ hn1 (Put.at hh1)
   have hx2 := ext_away hg hx ha02
   refine ⟨_, rfl, br_neg rfl ?_⟩
   have single : ∀ x, args = [x] → ∃ (p3 o3 : Nat), h2.cell b1 0 = some (vP p3 o3) ∧ ∃ (b2 o4 : Nat), a1 = some ⟨b2, o4, none⟩ ∧ (0 ≤ (0 : Int) ∧ (0 : Int) < args.length) ∧
    ∃ (i5 : Int) (l4 l5 : Bs) (i6 : Int) (l6 : Bs) (a2 : OA) (n2 dyk2 : Nat) (i7 i8 : Int), h2.row b2 o4 [vI i5, vS l4, vS l5, vI i6, vS l6, vL a2 n2 dyk2, vI i7, vI i8] ∧
    Tri Tryz.prog 66 [vP p3 o3, vA [vI i5, vS l4, vS l5, vI i6, vS l6, vL a2 n2 dyk2, vI i7, vI i8]] h2 fun v_2 h_3 => ∃ (c2 : Bool), v_2 = vB c2 ∧ (tv [vL a1 args.length c1]) ∧ CP cb n h (vB c2) h_3 := fun x hxs => by
    subst hxs
    obtain ⟨b, o, cs, rfl, hr, hrel⟩ := hA1.get (n := 0) (by simp)
    have h5 := hih x (by simp) _ hrel h2 n hx2 (by simpa [cntEs] using hc2)
    have hr := row_ext (fun ob => hx2 b ob) hr
    simp only [List.getElem_cons_zero] at hrel
    match x, hrel with
    | .mk kd op nm vl tx args pos, hrel =>
    obtain ⟨a3, c3, rfl, hA3⟩ := RE_iff.1 hrel
    refine ⟨_, _, cell_of hb2 0, b, o, rfl, ⟨by decide, by simp⟩, _, _, _, _, _, _, _, _, _, _, hr, ?_⟩
    refine Tri.mono h5 ?_
    rintro _ h3 ⟨rfl, h6, h7⟩
    exact ⟨_, rfl, rfl, rfl, ha02.trans h6, h7⟩
   rcases hw.1 with ⟨hk, h0⟩ | ⟨hk, h0⟩ | ⟨rfl, h0⟩ | rfl
   · obtain rfl := List.eq_nil_of_length_eq_zero h0
     have hq : CP cb n h (vB true) h2 := ⟨rfl, ha02, hc2⟩
     rcases hk with rfl | rfl | rfl <;> (repeat first | refine br_pos rfl ?_ | refine br_neg rfl ?_) <;> exact hq
   · obtain ⟨x, rfl⟩ := List.length_eq_one_iff.1 h0
     rcases hk with rfl | rfl <;> (repeat first | refine br_pos rfl ?_ | refine br_neg rfl ?_) <;> exact single x rfl
   · obtain ⟨x, y, rfl⟩ : ∃ x y, args = [x, y] := match args, h0 with | [x, y], _ => ⟨x, y, rfl⟩
     (repeat first | refine br_pos rfl ?_ | refine br_neg rfl ?_)
     obtain ⟨b, o, cs, rfl, hr, hrel⟩ := hA1.get (n := 0) (by simp)
     obtain ⟨b', o', cs', ha', hr', hrel'⟩ := hA1.get (n := 1) (by simp)
     cases ha'
     simp only [List.getElem_cons_zero, List.getElem_cons_succ] at hrel hrel'
     have h5 := hih x (by simp) _ hrel h2 (n + cntE y) hx2 (by simpa [cntEs, Nat.add_assoc, Nat.add_comm, Nat.add_left_comm] using hc2)
     have h5' := fun h4 hx4 hc4 => hih y (by simp) _ hrel' h4 n hx4 hc4
     match x, y, hrel, hrel' with
     | .mk kd op nm vl tx args pos, .mk kd' op' nm' vl' tx' args' pos', hrel, hrel' =>
     obtain ⟨a3, c3, rfl, hA3⟩ := RE_iff.1 hrel
     obtain ⟨a4, c4, rfl, hA4⟩ := RE_iff.1 hrel'
     refine ⟨_, _, cell_of hb2 0, b, o, rfl, ⟨by decide, by simp⟩, _, _, _, _, _, _, _, _, _, _, row_ext (fun ob => hx2 b ob) hr, ?_⟩
     refine Tri.mono h5 ?_
     rintro _ h3 ⟨rfl, h6, h7⟩
     have hx3 := ext_away hg hx2 h6
     refine ⟨_, rfl, rfl, br_pos rfl ?_⟩
     refine ⟨_, _, cell_of (h6 _ _ hn1 hb2) 0, b, o, rfl, ⟨by decide, by simp⟩, _, _, _, _, _, _, _, _, _, _, row_ext (fun ob => hx3 b ob) hr', ?_⟩
     refine Tri.mono (h5' h3 hx3 h7) ?_
     rintro _ h4 ⟨rfl, h8, h9⟩
     exact ⟨_, rfl, rfl, rfl, rfl, (ha02.trans h6).trans h8, h9⟩
   · (repeat first | refine br_pos rfl ?_ | refine br_neg rfl ?_)
     refine Tri.mono (texprsq hg (.inl rfl) hih hA1 hx2 hn1 hb2 hc2) ?_
     rintro _ h3 ⟨rfl, h6, h7⟩
     exact ⟨_, rfl, rfl, ha02.trans h6, h7⟩
end
theorem wfE_ok {e : E} (h : OkE e) : wfE e := by
 induction h with
 | num _ => simp [wfE, wfEs, shapeE]
 | str _ => simp [wfE, wfEs, shapeE]
 | var _ => simp [wfE, wfEs, shapeE]
 | elem _ _ ih => simp [wfE, wfEs, shapeE, ih]
 | call _ _ ih => simp only [wfE, shapeE, wfEs_iff]; exact ⟨by simp, ih⟩
 | un _ _ ih => simp [wfE, wfEs, shapeE, ih]
 | bin _ _ _ iha ihb => simp [wfE, wfEs, shapeE, iha, ihb]
theorem prEs_map : ∀ (l : List E), prEs l = l.map prE
 | [] => rfl
 | e :: l => by rw [prEs, prEs_map l]; rfl
theorem flat_vS2 : ∀ (l : List E), (l.map fun e => [vS (prE e)]).flatten = (l.map prE).map fun l => vS l
 | [] => rfl
 | x :: l => by rw [List.map_cons, List.flatten_cons, flat_vS2 l]; rfl
theorem moreB_mem {x : Bytes} : ∀ {l : List Bytes}, x ∈ l → x.length ≤ (moreB l).length
 | y :: l, h => by
   rcases List.mem_cons.1 h with h | h
   · subst h; simp only [moreB, List.length_cons, List.length_append]; omega
   · have := moreB_mem h; simp only [moreB, List.length_cons, List.length_append]; omega
theorem commaB_mem {x : Bytes} {l : List Bytes} (h : x ∈ l) : x.length ≤ (commaB l).length := by
 cases l with
 | nil => cases h
 | cons y l =>
   rcases List.mem_cons.1 h with h | h
   · subst h; simp only [commaB, List.length_append]; omega
   · have := moreB_mem h; simp only [commaB, List.length_append]; omega
def xaE : E → List E | .mk _ _ _ _ _ args _ => args
theorem prL_ge2 (lv : Nat) (e : E) : (prE e).length ≤ (prL lv e).length := by
 unfold prL encB; split
 · simp; omega
 · exact Nat.le_refl _
theorem sub_len {e : E} (h : OkE e) : ∀ x ∈ xaE e, (prE x).length ≤ (prE e).length := by
 intro x hx
 cases h with
 | num _ => cases hx
 | str _ => cases hx
 | var _ => cases hx
 | elem hn he => simp only [xaE, List.mem_singleton] at hx; subst hx; rw [pr_elem]; simp only [List.length_append, List.length_cons]; omega
 | @call n es p hn hes =>
   have hx : x ∈ es := hx
   have := commaB_mem (l := prEs es) (by rw [prEs_map]; exact List.mem_map_of_mem hx)
   rw [pr_call]; simp only [List.length_append, List.length_cons]; omega
 | un ho he => simp only [xaE, List.mem_singleton] at hx; subst hx; rw [pr_un]; have := prL_ge2 11 x; simp only [List.length_append]; omega
 | @bin op a b p ho ha hb =>
   rw [pr_bin]
   have h1 := prL_ge2 (levelS op) a
   have h2 := prL_ge2 (levelS op + 1) b
   simp only [xaE, List.mem_cons, List.not_mem_nil, or_false] at hx
   simp only [List.length_append, List.length_cons]
   rcases hx with rfl | rfl <;> omega
theorem encl_eq (b : Bool) (l : Bytes) : encl b l = encB b l := by cases b <;> rfl
theorem low_mk (k : Nat) (op nm : Bytes) (v : Nat) (tx : Bytes) (args : List E) (p lv : Nat) : low (.mk k op nm v tx args p) lv = (k == 7 && decide (levelS op < lv)) := rfl
theorem dec_le (a b : Nat) : decide (((a : Nat) : Int) ≤ ((b : Nat) : Int)) = decide (a < b + 1) := by rw [Bool.eq_iff_iff]; simp; omega
theorem dec_lt2 (a b : Nat) : decide (((a : Nat) : Int) < ((b : Nat) : Int)) = decide (a < b) := by rw [Bool.eq_iff_iff]; simp
theorem LM.live {e k : Nat} {h0 h : PHeap} {a : Option Addr} {n c : Nat} {css : List (List Value)} (hL : LM e k h0 h a n c css) : ∀ b o, a = ad b o → h b ≠ none := by
 intro b o ha
 rcases hL.row.2 with ⟨h1, _⟩ | ⟨b', c', r, h1, h2, _⟩
 · injection h1 with h1; rw [ha] at h1; cases h1
 · injection h1 with h1; rw [ha] at h1; injection h1 with h1; injection h1 with h1; subst h1; rw [h2]; exact fun e => by cases e
theorem exp_q {p : Nat → Int × Int} : ∀ k e, cntE e ≤ k → k ≤ 100000 → OkE e → (prE e).length ≤ 1000000 → ∀ cs h, PowTab h → RE (plQ p) 8 h e cs → Tri Tryz.prog 67 [vA cs] h fun v h' => v = vS (prE e) ∧ Ext h h' := by
 intro k
 induction k with
 | zero => intro e he; have := cntE_pos e; omega
 | succ k ih =>
   intro e he hk5 hok hle cs h hpt hrel
   have hsub := sub_len hok
   match e, he, hok, hle, hrel, hsub with
   | .mk kd op nm vl tx args pos, he, hok, hle, hrel, hsub =>
   obtain ⟨a1, c1, rfl, hA1⟩ := RE_iff.1 hrel
   simp only [cntE] at he
   have hlen := cntEs_len args
   have hoks : ∀ e ∈ args, OkE e := by
    cases hok with
    | num _ => intro e he; cases he
    | str _ => intro e he; cases he
    | var _ => intro e he; cases he
    | elem _ h => intro e he; simp at he; subst he; exact h
    | call _ h => exact h
    | un _ h => intro e he; simp at he; subst he; exact h
    | bin _ h1 h2 => intro e he; simp at he; rcases he with rfl | rfl <;> assumption
   refine T67 ?_
   unfold R67
   refine ⟨fun m a n k i h' => ∃ j : Nat, i = j ∧ j + m = args.length ∧ n = j ∧ Ext h h' ∧ LM 9 1 h h' a n k ((args.take j).map fun e => [vS (prE e)]), ⟨args.length, 0, rfl, by omega, rfl, Ext.refl _, LM.nil⟩, ?_⟩
   rintro m a2 n2 k2 _ h1 ⟨j, rfl, hjm, rfl, hx1, hM1⟩
   refine br_split (fun e2 => ?_) (fun e2 => ?_)
   · have hj : n2 < args.length := by
      have := of_decide_eq_true e2
      omega
     obtain ⟨b, o, cs, rfl, hr, hrel⟩ := hA1.get hj
     have hmem := List.getElem_mem hj
     have ihj := ih _ (by have := cntEs_mem hmem; omega) (by omega) (hoks _ hmem) (by have : (prE args[n2]).length ≤ _ := hsub _ hmem; omega) cs h1 (hpt.ext hx1) (hrel.ext hx1)
     have htake := List.take_append_getElem hj
     generalize args[n2] = x at *
     match x, hrel with
     | .mk kd' op' nm' vl' tx' args' pos', hrel =>
     obtain ⟨a3, c3, rfl, hA3⟩ := RE_iff.1 hrel
     refine ⟨b, o, rfl, ⟨by omega, by omega⟩, _, _, _, _, _, _, _, _, _, _, row_ext (fun ob => hx1 b ob) hr, ?_⟩
     refine Tri.mono ihj ?_
     rintro _ h2 ⟨rfl, hx2⟩
     refine ⟨_, rfl, ?_⟩
     intro b2 hb2 h3 hh3
     refine Raw.mono (LM.append (h0 := h) (cs := [vS _]) und51 elem9 rfl rfl rfl rfl rfl (hM1.ext hx2) hb2 hh3 rfl rfl (by omega) (hx1.trans hx2).dom) ?_
     rintro _ h4 ⟨b4, cap4, rfl, hk4, hd4, hn4, hq4, hM4, hR4⟩
     refine ⟨_, _, _, rfl, m - 1, by omega, ⟨n2 + 1, ?_, by omega, rfl, fun q o hq => hk4 q o (ne_of hq) ((hx1.trans hx2) q o hq), ?_⟩, rfl, trivial⟩
     · rw [wrap64 (by omega) (by omega)]; rfl
     · rw [← htake, List.map_append]; exact hM4
   have hjl : n2 = args.length := by
    have := of_decide_eq_false e2
    omega
   subst hjl
   rw [List.take_length] at hM1
   have hstr : StrAt h1 a2 (args.map prE) := Own.str (n := args.length) (by simp) (by have := hM1.row; rwa [flat_vS2] at this)
   have hokn := hM1.okN
   have hlive := hM1.live
   cases hok with
   | num hv =>
     refine br_pos rfl ?_
     refine Tri.mono (itoa_t2 vl (by omega) (hpt.ext hx1)) ?_
     rintro _ h1 ⟨rfl, rfl⟩
     exact ⟨_, rfl, by rw [pr_num], hx1⟩
   | str hb =>
     refine br_neg rfl (br_pos rfl ?_)
     refine Tri.mono (quote_t tx hb h1) ?_
     rintro _ h2 ⟨rfl, hx2⟩
     exact ⟨_, _, rfl, by rw [pr_str], hx1.trans hx2⟩
   | var hn =>
     (repeat refine br_neg rfl ?_)
     exact ⟨by rw [pr_var], hx1⟩
   | @elem _ x _ hn hx =>
     rcases hstr with hstr | ⟨sb, so, rfl, hstr⟩
     · cases hstr
     have hs0 := hstr 0 _ rfl
     rw [pr_elem] at hle ⊢
     simp only [List.length_append, List.length_cons, List.length_nil] at hle
     refine br_neg rfl (br_neg rfl (br_pos rfl ⟨by simp; omega, sb, so, rfl, ⟨by decide, by simp⟩, _, hs0, by simp only [List.length_append, List.length_cons, List.length_nil]; omega, by simp only [List.length_append, List.length_cons, List.length_nil]; omega, ?_, hx1⟩))
     simp
   | @call _ es _ hn hes =>
     rw [pr_call, prEs_map] at hle ⊢
     simp only [List.length_append, List.length_cons, List.length_nil] at hle
     refine br_neg rfl (br_neg rfl (br_neg rfl (br_pos rfl ⟨by simp; omega, ?_⟩)))
     have hj := join_t (c := k2) hstr (by rw [List.length_map]; exact hokn.1) (by rw [List.length_map]; omega) (by omega) (fun b o hb _ => hlive b o hb)
     rw [List.length_map] at hj
     refine Tri.mono hj ?_
     rintro _ h1 ⟨rfl, rfl⟩
     refine ⟨_, rfl, rfl, by simp only [List.length_append, List.length_cons, List.length_nil]; omega, by simp only [List.length_append, List.length_cons, List.length_nil]; omega, ?_, hx1⟩
     simp
   | @un _ x _ ho hx =>
     rcases hstr with hstr | ⟨sb, so, rfl, hstr⟩
     · cases hstr
     rcases hA1 with hA1 | ⟨eb, eo, rfl, hA1⟩
     · cases hA1
     have hs0 := hstr 0 _ rfl
     obtain ⟨cs0, hr0, hrel0⟩ := hA1 0 x rfl
     rw [pr_un] at hle ⊢
     simp only [List.length_append] at hle
     have hpl := prL_ge2 11 x
     match x, hrel0, hx, hle, hpl, hs0 with
     | .mk k0 op0 nm0 v0 tx0 args0 pos0, hrel0, hx, hle, hpl, hs0 =>
     obtain ⟨a3, c3, rfl, hA3⟩ := RE_iff.1 hrel0
     have hr0 := row_ext (fun ob => hx1 eb ob) hr0
     refine br_neg rfl (br_neg rfl (br_neg rfl (br_neg rfl (br_pos rfl ⟨sb, so, rfl, ⟨by decide, by simp⟩, _, hs0, eb, eo, rfl, ⟨by decide, by simp⟩, _, hr0.1, ?_⟩))))
     refine Tri.mono (encl_t _ _ (by omega) h1) ?_
     rintro _ h1 ⟨rfl, rfl⟩
     have heq : encl ((k0 : Int) == 7) (prE (.mk k0 op0 nm0 v0 tx0 args0 pos0)) = prL 11 (.mk k0 op0 nm0 v0 tx0 args0 pos0) := by
      rw [encl_eq, prL, low_mk]
      congr 1
      have : decide (levelS op0 < 11) = true := by have := level_le op0; simp; omega
      rw [this, Bool.and_true, show (7 : Int) = ((7 : Nat) : Int) from rfl, Bool.eq_iff_iff, beq_iff_eq, beq_iff_eq]
      omega
     rw [heq]
     exact ⟨_, rfl, hr0.1, rfl, rfl, by omega, rfl, hx1⟩
   | @bin _ x y _ ho hx hy =>
     iterate 5 refine br_neg rfl ?_
     refine br_pos rfl ?_
     rcases hstr with hstr | ⟨sb, so, rfl, hstr⟩
     · cases hstr
     rcases hA1 with hA1 | ⟨eb, eo, rfl, hA1⟩
     · cases hA1
     have hs0 := hstr 0 _ rfl
     have hs1 := hstr 1 _ rfl
     obtain ⟨cs0, hr0, hrel0⟩ := hA1 0 x rfl
     obtain ⟨cs1, hr1, hrel1⟩ := hA1 1 y rfl
     rw [pr_bin] at hle ⊢
     simp only [List.length_append, List.length_cons] at hle
     have hlx := prL_ge2 (levelS op) x
     have hly := prL_ge2 (levelS op + 1) y
     match x, y, hrel0, hrel1, hle, hlx, hly, hs0, hs1 with
     | .mk k0 op0 nm0 v0 tx0 args0 pos0, .mk k1 op1 nm1 v1 tx1 args1 pos1, hrel0, hrel1, hle, hlx, hly, hs0, hs1 =>
     obtain ⟨a3, c3, rfl, hA3⟩ := RE_iff.1 hrel0
     obtain ⟨a4, c4, rfl, hA4⟩ := RE_iff.1 hrel1
     have hr0 := row_ext (fun ob => hx1 eb ob) hr0
     have hr1 := row_ext (fun ob => hx1 eb ob) hr1
     have fin : ∀ l r : Bytes, l = prL (levelS op) (.mk k0 op0 nm0 v0 tx0 args0 pos0) → r = prL (levelS op + 1) (.mk k1 op1 nm1 v1 tx1 args1 pos1) →
      (l.length + ([32] : Bs).length ≤ 9223372036854775807 ∧ (l ++ ([32] : Bs)).length + op.length ≤ 9223372036854775807 ∧ ((l ++ ([32] : Bs)) ++ op).length + ([32] : Bs).length ≤ 9223372036854775807 ∧ (((l ++ ([32] : Bs)) ++ op) ++ ([32] : Bs)).length + r.length ≤ 9223372036854775807 ∧
       vS ((((l ++ ([32] : Bs)) ++ op) ++ ([32] : Bs)) ++ r) = vS (prL (levelS op) (.mk k0 op0 nm0 v0 tx0 args0 pos0) ++ 32 :: (op ++ 32 :: prL (levelS op + 1) (.mk k1 op1 nm1 v1 tx1 args1 pos1))) ∧ Ext h h1) := by
      rintro l r rfl rfl
      refine ⟨by simp only [List.length_cons, List.length_nil]; omega, by simp only [List.length_append, List.length_cons, List.length_nil]; omega, by simp only [List.length_append, List.length_cons, List.length_nil]; omega, by simp only [List.length_append, List.length_cons, List.length_nil]; omega, by simp, hx1⟩
     have hL : ∀ b : Bool, (k0 == 7 && decide (levelS op0 < levelS op)) = b → encl b (prE (.mk k0 op0 nm0 v0 tx0 args0 pos0)) = prL (levelS op) (.mk k0 op0 nm0 v0 tx0 args0 pos0) := fun b hb => by rw [encl_eq, prL, low_mk, hb]
     have hR : ∀ b : Bool, (k1 == 7 && decide (levelS op1 < levelS op + 1)) = b → encl b (prE (.mk k1 op1 nm1 v1 tx1 args1 pos1)) = prL (levelS op + 1) (.mk k1 op1 nm1 v1 tx1 args1 pos1) := fun b hb => by rw [encl_eq, prL, low_mk, hb]
     refine Tri.mono (level_tri op h1) ?_
     rintro _ h1 ⟨rfl, rfl⟩
     refine ⟨_, rfl, sb, so, rfl, ⟨by decide, by simp⟩, _, hs0, eb, eo, rfl, ⟨by decide, by simp⟩, _, hr0.1, br_split (fun e => ?_) (fun e => ?_)⟩
     · have e : k0 = 7 := by have := beq_iff_eq.1 e; omega
       refine ⟨eb, eo, rfl, ⟨by decide, by simp⟩, _, hr0.2.1, ?_⟩
       refine Tri.mono (level_tri op0 h1) ?_
       rintro _ h1 ⟨rfl, rfl⟩
       refine ⟨_, rfl, rfl, hr0.1, rfl, hs0, ?_⟩
       refine Tri.mono (encl_t _ _ (by omega) h1) ?_
       rintro _ h1 ⟨rfl, rfl⟩
       rw [dec_lt2, hL _ (by rw [e]; rfl)]
       refine ⟨_, rfl, rfl, hr0.1, rfl, sb, so, rfl, ⟨by decide, by simp⟩, _, hs1, eb, eo, rfl, ⟨by decide, by simp⟩, _, hr1.1, br_split (fun e' => ?_) (fun e' => ?_)⟩
       · have e' : k1 = 7 := by have := beq_iff_eq.1 e'; omega
         refine ⟨eb, eo, rfl, ⟨by decide, by simp⟩, _, hr1.2.1, ?_⟩
         refine Tri.mono (level_tri op1 h1) ?_
         rintro _ h1 ⟨rfl, rfl⟩
         refine ⟨_, rfl, rfl, hr1.1, rfl, hs1, ?_⟩
         refine Tri.mono (encl_t _ _ (by omega) h1) ?_
         rintro _ h1 ⟨rfl, rfl⟩
         rw [dec_le, hR _ (by rw [e']; rfl)]
         exact ⟨_, rfl, rfl, hr1.1, rfl, fin _ _ rfl rfl⟩
       · have e' : k1 ≠ 7 := fun q => by subst q; cases e'
         refine ⟨hr1.1, rfl, hs1, ?_⟩
         refine Tri.mono (encl_t _ _ (by omega) h1) ?_
         rintro _ h1 ⟨rfl, rfl⟩
         rw [hR false (by simp [e'])]
         exact ⟨_, rfl, hr1.1, rfl, fin _ _ rfl rfl⟩
     · have e : k0 ≠ 7 := fun q => by subst q; cases e
       refine ⟨hr0.1, rfl, hs0, ?_⟩
       refine Tri.mono (encl_t _ _ (by omega) h1) ?_
       rintro _ h1 ⟨rfl, rfl⟩
       rw [hL false (by simp [e])]
       refine ⟨_, rfl, hr0.1, rfl, sb, so, rfl, ⟨by decide, by simp⟩, _, hs1, eb, eo, rfl, ⟨by decide, by simp⟩, _, hr1.1, br_split (fun e' => ?_) (fun e' => ?_)⟩
       · have e' : k1 = 7 := by have := beq_iff_eq.1 e'; omega
         refine ⟨eb, eo, rfl, ⟨by decide, by simp⟩, _, hr1.2.1, ?_⟩
         refine Tri.mono (level_tri op1 h1) ?_
         rintro _ h1 ⟨rfl, rfl⟩
         refine ⟨_, rfl, rfl, hr1.1, rfl, hs1, ?_⟩
         refine Tri.mono (encl_t _ _ (by omega) h1) ?_
         rintro _ h1 ⟨rfl, rfl⟩
         rw [dec_le, hR _ (by rw [e']; rfl)]
         exact ⟨_, rfl, rfl, hr1.1, rfl, fin _ _ rfl rfl⟩
       · have e' : k1 ≠ 7 := fun q => by subst q; cases e'
         refine ⟨hr1.1, rfl, hs1, ?_⟩
         refine Tri.mono (encl_t _ _ (by omega) h1) ?_
         rintro _ h1 ⟨rfl, rfl⟩
         rw [hR false (by simp [e'])]
         exact ⟨_, rfl, hr1.1, rfl, fin _ _ rfl rfl⟩
theorem exprx_t {p : Nat → Int × Int} {e : E} (hok : OkE e) (hc : cntE e ≤ 4096) (hle : (prE e).length ≤ 1000000) {cs : List Value} {h : PHeap} (hpt : PowTab h) (hrel : RE (plQ p) 8 h e cs) : Tri Tryz.prog 22 [vA cs] h fun v h' => v = vS (prE e) ∧ Ext h h' := by
 match e, hok, hc, hle, hrel with
 | .mk kd op nm vl tx args pos, hok, hc, hle, hrel =>
 have hrel0 := hrel
 obtain ⟨a1, c1, rfl, hA1⟩ := RE_iff.1 hrel
 refine T22 ?_
 unfold R22
 intro b4 hb4 h3 hh3
 have hx3 := Put.ext hh3 hb4
 refine Tri.mono (texprq (p := p) hb4 _ _ (Nat.le_refl _) (wfE_ok hok) _ hrel0 h3 (4096 - cntE (.mk kd op nm vl tx args pos)) hx3 ⟨by omega, by have := Put.at hh3; rwa [show 4096 - cntE (.mk kd op nm vl tx args pos) + cntE (.mk kd op nm vl tx args pos) = 4096 by omega]⟩) ?_
 rintro _ h4 ⟨rfl, ha4, hc4⟩
 have hx4 := ext_away hb4 hx3 ha4
 refine ⟨_, rfl, br_neg rfl ?_⟩
 refine Tri.mono (exp_q (p := p) _ _ (Nat.le_refl _) (by omega) hok hle _ h4 (hpt.ext hx4) (hrel0.ext hx4)) ?_
 rintro _ h5 ⟨rfl, hx5⟩
 exact ⟨_, rfl, rfl, hx4.trans hx5⟩
end Go.Proofs.D
namespace Go.Proofs.D
open Go Go.Den
set_option maxRecDepth 100000
set_option maxHeartbeats 4000000
abbrev dfk1 : List CK := [qi, .str, .str, qi, .str, .slice, qi, qi]
noncomputable def d5 : DCode := up ⟨[(8, .c (.one false [.bool])), (11, .c (.one true dfk1)), (13, .l dfk1), (14, .c (.one false [.str])), (17, .c (.tup [(true, [.slice, .slice]), (false, [qi]), (false, [qi]), (false, [qi])])), (27, .l [.slice]), (32, .l [.slice]), (35, .l [.slice]), (41, .l [.slice]), (44, .l [.slice]), (47, .l [.slice]), (52, .l [.slice]), (55, .l [.slice]), (58, .l [.slice]), (60, .l dfk1), (61, .l dfk1), (62, .c (.one false [.bool]))], [], []⟩ (low Tryz.prog (fun _ => false) (Tryz.f5.body.getD .skip))
theorem low5 : low Tryz.prog (fun _ => false) (Tryz.f5.body.getD .skip) = some (eC d5) := by kernel_rfl
def R5 (a1 : OA) (n1 : Nat) (dfk1 : Nat) (h : PHeap) (Q : Value → PHeap → Prop) : Prop :=
 Tri Tryz.prog 16 [] h fun v_1 h_1 =>
 ∃ (c1 : Bool), v_1 = vB c1 ∧
 br (!c1)
 (Q (vB false) h_1)
 (Tri Tryz.prog 21 [vL a1 n1 dfk1] h_1 fun v_2 h_2 =>
 ∃ (i1 : Int) (l1 l2 : Bs) (i2 : Int) (l3 : Bs) (a2 : OA) (n2 k2 : Nat) (i3 i4 : Int), v_2 = vA [vI i1, vS l1, vS l2, vI i2, vS l3, vL a2 n2 k2, vI i3, vI i4] ∧
 Tri Tryz.prog 22 [vA [vI i1, vS l1, vS l2, vI i2, vS l3, vL a2 n2 k2, vI i3, vI i4]] h_2 fun v_3 h_3 =>
 ∃ (l4 : Bs), v_3 = vS l4 ∧
 ([102, 117, 110, 99, 32, 109, 97, 105, 110, 40, 41, 32, 123, 32, 121, 32, 61, 32] : Bs).length + l4.length ≤ 9223372036854775807 ∧
 (([102, 117, 110, 99, 32, 109, 97, 105, 110, 40, 41, 32, 123, 32, 121, 32, 61, 32] : Bs) ++ l4).length + ([59, 32, 125] : Bs).length ≤ 9223372036854775807 ∧
 Tri Tryz.prog 14 [vS ((([102, 117, 110, 99, 32, 109, 97, 105, 110, 40, 41, 32, 123, 32, 121, 32, 61, 32] : Bs) ++ l4) ++ ([59, 32, 125] : Bs))] h_3 fun v_4 h_4 =>
 ∃ (a3 : OA) (n3 k3 : Nat) (a4 : OA) (n4 k4 : Nat) (i5 i6 i7 : Int), v_4 = vT [vA [vL a3 n3 k3, vL a4 n4 k4], vI i5, vI i6, vI i7] ∧
 br (i7 != 0)
 (Q (vB (i7 == 9)) h_4)
 (br (((n4 : Nat) : Int) != 1)
 (Q (vB false) h_4)
 (∃ (b1 o1 : Nat), a4 = some ⟨b1, o1, none⟩ ∧ (0 ≤ (0 : Int) ∧ (0 : Int) < n4) ∧
 ∃ (a5 : OA) (n5 k5 : Nat), h_4.cell b1 (o1 + 2) = some (vL a5 n5 k5) ∧
 br (((n5 : Nat) : Int) != 1)
 (Q (vB false) h_4)
 (∃ (b2 o2 : Nat), a4 = some ⟨b2, o2, none⟩ ∧ (0 ≤ (0 : Int) ∧ (0 : Int) < n4) ∧
 ∃ (a6 : OA) (n6 k6 : Nat), h_4.cell b2 (o2 + 2) = some (vL a6 n6 k6) ∧
 ∃ (b3 o3 : Nat), a6 = some ⟨b3, o3, none⟩ ∧ (0 ≤ (0 : Int) ∧ (0 : Int) < n6) ∧
 ∃ (a7 : OA) (n7 k7 : Nat), h_4.cell b3 (o3 + 2) = some (vL a7 n7 k7) ∧
 br (((n7 : Nat) : Int) != 1)
 (Q (vB false) h_4)
 (∃ (b4 o4 : Nat), a4 = some ⟨b4, o4, none⟩ ∧ (0 ≤ (0 : Int) ∧ (0 : Int) < n4) ∧
 ∃ (a8 : OA) (n8 k8 : Nat), h_4.cell b4 (o4 + 2) = some (vL a8 n8 k8) ∧
 ∃ (b5 o5 : Nat), a8 = some ⟨b5, o5, none⟩ ∧ (0 ≤ (0 : Int) ∧ (0 : Int) < n8) ∧
 ∃ (a9 : OA) (n9 k9 : Nat), h_4.cell b5 (o5 + 2) = some (vL a9 n9 k9) ∧
 ∃ (b6 o6 : Nat), a9 = some ⟨b6, o6, none⟩ ∧ (0 ≤ (0 : Int) ∧ (0 : Int) < n9) ∧
 ∃ (i8 : Int) (l5 l6 : Bs) (i9 : Int) (l7 : Bs) (a10 : OA) (n10 k10 : Nat) (i10 i11 : Int), h_4.row b6 o6 [vI i8, vS l5, vS l6, vI i9, vS l7, vL a10 n10 k10, vI i10, vI i11] ∧
 Tri Tryz.prog 23 [vA [vI i8, vS l5, vS l6, vI i9, vS l7, vL a10 n10 k10, vI i10, vI i11], vA [vI i1, vS l1, vS l2, vI i2, vS l3, vL a2 n2 k2, vI i3, vI i4]] h_4 fun v_5 h_5 =>
 ∃ (c2 : Bool), v_5 = vB c2 ∧
 (h_5.cell b5 (o5 + 2) = some (vL a9 n9 k9)) ∧
 (h_5.cell b4 (o4 + 2) = some (vL a8 n8 k8)) ∧
 (tv [vL a4 n4 k4]) ∧
 Q (vB c2) h_5)))))
theorem T5 {a1 : OA} {n1 : Nat} {dfk1 : Nat} {h : PHeap} {Q : Value → PHeap → Prop} (hR : R5 a1 n1 dfk1 h Q) : Tri Tryz.prog 5 [vL a1 n1 dfk1] h Q :=
 tri_of_dn mixed Tryz.func5 rfl (by kernel_rfl) low5 (rs := [.tmp 2]) (by kernel_rfl) rfl (Eq.mpr (by kernel_rfl : dnF Tryz.prog Tryz.f5.ntmps d5 [.tmp 2] [vL a1 n1 dfk1] h Q = R5 a1 n1 dfk1 h Q) hR)
abbrev o21_5 : Op := .call { callee := (.builtin .append), args := #[(.tmp 36), (.tmp 41)], argTypes := #[46, 46] }
abbrev o21_10 : Op := .call { callee := (.builtin .append), args := #[(.tmp 46), (.tmp 55)], argTypes := #[46, 46] }
abbrev o21_12 : Op := .call { callee := (.builtin .append), args := #[(.tmp 60), (.tmp 67)], argTypes := #[46, 46] }
abbrev o21_18 : Op := .call { callee := (.builtin .max), args := #[(.const (vI 0)), (.tmp 87)], argTypes := #[3, 3] }
abbrev o21_19 : Op := .call { callee := (.builtin .append), args := #[(.tmp 82), (.tmp 89)], argTypes := #[46, 46] }
abbrev o21_21 : Op := .call { callee := (.builtin .append), args := #[(.tmp 96), (.tmp 99)], argTypes := #[46, 46] }
abbrev o21_30 : Op := .call { callee := (.builtin .append), args := #[(.tmp 122), (.tmp 137)], argTypes := #[46, 46] }
noncomputable def d21 : DCode := up ⟨[(26, .l [.int .u8]), (32, .l dfk1), (42, .c (.one false [.slice])), (56, .c (.one false [.slice])), (68, .c (.one false [.slice])), (75, .l dfk1), (88, .c (.one false [qi])), (90, .c (.one false [.slice])), (100, .c (.one false [.slice])), (107, .c (.one false [.slice])), (111, .l [.str]), (112, .l dfk1), (123, .c (.one false [.slice])), (128, .l [.str]), (133, .l dfk1), (134, .l dfk1), (138, .c (.one false [.slice])), (144, .l dfk1)], [78, 115], [(11, 134, [(3, .slice), (4, qi)], [])]⟩ (low Tryz.prog (fun _ => false) (Tryz.f21.body.getD .skip))
theorem low21 : low Tryz.prog (fun _ => false) (Tryz.f21.body.getD .skip) = some (eC d21) := by kernel_rfl
def R21 (a1 : OA) (n1 : Nat) (dfk1 : Nat) (h : PHeap) (Q : Value → PHeap → Prop) : Prop :=
 ∀ (b1 : Nat), h b1 = none → ∀ (h_1 : PHeap), h_1 = h.put b1 (.cells ⟨[vI 3, vS [], vS [118], vI 0, vS [], vL none 0 0, vI 0, vI 0]⟩ 48) →
 ∃ (I_1 : Nat → OA → Nat → Nat → Int → PHeap → Prop), (∃ (m2 : Nat), I_1 m2 (ad b1 0) 1 1 (0 : Int) h_1) ∧
 ∀ (m1 : Nat) (a2 : OA) (n2 : Nat) (k2 : Nat) (i1 : Int) (h_2 : PHeap), I_1 m1 a2 n2 k2 i1 h_2 →
 br (decide (i1 < ((n1 : Nat) : Int)))
 (br (decide (i1 < 60))
 (∃ (b2 o1 : Nat), a1 = some ⟨b2, o1, none⟩ ∧ (0 ≤ i1 ∧ i1 < n1) ∧
 ∃ (i2 : Int), h_2.cell b2 (o1 + (i1).toNat * 1) = some (vU i2) ∧
 ∃ (b3 o2 : Nat), a2 = some ⟨b3, o2, none⟩ ∧ (0 ≤ (IntKind.i64.wrap (((n2 : Nat) : Int) - 1)) ∧ (IntKind.i64.wrap (((n2 : Nat) : Int) - 1)) < n2) ∧
 ∃ (i3 : Int) (l1 l2 : Bs) (i4 : Int) (l3 : Bs) (a3 : OA) (n3 k3 : Nat) (i5 i6 : Int), h_2.row b3 (o2 + (IntKind.i64.wrap (((n2 : Nat) : Int) - 1)).toNat * 8) [vI i3, vS l1, vS l2, vI i4, vS l3, vL a3 n3 k3, vI i5, vI i6] ∧
 br (decide ((IntKind.i64.wrap (i2)) < 40))
 (∀ (b4 : Nat), h_2 b4 = none → ∀ (h_3 : PHeap), h_3 = h_2.put b4 (.cells ⟨[vI 1, vS [], vS [], vI (IntKind.i64.wrap ((IntKind.i64.wrap (i2)) * (IntKind.i64.wrap (i2)))), vS [], vL none 0 0, vI 0, vI 0]⟩ 48) →
 Raw Tryz.prog (execOp (rho [(36, vL a2 n2 k2), (41, vL (ad b4 0) 1 1)]) (mkO o21_5 46)) h_3 fun v_1 h_4 =>
 ∃ (a4 : OA) (n4 k4 : Nat), v_1 = vL a4 n4 k4 ∧
 ∃ (m3 : Nat), m3 < m1 ∧ I_1 m3 a4 n4 k4 (IntKind.i64.wrap (i1 + 1)) h_4 ∧
 tv [vI 0, vS [], vS [], vI 0, vS [], vL none 0 0, vI 0, vI 0] ∧ True)
 (br (decide ((IntKind.i64.wrap (i2)) < 70))
 ((0 ≤ (Int.tmod (IntKind.i64.wrap (i2)) 3) ∧ (Int.tmod (IntKind.i64.wrap (i2)) 3) ≤ (IntKind.i64.wrap ((Int.tmod (IntKind.i64.wrap (i2)) 3) + 1)) ∧ (IntKind.i64.wrap ((Int.tmod (IntKind.i64.wrap (i2)) 3) + 1)) ≤ (3 : Int)) ∧
 ([97] : Bs).length + ((([120, 121, 122] : Bs).drop (Int.tmod (IntKind.i64.wrap (i2)) 3).toNat).take ((IntKind.i64.wrap ((Int.tmod (IntKind.i64.wrap (i2)) 3) + 1)).toNat - (Int.tmod (IntKind.i64.wrap (i2)) 3).toNat)).length ≤ 9223372036854775807 ∧
 ∀ (b5 : Nat), h_2 b5 = none → ∀ (h_5 : PHeap), h_5 = h_2.put b5 (.cells ⟨[vI 3, vS [], vS (([97] : Bs) ++ ((([120, 121, 122] : Bs).drop (Int.tmod (IntKind.i64.wrap (i2)) 3).toNat).take ((IntKind.i64.wrap ((Int.tmod (IntKind.i64.wrap (i2)) 3) + 1)).toNat - (Int.tmod (IntKind.i64.wrap (i2)) 3).toNat))), vI 0, vS [], vL none 0 0, vI 0, vI 0]⟩ 48) →
 Raw Tryz.prog (execOp (rho [(46, vL a2 n2 k2), (55, vL (ad b5 0) 1 1)]) (mkO o21_10 46)) h_5 fun v_2 h_6 =>
 ∃ (a5 : OA) (n5 k5 : Nat), v_2 = vL a5 n5 k5 ∧
 ∃ (m4 : Nat), m4 < m1 ∧ I_1 m4 a5 n5 k5 (IntKind.i64.wrap (i1 + 1)) h_6 ∧
 tv [vI 0, vS [], vS [], vI 0, vS [], vL none 0 0, vI 0, vI 0] ∧ True)
 (br (decide ((IntKind.i64.wrap (i2)) < 80))
 (∀ (b6 : Nat), h_2 b6 = none → ∀ (h_7 : PHeap), h_7 = h_2.put b6 (.cells ⟨[vU (IntKind.u8.wrap ((IntKind.i64.wrap (i2))))]⟩ 5) →
 ∃ (l4 : Bs), BytesAt h_7 (ad b6 0) 1 l4 ∧
 ([115, 10, 34] : Bs).length + l4.length ≤ 9223372036854775807 ∧
 ∀ (b7 : Nat), h_7 b7 = none → ∀ (h_8 : PHeap), h_8 = h_7.put b7 (.cells ⟨[vI 2, vS [], vS [], vI 0, vS (([115, 10, 34] : Bs) ++ l4), vL none 0 0, vI 0, vI 0]⟩ 48) →
 Raw Tryz.prog (execOp (rho [(60, vL a2 n2 k2), (67, vL (ad b7 0) 1 1)]) (mkO o21_12 46)) h_8 fun v_3 h_9 =>
 ∃ (a6 : OA) (n6 k6 : Nat), v_3 = vL a6 n6 k6 ∧
 ∃ (m5 : Nat), m5 < m1 ∧ I_1 m5 a6 n6 k6 (IntKind.i64.wrap (i1 + 1)) h_9 ∧
 tv [vI 0, vS [], vS [], vI 0, vS [], vL none 0 0, vI 0, vI 0] ∧ True)
 (br (decide ((IntKind.i64.wrap (i2)) < 95))
 (∀ (b8 : Nat), h_2 b8 = none → ∀ (h_10 : PHeap), h_10 = h_2.put b8 (.cells ⟨[vI i3, vS l1, vS l2, vI i4, vS l3, vL a3 n3 k3, vI i5, vI i6]⟩ 48) →
 ∃ (b9 o3 : Nat), a2 = some ⟨b9, o3, none⟩ ∧ (0 ≤ (IntKind.i64.wrap (((n2 : Nat) : Int) - 1)) ∧ (IntKind.i64.wrap (((n2 : Nat) : Int) - 1)) < n2) ∧
 ∃ (l5 : List Value) (t1 : TypeId) (z1 : Nat × Nat), h_10 b9 = some (.cells ⟨l5⟩ t1 z1) ∧ ((o3 + (IntKind.i64.wrap (((n2 : Nat) : Int) - 1)).toNat * 8) + 8 ≤ l5.length ∧ z1.2 ≤ (o3 + (IntKind.i64.wrap (((n2 : Nat) : Int) - 1)).toNat * 8)) ∧
 ∀ (h_11 : PHeap), h_11 = h_10.put b9 (.cells ⟨splice l5 (o3 + (IntKind.i64.wrap (((n2 : Nat) : Int) - 1)).toNat * 8) [vI 4, vS [], vS [101], vI 0, vS [], vL (ad b8 0) 1 1, vI 0, vI 0]⟩ t1 z1) →
 ∃ (m6 : Nat), m6 < m1 ∧ I_1 m6 a2 n2 k2 (IntKind.i64.wrap (i1 + 1)) h_11 ∧
 tv [vI 0, vS [], vS [], vI 0, vS [], vL none 0 0, vI 0, vI 0] ∧ True)
 (br (decide ((IntKind.i64.wrap (i2)) < 110))
 (∀ (b10 : Nat), h_2 b10 = none → ∀ (h_12 : PHeap), h_12 = h_2.put b10 (.cells ⟨[]⟩ 48) →
 ∃ (i7 : Int), PureRun Tryz.prog (execOp (rho [(87, vI (IntKind.i64.wrap (((n2 : Nat) : Int) - (Int.tmod (IntKind.i64.wrap (i2)) 4))))]) (mkO o21_18 3)) (vI i7) ∧
 (okA a2 n2 k2 ∧ 0 ≤ i7 ∧ i7 ≤ ((n2 : Nat) : Int) ∧ ((n2 : Nat) : Int) ≤ k2) ∧ ∀ (a7 : OA), SlA a2 a7 (i7).toNat k2 8 →
 Raw Tryz.prog (execOp (rho [(82, vL (ad b10 0) 0 0), (89, vL a7 (((n2 : Nat) : Int).toNat - (i7).toNat) (k2 - (i7).toNat))]) (mkO o21_19 46)) h_12 fun v_4 h_13 =>
 ∃ (a8 : OA) (n7 k7 : Nat), v_4 = vL a8 n7 k7 ∧
 (okA a2 n2 k2 ∧ 0 ≤ (0 : Int) ∧ (0 : Int) ≤ (IntKind.i64.wrap (((n2 : Nat) : Int) - ((n7 : Nat) : Int))) ∧ (IntKind.i64.wrap (((n2 : Nat) : Int) - ((n7 : Nat) : Int))) ≤ k2) ∧ ∀ (a9 : OA), SlA a2 a9 0 k2 8 →
 ∀ (b11 : Nat), h_13 b11 = none → ∀ (h_14 : PHeap), h_14 = h_13.put b11 (.cells ⟨[vI 5, vS [], vS [102], vI 0, vS [], vL a8 n7 k7, vI 0, vI 0]⟩ 48) →
 Raw Tryz.prog (execOp (rho [(96, vL a9 ((IntKind.i64.wrap (((n2 : Nat) : Int) - ((n7 : Nat) : Int))).toNat - 0) (k2 - 0)), (99, vL (ad b11 0) 1 1)]) (mkO o21_21 46)) h_14 fun v_5 h_15 =>
 ∃ (a10 : OA) (n8 k8 : Nat), v_5 = vL a10 n8 k8 ∧
 ∃ (m7 : Nat), m7 < m1 ∧ I_1 m7 a10 n8 k8 (IntKind.i64.wrap (i1 + 1)) h_15 ∧
 tv [vI 0, vS [], vS [], vI 0, vS [], vL none 0 0, vI 0, vI 0] ∧ True)
 (br (decide ((IntKind.i64.wrap (i2)) < 140))
 ((Tri Tryz.prog 65 [] h_2 fun v_6 h_16 =>
 ∃ (a11 : OA) (n9 k9 : Nat), v_6 = vL a11 n9 k9 ∧
 (tv [vI i3, vS l1, vS l2, vI i4, vS l3, vL a3 n3 k3, vI i5, vI i6]) ∧
 ∃ (b12 o4 : Nat), a11 = some ⟨b12, o4, none⟩ ∧ (0 ≤ (Int.tmod (IntKind.i64.wrap (i2)) 3) ∧ (Int.tmod (IntKind.i64.wrap (i2)) 3) < n9) ∧
 ∃ (l6 : Bs), h_16.cell b12 (o4 + (Int.tmod (IntKind.i64.wrap (i2)) 3).toNat * 1) = some (vS l6) ∧
 ∀ (b13 : Nat), h_16 b13 = none → ∀ (h_17 : PHeap), h_17 = h_16.put b13 (.cells ⟨[vI i3, vS l1, vS l2, vI i4, vS l3, vL a3 n3 k3, vI i5, vI i6]⟩ 48) →
 (h_17.cell b12 (o4 + (Int.tmod (IntKind.i64.wrap (i2)) 3).toNat * 1) = some (vS l6)) ∧
 ∃ (b14 o5 : Nat), a2 = some ⟨b14, o5, none⟩ ∧ (0 ≤ (IntKind.i64.wrap (((n2 : Nat) : Int) - 1)) ∧ (IntKind.i64.wrap (((n2 : Nat) : Int) - 1)) < n2) ∧
 ∃ (l7 : List Value) (t2 : TypeId) (z2 : Nat × Nat), h_17 b14 = some (.cells ⟨l7⟩ t2 z2) ∧ ((o5 + (IntKind.i64.wrap (((n2 : Nat) : Int) - 1)).toNat * 8) + 8 ≤ l7.length ∧ z2.2 ≤ (o5 + (IntKind.i64.wrap (((n2 : Nat) : Int) - 1)).toNat * 8)) ∧
 ∀ (h_18 : PHeap), h_18 = h_17.put b14 (.cells ⟨splice l7 (o5 + (IntKind.i64.wrap (((n2 : Nat) : Int) - 1)).toNat * 8) [vI 6, vS l6, vS [], vI 0, vS [], vL (ad b13 0) 1 1, vI 0, vI 0]⟩ t2 z2) →
 ∃ (m8 : Nat), m8 < m1 ∧ I_1 m8 a2 n2 k2 (IntKind.i64.wrap (i1 + 1)) h_18 ∧
 tv [vI 0, vS [], vS [], vI 0, vS [], vL none 0 0, vI 0, vI 0] ∧ True) ∧
 (∀ (b15 : Nat), h_2 b15 = none → ∀ (h_19 : PHeap), h_19 = h_2.put b15 (.cells ⟨[vI i3, vS l1, vS l2, vI i4, vS l3, vL a3 n3 k3, vI i5, vI i6]⟩ 48) →
 Tri Tryz.prog 65 [] h_19 fun v_7 h_20 =>
 ∃ (a12 : OA) (n10 k10 : Nat), v_7 = vL a12 n10 k10 ∧
 ∃ (b16 o6 : Nat), a12 = some ⟨b16, o6, none⟩ ∧ (0 ≤ (Int.tmod (IntKind.i64.wrap (i2)) 3) ∧ (Int.tmod (IntKind.i64.wrap (i2)) 3) < n10) ∧
 ∃ (l8 : Bs), h_20.cell b16 (o6 + (Int.tmod (IntKind.i64.wrap (i2)) 3).toNat * 1) = some (vS l8) ∧
 ∃ (b17 o7 : Nat), a2 = some ⟨b17, o7, none⟩ ∧ (0 ≤ (IntKind.i64.wrap (((n2 : Nat) : Int) - 1)) ∧ (IntKind.i64.wrap (((n2 : Nat) : Int) - 1)) < n2) ∧
 ∃ (l9 : List Value) (t3 : TypeId) (z3 : Nat × Nat), h_20 b17 = some (.cells ⟨l9⟩ t3 z3) ∧ ((o7 + (IntKind.i64.wrap (((n2 : Nat) : Int) - 1)).toNat * 8) + 8 ≤ l9.length ∧ z3.2 ≤ (o7 + (IntKind.i64.wrap (((n2 : Nat) : Int) - 1)).toNat * 8)) ∧
 ∀ (h_21 : PHeap), h_21 = h_20.put b17 (.cells ⟨splice l9 (o7 + (IntKind.i64.wrap (((n2 : Nat) : Int) - 1)).toNat * 8) [vI 6, vS l8, vS [], vI 0, vS [], vL (ad b15 0) 1 1, vI 0, vI 0]⟩ t3 z3) →
 ∃ (m9 : Nat), m9 < m1 ∧ I_1 m9 a2 n2 k2 (IntKind.i64.wrap (i1 + 1)) h_21 ∧
 tv [vI 0, vS [], vS [], vI 0, vS [], vL none 0 0, vI 0, vI 0] ∧ True))
 (br (decide (((n2 : Nat) : Int) > 1))
 ((okA a2 n2 k2 ∧ 0 ≤ (0 : Int) ∧ (0 : Int) ≤ (IntKind.i64.wrap (((n2 : Nat) : Int) - 2)) ∧ (IntKind.i64.wrap (((n2 : Nat) : Int) - 2)) ≤ k2) ∧ ∀ (a13 : OA), SlA a2 a13 0 k2 8 →
 ∃ (b18 o8 : Nat), a2 = some ⟨b18, o8, none⟩ ∧ (0 ≤ (IntKind.i64.wrap (((n2 : Nat) : Int) - 2)) ∧ (IntKind.i64.wrap (((n2 : Nat) : Int) - 2)) < n2) ∧
 ∃ (i8 : Int) (l10 l11 : Bs) (i9 : Int) (l12 : Bs) (a14 : OA) (n11 k11 : Nat) (i10 i11 : Int), h_2.row b18 (o8 + (IntKind.i64.wrap (((n2 : Nat) : Int) - 2)).toNat * 8) [vI i8, vS l10, vS l11, vI i9, vS l12, vL a14 n11 k11, vI i10, vI i11] ∧
 (Tri Tryz.prog 65 [] h_2 fun v_8 h_22 =>
 ∃ (a15 : OA) (n12 k12 : Nat), v_8 = vL a15 n12 k12 ∧
 (tv [vI i3, vS l1, vS l2, vI i4, vS l3, vL a3 n3 k3, vI i5, vI i6]) ∧
 (h_22.row b18 (o8 + (IntKind.i64.wrap (((n2 : Nat) : Int) - 2)).toNat * 8) [vI i8, vS l10, vS l11, vI i9, vS l12, vL a14 n11 k11, vI i10, vI i11]) ∧
 ∃ (b19 o9 : Nat), a15 = some ⟨b19, o9, none⟩ ∧ (0 ≤ (IntKind.i64.wrap (3 + (Int.tmod (IntKind.i64.wrap (i2)) 18))) ∧ (IntKind.i64.wrap (3 + (Int.tmod (IntKind.i64.wrap (i2)) 18))) < n12) ∧
 ∃ (l13 : Bs), h_22.cell b19 (o9 + (IntKind.i64.wrap (3 + (Int.tmod (IntKind.i64.wrap (i2)) 18))).toNat * 1) = some (vS l13) ∧
 ∀ (b20 : Nat), h_22 b20 = none → ∀ (h_23 : PHeap), h_23 = h_22.put b20 (.cells ⟨[vI i8, vS l10, vS l11, vI i9, vS l12, vL a14 n11 k11, vI i10, vI i11, vI i3, vS l1, vS l2, vI i4, vS l3, vL a3 n3 k3, vI i5, vI i6]⟩ 48) →
 (h_23.cell b19 (o9 + (IntKind.i64.wrap (3 + (Int.tmod (IntKind.i64.wrap (i2)) 18))).toNat * 1) = some (vS l13)) ∧
 ∀ (b21 : Nat), h_23 b21 = none → ∀ (h_24 : PHeap), h_24 = h_23.put b21 (.cells ⟨[vI 7, vS l13, vS [], vI 0, vS [], vL (ad b20 0) 2 2, vI 0, vI 0]⟩ 48) →
 (h_24.cell b19 (o9 + (IntKind.i64.wrap (3 + (Int.tmod (IntKind.i64.wrap (i2)) 18))).toNat * 1) = some (vS l13)) ∧
 Raw Tryz.prog (execOp (rho [(122, vL a13 ((IntKind.i64.wrap (((n2 : Nat) : Int) - 2)).toNat - 0) (k2 - 0)), (137, vL (ad b21 0) 1 1)]) (mkO o21_30 46)) h_24 fun v_9 h_25 =>
 ∃ (a16 : OA) (n13 k13 : Nat), v_9 = vL a16 n13 k13 ∧
 (h_25.cell b19 (o9 + (IntKind.i64.wrap (3 + (Int.tmod (IntKind.i64.wrap (i2)) 18))).toNat * 1) = some (vS l13)) ∧
 ∃ (m10 : Nat), m10 < m1 ∧ I_1 m10 a16 n13 k13 (IntKind.i64.wrap (i1 + 1)) h_25 ∧
 tv [vI 0, vS [], vS [], vI 0, vS [], vL none 0 0, vI 0, vI 0] ∧ True) ∧
 (∀ (b22 : Nat), h_2 b22 = none → ∀ (h_26 : PHeap), h_26 = h_2.put b22 (.cells ⟨[vI i8, vS l10, vS l11, vI i9, vS l12, vL a14 n11 k11, vI i10, vI i11, vI i3, vS l1, vS l2, vI i4, vS l3, vL a3 n3 k3, vI i5, vI i6]⟩ 48) →
 Tri Tryz.prog 65 [] h_26 fun v_10 h_27 =>
 ∃ (a17 : OA) (n14 k14 : Nat), v_10 = vL a17 n14 k14 ∧
 ∃ (b23 o10 : Nat), a17 = some ⟨b23, o10, none⟩ ∧ (0 ≤ (IntKind.i64.wrap (3 + (Int.tmod (IntKind.i64.wrap (i2)) 18))) ∧ (IntKind.i64.wrap (3 + (Int.tmod (IntKind.i64.wrap (i2)) 18))) < n14) ∧
 ∃ (l14 : Bs), h_27.cell b23 (o10 + (IntKind.i64.wrap (3 + (Int.tmod (IntKind.i64.wrap (i2)) 18))).toNat * 1) = some (vS l14) ∧
 ∀ (b24 : Nat), h_27 b24 = none → ∀ (h_28 : PHeap), h_28 = h_27.put b24 (.cells ⟨[vI 7, vS l14, vS [], vI 0, vS [], vL (ad b22 0) 2 2, vI 0, vI 0]⟩ 48) →
 (h_28.cell b23 (o10 + (IntKind.i64.wrap (3 + (Int.tmod (IntKind.i64.wrap (i2)) 18))).toNat * 1) = some (vS l14)) ∧
 Raw Tryz.prog (execOp (rho [(122, vL a13 ((IntKind.i64.wrap (((n2 : Nat) : Int) - 2)).toNat - 0) (k2 - 0)), (137, vL (ad b24 0) 1 1)]) (mkO o21_30 46)) h_28 fun v_11 h_29 =>
 ∃ (a18 : OA) (n15 k15 : Nat), v_11 = vL a18 n15 k15 ∧
 (h_29.cell b23 (o10 + (IntKind.i64.wrap (3 + (Int.tmod (IntKind.i64.wrap (i2)) 18))).toNat * 1) = some (vS l14)) ∧
 ∃ (m11 : Nat), m11 < m1 ∧ I_1 m11 a18 n15 k15 (IntKind.i64.wrap (i1 + 1)) h_29 ∧
 tv [vI 0, vS [], vS [], vI 0, vS [], vL none 0 0, vI 0, vI 0] ∧ True))
 (∃ (m12 : Nat), m12 < m1 ∧ I_1 m12 a2 n2 k2 (IntKind.i64.wrap (i1 + 1)) h_2 ∧
 tv [vI 0, vS [], vS [], vI 0, vS [], vL none 0 0, vI 0, vI 0] ∧ True))))))))
 (∃ (b25 o11 : Nat), a2 = some ⟨b25, o11, none⟩ ∧ (0 ≤ (IntKind.i64.wrap (((n2 : Nat) : Int) - 1)) ∧ (IntKind.i64.wrap (((n2 : Nat) : Int) - 1)) < n2) ∧
 ∃ (i12 : Int) (l15 l16 : Bs) (i13 : Int) (l17 : Bs) (a19 : OA) (n16 k16 : Nat) (i14 i15 : Int), h_2.row b25 (o11 + (IntKind.i64.wrap (((n2 : Nat) : Int) - 1)).toNat * 8) [vI i12, vS l15, vS l16, vI i13, vS l17, vL a19 n16 k16, vI i14, vI i15] ∧
 Q (vA [vI i12, vS l15, vS l16, vI i13, vS l17, vL a19 n16 k16, vI i14, vI i15]) h_2))
 (∃ (b26 o12 : Nat), a2 = some ⟨b26, o12, none⟩ ∧ (0 ≤ (IntKind.i64.wrap (((n2 : Nat) : Int) - 1)) ∧ (IntKind.i64.wrap (((n2 : Nat) : Int) - 1)) < n2) ∧
 ∃ (i16 : Int) (l18 l19 : Bs) (i17 : Int) (l20 : Bs) (a20 : OA) (n17 k17 : Nat) (i18 i19 : Int), h_2.row b26 (o12 + (IntKind.i64.wrap (((n2 : Nat) : Int) - 1)).toNat * 8) [vI i16, vS l18, vS l19, vI i17, vS l20, vL a20 n17 k17, vI i18, vI i19] ∧
 Q (vA [vI i16, vS l18, vS l19, vI i17, vS l20, vL a20 n17 k17, vI i18, vI i19]) h_2)
theorem T21 {a1 : OA} {n1 : Nat} {dfk1 : Nat} {h : PHeap} {Q : Value → PHeap → Prop} (hR : R21 a1 n1 dfk1 h Q) : Tri Tryz.prog 21 [vL a1 n1 dfk1] h Q :=
 tri_of_dn mixed Tryz.func21 rfl (by kernel_rfl) low21 (rs := [.cell 2 true 8]) (by kernel_rfl) rfl (Eq.mpr (by kernel_rfl : dnF Tryz.prog Tryz.f21.ntmps d21 [.cell 2 true 8] [vL a1 n1 dfk1] h Q = R21 a1 n1 dfk1 h Q) hR)
noncomputable def d23 : DCode := up ⟨[(7, .l [qi]), (9, .l [qi]), (13, .l [.str]), (15, .l [.str]), (20, .l [.str]), (22, .l [.str]), (27, .l [qi]), (29, .l [qi]), (34, .l [.str]), (36, .l [.str]), (41, .l [.slice]), (44, .l [.slice]), (50, .l [.slice]), (56, .l [.slice]), (59, .l dfk1), (61, .l [.slice]), (64, .l dfk1), (65, .c (.one false [.bool]))], [], [(48, 21, [(5, qi)], [])]⟩ (low Tryz.prog (fun _ => false) (Tryz.f23.body.getD .skip))
theorem low23 : low Tryz.prog (fun _ => false) (Tryz.f23.body.getD .skip) = some (eC d23) := by kernel_rfl
def R23 (i1 : Int) (l1 : Bs) (l2 : Bs) (i2 : Int) (l3 : Bs) (a1 : OA) (n1 : Nat) (dfk1 : Nat) (i3 : Int) (i4 : Int) (i5 : Int) (l4 : Bs) (l5 : Bs) (i6 : Int) (l6 : Bs) (a2 : OA) (n2 : Nat) (k2 : Nat) (i7 : Int) (i8 : Int) (h : PHeap) (Q : Value → PHeap → Prop) : Prop :=
 br (i1 != i5)
 (Q (vB false) h)
 (br (!(l1 == l4))
 (Q (vB false) h)
 (br (!(l2 == l5))
 (Q (vB false) h)
 (br (i2 != i6)
 (Q (vB false) h)
 (br (!(l3 == l6))
 (Q (vB false) h)
 (br (((n1 : Nat) : Int) != ((n2 : Nat) : Int))
 (Q (vB false) h)
 (∃ (I_1 : Nat → Int → PHeap → Prop), (∃ (m2 : Nat), I_1 m2 (0 : Int) h) ∧
 ∀ (m1 : Nat) (i9 : Int) (h_1 : PHeap), I_1 m1 i9 h_1 →
 br (decide (i9 < ((n1 : Nat) : Int)))
 (∃ (b1 o1 : Nat), a1 = some ⟨b1, o1, none⟩ ∧ (0 ≤ i9 ∧ i9 < n1) ∧
 ∃ (i10 : Int) (l7 l8 : Bs) (i11 : Int) (l9 : Bs) (a3 : OA) (n3 k3 : Nat) (i12 i13 : Int), h_1.row b1 (o1 + (i9).toNat * 8) [vI i10, vS l7, vS l8, vI i11, vS l9, vL a3 n3 k3, vI i12, vI i13] ∧
 ∃ (b2 o2 : Nat), a2 = some ⟨b2, o2, none⟩ ∧ (0 ≤ i9 ∧ i9 < n2) ∧
 ∃ (i14 : Int) (l10 l11 : Bs) (i15 : Int) (l12 : Bs) (a4 : OA) (n4 k4 : Nat) (i16 i17 : Int), h_1.row b2 (o2 + (i9).toNat * 8) [vI i14, vS l10, vS l11, vI i15, vS l12, vL a4 n4 k4, vI i16, vI i17] ∧
 Tri Tryz.prog 23 [vA [vI i10, vS l7, vS l8, vI i11, vS l9, vL a3 n3 k3, vI i12, vI i13], vA [vI i14, vS l10, vS l11, vI i15, vS l12, vL a4 n4 k4, vI i16, vI i17]] h_1 fun v_1 h_2 =>
 ∃ (c1 : Bool), v_1 = vB c1 ∧
 (tv [vL a2 n2 k2]) ∧
 (tv [vL a1 n1 dfk1]) ∧
 br (!c1)
 (Q (vB false) h_2)
 (∃ (m3 : Nat), m3 < m1 ∧ I_1 m3 (IntKind.i64.wrap (i9 + 1)) h_2 ∧
 tv [vI i5, vS l4, vS l5, vI i6, vS l6, vL a2 n2 k2, vI i7, vI i8] ∧ tv [vI i1, vS l1, vS l2, vI i2, vS l3, vL a1 n1 dfk1, vI i3, vI i4] ∧ True))
 (Q (vB true) h_1)))))))
theorem T23 {i1 : Int} {l1 : Bs} {l2 : Bs} {i2 : Int} {l3 : Bs} {a1 : OA} {n1 : Nat} {dfk1 : Nat} {i3 : Int} {i4 : Int} {i5 : Int} {l4 : Bs} {l5 : Bs} {i6 : Int} {l6 : Bs} {a2 : OA} {n2 : Nat} {k2 : Nat} {i7 : Int} {i8 : Int} {h : PHeap} {Q : Value → PHeap → Prop} (hR : R23 i1 l1 l2 i2 l3 a1 n1 dfk1 i3 i4 i5 l4 l5 i6 l6 a2 n2 k2 i7 i8 h Q) : Tri Tryz.prog 23 [vA [vI i1, vS l1, vS l2, vI i2, vS l3, vL a1 n1 dfk1, vI i3, vI i4], vA [vI i5, vS l4, vS l5, vI i6, vS l6, vL a2 n2 k2, vI i7, vI i8]] h Q :=
 tri_of_dn mixed Tryz.func23 rfl (by kernel_rfl) low23 (rs := [.tmp 4]) (by kernel_rfl) rfl (Eq.mpr (by kernel_rfl : dnF Tryz.prog Tryz.f23.ntmps d23 [.tmp 4] [vA [vI i1, vS l1, vS l2, vI i2, vS l3, vL a1 n1 dfk1, vI i3, vI i4], vA [vI i5, vS l4, vS l5, vI i6, vS l6, vL a2 n2 k2, vI i7, vI i8]] h Q = R23 i1 l1 l2 i2 l3 a1 n1 dfk1 i3 i4 i5 l4 l5 i6 l6 a2 n2 k2 i7 i8 h Q) hR)
noncomputable def d65 : DCode := up ⟨[], [], []⟩ (low Tryz.prog (fun _ => false) (Tryz.f65.body.getD .skip))
theorem low65 : low Tryz.prog (fun _ => false) (Tryz.f65.body.getD .skip) = some (eC d65) := by kernel_rfl
def R65 (h : PHeap) (Q : Value → PHeap → Prop) : Prop :=
 ∀ (b1 : Nat), h b1 = none → ∀ (h_1 : PHeap), h_1 = h.put b1 (.cells ⟨[vS [45], vS [33], vS [126], vS [124, 124], vS [38, 38], vS [124], vS [94], vS [38], vS [61, 61], vS [33, 61], vS [60], vS [60, 61], vS [62], vS [62, 61], vS [60, 60], vS [62, 62], vS [43], vS [45], vS [42], vS [47], vS [37]]⟩ 9) →
 Q (vL (ad b1 0) 21 21) h_1
theorem T65 {h : PHeap} {Q : Value → PHeap → Prop} (hR : R65  h Q) : Tri Tryz.prog 65 [] h Q :=
 tri_of_dn mixed Tryz.func65 rfl (by kernel_rfl) low65 (rs := [.tmp 0]) (by kernel_rfl) rfl (Eq.mpr (by kernel_rfl : dnF Tryz.prog Tryz.f65.ntmps d65 [.tmp 0] [] h Q = R65  h Q) hR)
end Go.Proofs.D
namespace Go.Proofs.D
open Go Go.Den Go.Sx
set_option maxRecDepth 100000
attribute [local irreducible] IntKind.wrap Tri parseS
theorem alike_t {p q : Nat → Int × Int} {h : PHeap} : ∀ k (e e' : E), cntE e ≤ k → k ≤ 100000 → ∀ cs cs', RE (plQ p) 8 h e cs → RE (plQ q) 8 h e' cs' → Tri Tryz.prog 23 [vA cs, vA cs'] h fun v h' => v = vB (eqE e e') ∧ h' = h := by
 intro k
 induction k with
 | zero => intro e e' hc; have := cntE_pos e; omega
 | succ k ih =>
   intro e e' hc hk cs cs' hrel hrel'
   match e, e', hc, hrel, hrel' with
   | .mk kd op nm vl tx args pos, .mk kd' op' nm' vl' tx' args' pos', hc, hrel, hrel' =>
   obtain ⟨a1, c1, rfl, hA1⟩ := RE_iff.1 hrel
   obtain ⟨a2, c2, rfl, hA2⟩ := RE_iff.1 hrel'
   simp only [cntE] at hc
   have hl := cntEs_len args
   have hres := eqE_c (k := kd) (k' := kd') (v := vl) (v' := vl') (p := pos) (p' := pos') (o := op) (o' := op') (n := nm) (n' := nm') (t := tx) (t' := tx') (a := args) (a' := args') true
   rw [Bool.and_true] at hres
   replace hres := hres.symm
   refine T23 ?_
   unfold R23
   rw [int_bne]
   refine br_and hres (fun e => ⟨by rw [e], rfl⟩) (fun _ hres => ?_)
   refine br_and hres (fun e => ⟨by rw [e], rfl⟩) (fun _ hres => ?_)
   refine br_and hres (fun e => ⟨by rw [e], rfl⟩) (fun _ hres => ?_)
   rw [int_bne]
   refine br_and hres (fun e => ⟨by rw [e], rfl⟩) (fun _ hres => ?_)
   refine br_and hres (fun e => ⟨by rw [e], rfl⟩) (fun _ hres => ?_)
   rw [Bool.and_true] at hres
   by_cases hlen : args.length = args'.length
   · refine br_neg (by simp [hlen]) ?_
     refine ⟨fun m i h' => h' = h ∧ ∃ j : Nat, i = j ∧ j + m = args.length ∧ eqEs (args.drop j) (args'.drop j) = eqE (.mk kd op nm vl tx args pos) (.mk kd' op' nm' vl' tx' args' pos'), ⟨args.length, rfl, 0, rfl, by omega, hres⟩, ?_⟩
     clear hres
     rintro m _ h1 ⟨rfl, j, rfl, hjm, hres⟩
     refine br_split (fun e => ?_) (fun e => ?_)
     · have hj : j < args.length := by have := of_decide_eq_true e; omega
       have hj' : j < args'.length := by omega
       obtain ⟨b, o, cs, ha, hr, hrel⟩ := hA1.get hj
       obtain ⟨b', o', cs', ha', hr', hrel'⟩ := hA2.get hj'
       have ihj := ih _ args'[j] (by have := cntEs_mem (List.getElem_mem hj); omega) (by omega) _ _ hrel hrel'
       rw [eqEs_L, eqL_drop hj hj', ← eqEs_L] at hres
       generalize args[j] = x at *
       generalize args'[j] = y at *
       match x, y, hrel, hrel' with
       | .mk kd op nm vl tx args pos, .mk kd' op' nm' vl' tx' args' pos', hrel, hrel' =>
       obtain ⟨a1, c1, rfl, hA1⟩ := RE_iff.1 hrel
       obtain ⟨a2, c2, rfl, hA2⟩ := RE_iff.1 hrel'
       refine ⟨b, o, ha, ⟨by omega, by omega⟩, _, _, _, _, _, _, _, _, _, _, hr, b', o', ha', ⟨by omega, by omega⟩, _, _, _, _, _, _, _, _, _, _, hr', ?_⟩
       refine Tri.mono ihj ?_
       rintro _ h ⟨rfl, rfl⟩
       refine ⟨_, rfl, rfl, rfl, br_and hres (fun e => ⟨by rw [e], rfl⟩) (fun _ hres => ?_)⟩
       refine ⟨m - 1, by omega, ⟨rfl, j + 1, ?_, by omega, hres⟩, rfl, rfl, trivial⟩
       rw [wrap64 (by omega) (by omega)]; rfl
     · have hj : args.length ≤ j := by have := of_decide_eq_false e; omega
       rw [List.drop_eq_nil_of_le hj, List.drop_eq_nil_of_le (by omega)] at hres
       exact ⟨by rw [← hres]; rfl, rfl⟩
   · refine br_pos (by rw [int_bne]; simp [hlen]) ⟨?_, rfl⟩
     rw [← hres, eqEs_L, eqL_len hlen]
end Go.Proofs.D
namespace Go.Proofs.D
open Go Go.Den
set_option maxRecDepth 100000
set_option maxHeartbeats 4000000
end Go.Proofs.D
namespace Go.Proofs.D
open Go Go.Den Go.Sx
set_option maxRecDepth 100000
attribute [local irreducible] IntKind.wrap Tri marks words oneS
theorem isDigit_iff {c : UInt8} : isDigit c = true ↔ 48 ≤ c.toNat ∧ c.toNat ≤ 57 := by simp [isDigit]
theorem isHex_iff {c : UInt8} : isHex c = true ↔ (48 ≤ c.toNat ∧ c.toNat ≤ 57) ∨ (97 ≤ c.toNat ∧ c.toNat ≤ 102) := by simp [isHex, isDigit]
theorem hexV_lt {c : UInt8} (h : isHex c = true) : hexV c < 16 := by
 rw [isHex_iff] at h
 unfold hexV
 split
 · rename_i hd; rw [isDigit_iff] at hd; omega
 · rename_i hd; rw [isDigit_iff] at hd; omega
section
attribute [local semireducible] marks words
theorem marks_len : marks.length = 29 := rfl
end
end Go.Proofs.D
namespace Go.Proofs.D
open Go Go.Den Go.Sx
set_option maxRecDepth 100000
attribute [local irreducible] IntKind.wrap Tri marks words oneS
end Go.Proofs.D
namespace Go.Proofs.D
open Go Go.Den Go.Sx
set_option maxRecDepth 100000
attribute [local irreducible] IntKind.wrap Tri marks words
def tokR (t : Tok) : List Value := [vI t.kind, vS t.text, vI t.value, vS t.bytes, vI t.pos]
def RT (_ : PHeap) (t : Tok) (cs : List Value) : Prop := cs = tokR t
theorem RT_mono : Mono RT := ⟨fun _ h => h⟩
end Go.Proofs.D
namespace Go.Proofs.D
open Go Go.Den
set_option maxRecDepth 100000
set_option maxHeartbeats 4000000
abbrev dxk1 : List CK := [.slice, qi, qi, qi, qi]
abbrev dxk2 : List CK := [.str, qi, qi, qi]
abbrev dxk3 : List CK := [.str, .slice, .slice, qi]
abbrev dxk4 : List CK := [qi, .str, qi, .str, qi]
abbrev dxk5 : List CK := [qi, .str, .slice, .slice, .slice, qi]
abbrev dxk6 : List CK := [qi, .str, .str, qi, .str, .slice, qi]
noncomputable def d49 : DCode := up ⟨[(7, .l [.slice]), (9, .l [qi]), (11, .l dxk4), (13, .l [qi]), (17, .l [qi]), (21, .l [qi]), (27, .l [.str])], [], []⟩ (low Tryz.prog (fun _ => false) (Tryz.f49.body.getD .skip))
theorem low49 : low Tryz.prog (fun _ => false) (Tryz.f49.body.getD .skip) = some (eC d49) := by kernel_rfl
def R49 (a1 : OA) (n1 : Nat) (dxk1 : Nat) (i1 : Int) (i2 : Int) (i3 : Int) (i4 : Int) (l1 : Bs) (h : PHeap) (Q : Value → PHeap → Prop) : Prop :=
 ∃ (b1 o1 : Nat), a1 = some ⟨b1, o1, none⟩ ∧ (0 ≤ i1 ∧ i1 < n1) ∧
 ∃ (i5 : Int) (l2 : Bs) (i6 : Int) (l3 : Bs) (i7 : Int), h.row b1 (o1 + (i1).toNat * 5) [vI i5, vS l2, vI i6, vS l3, vI i7] ∧
 br (i3 == 0)
 (br (i5 == 5)
 (Q (vB (l2 == l1)) h)
 (br (i5 == 4)
 (Q (vB (l2 == l1)) h)
 (Q (vB false) h)))
 (Q (vB false) h)
theorem T49 {a1 : OA} {n1 : Nat} {dxk1 : Nat} {i1 : Int} {i2 : Int} {i3 : Int} {i4 : Int} {l1 : Bs} {h : PHeap} {Q : Value → PHeap → Prop} (hR : R49 a1 n1 dxk1 i1 i2 i3 i4 l1 h Q) : Tri Tryz.prog 49 [vA [vL a1 n1 dxk1, vI i1, vI i2, vI i3, vI i4], vS l1] h Q :=
 tri_of_dn mixed Tryz.func49 rfl (by kernel_rfl) low49 (rs := [.tmp 4]) (by kernel_rfl) rfl (Eq.mpr (by kernel_rfl : dnF Tryz.prog Tryz.f49.ntmps d49 [.tmp 4] [vA [vL a1 n1 dxk1, vI i1, vI i2, vI i3, vI i4], vS l1] h Q = R49 a1 n1 dxk1 i1 i2 i3 i4 l1 h Q) hR)
noncomputable def d50 : DCode := up ⟨[(5, .l dxk1), (7, .c (.one false [.bool])), (9, .l dxk1), (10, .c (.one true dxk1)), (17, .l [qi]), (19, .l dxk1), (20, .c (.one true dxk1)), (22, .l [qi]), (30, .l [qi]), (34, .l [qi]), (37, .l dxk1)], [], []⟩ (low Tryz.prog (fun _ => false) (Tryz.f50.body.getD .skip))
theorem low50 : low Tryz.prog (fun _ => false) (Tryz.f50.body.getD .skip) = some (eC d50) := by kernel_rfl
def R50 (a1 : OA) (n1 : Nat) (dxk1 : Nat) (i1 : Int) (i2 : Int) (i3 : Int) (i4 : Int) (l1 : Bs) (h : PHeap) (Q : Value → PHeap → Prop) : Prop :=
 Tri Tryz.prog 49 [vA [vL a1 n1 dxk1, vI i1, vI i2, vI i3, vI i4], vS l1] h fun v_1 h_1 =>
 ∃ (c1 : Bool), v_1 = vB c1 ∧
 br (!c1)
 (Tri Tryz.prog 95 [vA [vL a1 n1 dxk1, vI i1, vI i2, vI i3, vI i4], vI 30] h_1 fun v_2 h_2 =>
 ∃ (a2 : OA) (n2 dxk2 : Nat) (i5 i6 i7 i8 : Int), v_2 = vA [vL a2 n2 dxk2, vI i5, vI i6, vI i7, vI i8] ∧
 Q (vA [vL a2 n2 dxk2, vI i5, vI i6, vI i7, vI i8]) h_2)
 (br (l1 == [40])
 (br (i2 == 32)
 (Tri Tryz.prog 95 [vA [vL a1 n1 dxk1, vI i1, vI i2, vI i3, vI i4], vI 9] h_1 fun v_3 h_3 =>
 ∃ (a3 : OA) (n3 dxk3 : Nat) (i9 i10 i11 i12 : Int), v_3 = vA [vL a3 n3 dxk3, vI i9, vI i10, vI i11, vI i12] ∧
 Q (vA [vL a3 n3 dxk3, vI i9, vI i10, vI i11, vI i12]) h_3)
 (Q (vA [vL a1 n1 dxk1, vI (IntKind.i64.wrap (i1 + 1)), vI (IntKind.i64.wrap (i2 + 1)), vI i3, vI i4]) h_1))
 (br (l1 == [91])
 (br (i2 == 32)
 (Tri Tryz.prog 95 [vA [vL a1 n1 dxk1, vI i1, vI i2, vI i3, vI i4], vI 9] h_1 fun v_4 h_4 =>
 ∃ (a4 : OA) (n4 dxk4 : Nat) (i13 i14 i15 i16 : Int), v_4 = vA [vL a4 n4 dxk4, vI i13, vI i14, vI i15, vI i16] ∧
 Q (vA [vL a4 n4 dxk4, vI i13, vI i14, vI i15, vI i16]) h_4)
 (Q (vA [vL a1 n1 dxk1, vI (IntKind.i64.wrap (i1 + 1)), vI (IntKind.i64.wrap (i2 + 1)), vI i3, vI i4]) h_1))
 (br (l1 == [123])
 (br (i2 == 32)
 (Tri Tryz.prog 95 [vA [vL a1 n1 dxk1, vI i1, vI i2, vI i3, vI i4], vI 9] h_1 fun v_5 h_5 =>
 ∃ (a5 : OA) (n5 dxk5 : Nat) (i17 i18 i19 i20 : Int), v_5 = vA [vL a5 n5 dxk5, vI i17, vI i18, vI i19, vI i20] ∧
 Q (vA [vL a5 n5 dxk5, vI i17, vI i18, vI i19, vI i20]) h_5)
 (Q (vA [vL a1 n1 dxk1, vI (IntKind.i64.wrap (i1 + 1)), vI (IntKind.i64.wrap (i2 + 1)), vI i3, vI i4]) h_1))
 (br (l1 == [41])
 (Q (vA [vL a1 n1 dxk1, vI (IntKind.i64.wrap (i1 + 1)), vI (IntKind.i64.wrap (i2 - 1)), vI i3, vI i4]) h_1)
 (br (l1 == [93])
 (Q (vA [vL a1 n1 dxk1, vI (IntKind.i64.wrap (i1 + 1)), vI (IntKind.i64.wrap (i2 - 1)), vI i3, vI i4]) h_1)
 (br (l1 == [125])
 (Q (vA [vL a1 n1 dxk1, vI (IntKind.i64.wrap (i1 + 1)), vI (IntKind.i64.wrap (i2 - 1)), vI i3, vI i4]) h_1)
 (Q (vA [vL a1 n1 dxk1, vI (IntKind.i64.wrap (i1 + 1)), vI i2, vI i3, vI i4]) h_1)))))))
theorem T50 {a1 : OA} {n1 : Nat} {dxk1 : Nat} {i1 : Int} {i2 : Int} {i3 : Int} {i4 : Int} {l1 : Bs} {h : PHeap} {Q : Value → PHeap → Prop} (hR : R50 a1 n1 dxk1 i1 i2 i3 i4 l1 h Q) : Tri Tryz.prog 50 [vA [vL a1 n1 dxk1, vI i1, vI i2, vI i3, vI i4], vS l1] h Q :=
 tri_of_dn mixed Tryz.func50 rfl (by kernel_rfl) low50 (rs := [.cell 4 true 5]) (by kernel_rfl) rfl (Eq.mpr (by kernel_rfl : dnF Tryz.prog Tryz.f50.ntmps d50 [.cell 4 true 5] [vA [vL a1 n1 dxk1, vI i1, vI i2, vI i3, vI i4], vS l1] h Q = R50 a1 n1 dxk1 i1 i2 i3 i4 l1 h Q) hR)
noncomputable def d95 : DCode := up ⟨[(6, .l [qi]), (10, .l [qi]), (13, .l dxk1)], [], []⟩ (low Tryz.prog (fun _ => false) (Tryz.f95.body.getD .skip))
theorem low95 : low Tryz.prog (fun _ => false) (Tryz.f95.body.getD .skip) = some (eC d95) := by kernel_rfl
def R95 (a1 : OA) (n1 : Nat) (dxk1 : Nat) (i1 : Int) (i2 : Int) (i3 : Int) (i4 : Int) (i5 : Int) (h : PHeap) (Q : Value → PHeap → Prop) : Prop :=
 br (i3 == 0)
 (Q (vA [vL a1 n1 dxk1, vI i1, vI i2, vI i5, vI i1]) h)
 (Q (vA [vL a1 n1 dxk1, vI i1, vI i2, vI i3, vI i4]) h)
theorem T95 {a1 : OA} {n1 : Nat} {dxk1 : Nat} {i1 : Int} {i2 : Int} {i3 : Int} {i4 : Int} {i5 : Int} {h : PHeap} {Q : Value → PHeap → Prop} (hR : R95 a1 n1 dxk1 i1 i2 i3 i4 i5 h Q) : Tri Tryz.prog 95 [vA [vL a1 n1 dxk1, vI i1, vI i2, vI i3, vI i4], vI i5] h Q :=
 tri_of_dn mixed Tryz.func95 rfl (by kernel_rfl) low95 (rs := [.cell 4 true 5]) (by kernel_rfl) rfl (Eq.mpr (by kernel_rfl : dnF Tryz.prog Tryz.f95.ntmps d95 [.cell 4 true 5] [vA [vL a1 n1 dxk1, vI i1, vI i2, vI i3, vI i4], vI i5] h Q = R95 a1 n1 dxk1 i1 i2 i3 i4 i5 h Q) hR)
abbrev o144_4 : Op := .call { callee := (.builtin .append), args := #[(.tmp 21), (.tmp 23)], argTypes := #[172, 172] }
abbrev o144_7 : Op := .call { callee := (.builtin .append), args := #[(.tmp 34), (.tmp 36)], argTypes := #[172, 172] }
noncomputable def d144 : DCode := up ⟨[(6, .l dxk1), (7, .c (.one true dxk1)), (8, .l dxk1), (9, .c (.one false [.bool])), (13, .l [qi]), (17, .l dxk1), (18, .c (.tup [(true, dxk1), (true, dxk6)])), (22, .l dxk6), (24, .c (.one false [.slice])), (25, .l dxk1), (26, .c (.one false [.bool])), (27, .l dxk1), (28, .c (.one true dxk1)), (30, .l dxk1), (31, .c (.tup [(true, dxk1), (true, dxk6)])), (35, .l dxk6), (37, .c (.one false [.slice])), (38, .l dxk1), (39, .c (.one true dxk1))], [], [(25, 14, [(4, .slice)], [(1, dxk1), (5, dxk6)])]⟩ (low Tryz.prog (fun _ => false) (Tryz.f144.body.getD .skip))
theorem low144 : low Tryz.prog (fun _ => false) (Tryz.f144.body.getD .skip) = some (eC d144) := by kernel_rfl
def R144 (a1 : OA) (n1 : Nat) (dxk1 : Nat) (i1 : Int) (i2 : Int) (i3 : Int) (i4 : Int) (h : PHeap) (Q : Value → PHeap → Prop) : Prop :=
 Tri Tryz.prog 50 [vA [vL a1 n1 dxk1, vI i1, vI i2, vI i3, vI i4], vS [40]] h fun v_1 h_1 =>
 ∃ (a2 : OA) (n2 dxk2 : Nat) (i5 i6 i7 i8 : Int), v_1 = vA [vL a2 n2 dxk2, vI i5, vI i6, vI i7, vI i8] ∧
 Tri Tryz.prog 49 [vA [vL a2 n2 dxk2, vI i5, vI i6, vI i7, vI i8], vS [41]] h_1 fun v_2 h_2 =>
 ∃ (c1 : Bool), v_2 = vB c1 ∧
 br (!c1)
 (br (i7 == 0)
 (Tri Tryz.prog 142 [vA [vL a2 n2 dxk2, vI i5, vI i6, vI i7, vI i8], vI 1] h_2 fun v_3 h_3 =>
 ∃ (a3 : OA) (n3 dxk3 : Nat) (i9 i10 i11 i12 i13 : Int) (l1 l2 : Bs) (i14 : Int) (l3 : Bs) (a4 : OA) (n4 dxk4 : Nat) (i15 : Int), v_3 = vT [vA [vL a3 n3 dxk3, vI i9, vI i10, vI i11, vI i12], vA [vI i13, vS l1, vS l2, vI i14, vS l3, vL a4 n4 dxk4, vI i15]] ∧
 ∀ (b1 : Nat), h_3 b1 = none → ∀ (h_4 : PHeap), h_4 = h_3.put b1 (.cells ⟨[vI i13, vS l1, vS l2, vI i14, vS l3, vL a4 n4 dxk4, vI i15]⟩ 186) →
 Raw Tryz.prog (execOp (rho [(21, vL none 0 0), (23, vL (ad b1 0) 1 1)]) (mkO o144_4 172)) h_4 fun v_4 h_5 =>
 ∃ (a5 : OA) (n5 dxk5 : Nat), v_4 = vL a5 n5 dxk5 ∧
 ∃ (I_1 : Nat → OA → Nat → Nat → OA → Nat → Nat → Int → Int → Int → Int → Int → Bs → Bs → Int → Bs → OA → Nat → Nat → Int → PHeap → Prop), (∃ (m2 : Nat), I_1 m2 a5 n5 dxk5 a3 n3 dxk3 i9 i10 i11 i12 i13 l1 l2 i14 l3 a4 n4 dxk4 i15 h_5) ∧
 ∀ (m1 : Nat) (a6 : OA) (n6 : Nat) (dxk6 : Nat) (a7 : OA) (n7 : Nat) (k7 : Nat) (i16 : Int) (i17 : Int) (i18 : Int) (i19 : Int) (i20 : Int) (l4 : Bs) (l5 : Bs) (i21 : Int) (l6 : Bs) (a8 : OA) (n8 : Nat) (k8 : Nat) (i22 : Int) (h_6 : PHeap), I_1 m1 a6 n6 dxk6 a7 n7 k7 i16 i17 i18 i19 i20 l4 l5 i21 l6 a8 n8 k8 i22 h_6 →
 Tri Tryz.prog 49 [vA [vL a7 n7 k7, vI i16, vI i17, vI i18, vI i19], vS [44]] h_6 fun v_5 h_7 =>
 ∃ (c2 : Bool), v_5 = vB c2 ∧
 br c2
 (Tri Tryz.prog 50 [vA [vL a7 n7 k7, vI i16, vI i17, vI i18, vI i19], vS [44]] h_7 fun v_6 h_8 =>
 ∃ (a9 : OA) (n9 k9 : Nat) (i23 i24 i25 i26 : Int), v_6 = vA [vL a9 n9 k9, vI i23, vI i24, vI i25, vI i26] ∧
 Tri Tryz.prog 142 [vA [vL a9 n9 k9, vI i23, vI i24, vI i25, vI i26], vI 1] h_8 fun v_7 h_9 =>
 ∃ (a10 : OA) (n10 k10 : Nat) (i27 i28 i29 i30 i31 : Int) (l7 l8 : Bs) (i32 : Int) (l9 : Bs) (a11 : OA) (n11 k11 : Nat) (i33 : Int), v_7 = vT [vA [vL a10 n10 k10, vI i27, vI i28, vI i29, vI i30], vA [vI i31, vS l7, vS l8, vI i32, vS l9, vL a11 n11 k11, vI i33]] ∧
 ∀ (b2 : Nat), h_9 b2 = none → ∀ (h_10 : PHeap), h_10 = h_9.put b2 (.cells ⟨[vI i31, vS l7, vS l8, vI i32, vS l9, vL a11 n11 k11, vI i33]⟩ 186) →
 Raw Tryz.prog (execOp (rho [(34, vL a6 n6 dxk6), (36, vL (ad b2 0) 1 1)]) (mkO o144_7 172)) h_10 fun v_8 h_11 =>
 ∃ (a12 : OA) (n12 k12 : Nat), v_8 = vL a12 n12 k12 ∧
 ∃ (m3 : Nat), m3 < m1 ∧ I_1 m3 a12 n12 k12 a10 n10 k10 i27 i28 i29 i30 i31 l7 l8 i32 l9 a11 n11 k11 i33 h_11 ∧
 tv [vL none 0 0, vI 0, vI 0, vI 0, vI 0] ∧ True)
 (Tri Tryz.prog 50 [vA [vL a7 n7 k7, vI i16, vI i17, vI i18, vI i19], vS [41]] h_7 fun v_9 h_12 =>
 ∃ (a13 : OA) (n13 k13 : Nat) (i34 i35 i36 i37 : Int), v_9 = vA [vL a13 n13 k13, vI i34, vI i35, vI i36, vI i37] ∧
 Q (vT [vA [vL a13 n13 k13, vI i34, vI i35, vI i36, vI i37], vL a6 n6 dxk6]) h_12))
 (Tri Tryz.prog 50 [vA [vL a2 n2 dxk2, vI i5, vI i6, vI i7, vI i8], vS [41]] h_2 fun v_10 h_13 =>
 ∃ (a14 : OA) (n14 k14 : Nat) (i38 i39 i40 i41 : Int), v_10 = vA [vL a14 n14 k14, vI i38, vI i39, vI i40, vI i41] ∧
 Q (vT [vA [vL a14 n14 k14, vI i38, vI i39, vI i40, vI i41], vL none 0 0]) h_13))
 (Tri Tryz.prog 50 [vA [vL a2 n2 dxk2, vI i5, vI i6, vI i7, vI i8], vS [41]] h_2 fun v_11 h_14 =>
 ∃ (a15 : OA) (n15 k15 : Nat) (i42 i43 i44 i45 : Int), v_11 = vA [vL a15 n15 k15, vI i42, vI i43, vI i44, vI i45] ∧
 Q (vT [vA [vL a15 n15 k15, vI i42, vI i43, vI i44, vI i45], vL none 0 0]) h_14)
theorem T144 {a1 : OA} {n1 : Nat} {dxk1 : Nat} {i1 : Int} {i2 : Int} {i3 : Int} {i4 : Int} {h : PHeap} {Q : Value → PHeap → Prop} (hR : R144 a1 n1 dxk1 i1 i2 i3 i4 h Q) : Tri Tryz.prog 144 [vA [vL a1 n1 dxk1, vI i1, vI i2, vI i3, vI i4]] h Q :=
 tri_of_dn mixed Tryz.func144 rfl (by kernel_rfl) low144 (rs := [.cell 2 true 5, .tmp 3]) (by kernel_rfl) rfl (Eq.mpr (by kernel_rfl : dnF Tryz.prog Tryz.f144.ntmps d144 [.cell 2 true 5, .tmp 3] [vA [vL a1 n1 dxk1, vI i1, vI i2, vI i3, vI i4]] h Q = R144 a1 n1 dxk1 i1 i2 i3 i4 h Q) hR)
end Go.Proofs.D
namespace Go.Proofs.D
open Go Go.Den Go.Sx
set_option maxRecDepth 100000
attribute [local irreducible] IntKind.wrap Tri marks words
def StrB (h : PHeap) (b : Nat) (L : List Bytes) : Prop := ∀ (k : Nat) (l : Bytes), L[k]? = some l → h.cell b k = some (vS l)
theorem StrB.put {h h1 : PHeap} {b : Nat} {L : List Bytes} {t : TypeId} (hh : h1 = h.put b (.cells ⟨L.map fun l => vS l⟩ t)) : StrB h1 b L := fun k l hk => by
 rw [cell_of (Put.at hh), List.getElem?_map, hk]; rfl
theorem StrB.ext {h h' : PHeap} {b : Nat} {L : List Bytes} (x : Ext h h') (hs : StrB h b L) : StrB h' b L := fun k l hk => cell_ext (fun ob => x b ob) (hs k l hk)
structure XC where
 ta : Option Addr
 tn : Nat
 tc : Nat
 i : Int
 op : Int
 err : Int
 bad : Int
def XC.l (x : XC) : List Value := [vL x.ta x.tn x.tc, vI x.i, vI x.op, vI x.err, vI x.bad]
structure QK where
 tb : Nat
 tc : Nat
 all : List Tok
structure QK.In (K : QK) (h : PHeap) : Prop where
 rows : At 5 RT h (ad K.tb 0) K.all
 len : K.all.length ≤ 100000
theorem QK.In.ext {K : QK} {h h' : PHeap} (hI : K.In h) (x : Ext h h') : K.In h' := ⟨hI.rows.ext RT_mono x, hI.len⟩
def XS {α : Type} (K : QK) (x : XC) (r : R α) : Prop :=
 (x.ta = ad K.tb 0 ∧ x.tn = K.all.length ∧ x.tc = K.tc) ∧ ∃ j : Nat, x.i = j ∧ j < K.all.length ∧ match r with
  | .error e => e.1 ≠ 0 ∧ x.err = e.1 ∧ ∃ (b : Nat) (t : Tok), x.bad = b ∧ K.all[b]? = some t ∧ t.pos = e.2
  | .ok (_, ts, d) => x.err = 0 ∧ ts = K.all.drop j ∧ Ended ts ∧ x.op = d ∧ ((ts.length : Int) - 1000000 ≤ d ∧ d ≤ 32)
def XX {α : Type} (K : QK) (x : XC) (r : R α) (rel : α → Prop) : Prop := XS K x r ∧ ∀ y ts d, r = .ok (y, ts, d) → rel y
section
variable {α β γ : Type} {K : QK} {x x' : XC} {r : R α} {h : PHeap}
theorem XS.unit {y : α} {z : β} {ts : List Tok} {d : Int} (hx : XS K x (.ok (y, ts, d) : R α)) : XS K x (.ok (z, ts, d) : R β) := hx
theorem XS.tok (hx : XS K x r) (hI : K.In h) : ∃ t : Tok, x.ta = some ⟨K.tb, 0, none⟩ ∧ (0 ≤ x.i ∧ x.i < (x.tn : Int)) ∧ h.row K.tb (0 + x.i.toNat * 5) (tokR t) ∧ ∀ y ts d, r = .ok (y, ts, d) → t = hd ts := by
 obtain ⟨⟨h1, h2, h3⟩, j, hj, hlt, hst⟩ := hx
 rcases hI.rows with hn | ⟨b, o, ha, hrow⟩
 · rw [hn] at hlt; simp at hlt
 · injection ha with ha; injection ha with ha hb
   subst ha; subst hb
   obtain ⟨cs, hr, hc⟩ := hrow j K.all[j] (List.getElem?_eq_getElem hlt)
   refine ⟨K.all[j], h1, ⟨by omega, by omega⟩, ?_, fun y ts d he => ?_⟩
   · rw [hj, Int.toNat_natCast, ← hc]; exact hr
   · subst he
     obtain ⟨_, hts, _⟩ := hst
     rw [hts, hd, List.headD_eq_head?_getD, List.head?_drop, List.getElem?_eq_getElem hlt]; rfl
theorem XS.err0 (hx : XS K x r) : (x.err == 0) = okR r := by
 obtain ⟨_, j, _, _, hst⟩ := hx
 match r, hst with
 | .error e, hst => rw [hst.2.1]; exact err_ne hst.1
 | .ok (y, ts, d), hst => rw [hst.1]; rfl
theorem XS.adv {y : α} {z : β} {ts : List Tok} {d d' : Int} (hx : XS K x (.ok (y, ts, d) : R α)) (hI : K.In h) (hk : (hd ts).kind ≠ 0) (h1 : (ts.length : Int) - 1 - 1000000 ≤ d') (h2 : d' ≤ 32) :
 XS K ⟨x.ta, x.tn, x.tc, IntKind.i64.wrap (x.i + 1), d', x.err, x.bad⟩ (.ok (z, ts.tail, d') : R β) := by
 obtain ⟨g, j, hj, hlt, e1, e2, e3, e4, e5⟩ := hx
 have hlen := hI.len
 obtain ⟨t1, t2, t3⟩ := e3.tail hk
 have hl : ts.length = K.all.length - j := by rw [e2, List.length_drop]
 refine ⟨g, j + 1, ?_, by omega, e1, ?_, t1, rfl, ?_, h2⟩
 · rw [hj, wrap64 (by omega) (by omega)]; rfl
 · rw [e2, List.tail_drop]
 · rw [List.length_tail]; omega
theorem XS.low {y : α} {ts : List Tok} {d : Int} (hx : XS K x (.ok (y, ts, d) : R α)) (hk : (hd ts).kind ≠ 0) : (ts.length : Int) - 1 - 1000000 ≤ d - 1 ∧ d ≤ 32 ∧ x.op = d ∧ x.err = 0 ∧ 0 < (ts.length : Int) ∧ (ts.length : Int) - 1000000 ≤ d := by
 obtain ⟨g, j, hj, hlt, e1, e2, e3, e4, e5⟩ := hx
 have := len_pos e3
 omega
theorem isw_r (hx : XS K x r) (hI : K.In h) (t : Bytes) : Tri Tryz.prog 49 [vA x.l, vS t] h fun v h' => v = vB (isTr r t) ∧ h' = h := by
 refine T49 ?_
 unfold R49
 obtain ⟨tk, ht1, ht2, ht3, ht4⟩ := hx.tok hI
 have he := hx.err0
 refine ⟨K.tb, 0, ht1, ht2, _, _, _, _, _, ht3, br_split (fun e => ?_) (fun e => ?_)⟩
 · obtain ⟨y, ts, d, rfl⟩ := okR_true (he.symm.trans e)
   have := ht4 _ _ _ rfl
   subst this
   have c5 : ((((hd ts).kind : Nat) : Int) == 5) = ((hd ts).kind == 5) := kind_beq _ 5
   have c4 : ((((hd ts).kind : Nat) : Int) == 4) = ((hd ts).kind == 4) := kind_beq _ 4
   refine br_split (fun e1 => ?_) (fun e1 => br_split (fun e2 => ?_) (fun e2 => ?_))
   · rw [c5] at e1
     refine ⟨?_, rfl⟩
     simp [isTr, isT, e1]
   · rw [c5] at e1; rw [c4] at e2
     refine ⟨?_, rfl⟩
     simp [isTr, isT, e1, e2]
   · rw [c5] at e1; rw [c4] at e2
     refine ⟨?_, rfl⟩
     simp [isTr, isT, e1, e2]
 · obtain ⟨y, rfl⟩ := okR_false (he.symm.trans e)
   exact ⟨rfl, rfl⟩
theorem failw_r (hx : XS K x r) (hI : K.In h) (e : Nat) (h0 : e ≠ 0) : Tri Tryz.prog 95 [vA x.l, vI e] h fun v h' => h' = h ∧ ∃ x' : XC, v = vA x'.l ∧ XS K x' (failR r e : R β) := by
 refine T95 ?_
 unfold R95
 have he := hx.err0
 refine br_split (fun e1 => ?_) (fun e1 => ?_)
 · obtain ⟨y, ts, d, rfl⟩ := okR_true (he.symm.trans e1)
   obtain ⟨g, j, hj, hlt, g1, g2, g3, g4, g5⟩ := hx
   refine ⟨rfl, ⟨x.ta, x.tn, x.tc, x.i, x.op, e, x.i⟩, rfl, g, j, hj, hlt, h0, rfl, j, K.all[j], hj, List.getElem?_eq_getElem hlt, ?_⟩
   rw [g2, hd, List.headD_eq_head?_getD, List.head?_drop, List.getElem?_eq_getElem hlt]; rfl
 · obtain ⟨y, rfl⟩ := okR_false (he.symm.trans e1)
   exact ⟨rfl, x, rfl, hx⟩
theorem takew_r (hx : XS K x r) (hI : K.In h) (t : Bytes) : Tri Tryz.prog 50 [vA x.l, vS t] h fun v h' => h' = h ∧ ∃ x' : XC, v = vA x'.l ∧ XS K x' (bindR r fun _ ts d => takeT t ts d) := by
 refine T50 ?_
 unfold R50
 refine Tri.mono (isw_r hx hI t) ?_
 rintro _ h ⟨rfl, rfl⟩
 refine ⟨_, rfl, br_split (fun e => ?_) (fun e => ?_)⟩
 · refine Tri.mono (failw_r (β := Unit) hx hI 30 (by decide)) ?_
   rintro _ h ⟨rfl, x', rfl, hx'⟩
   refine ⟨_, _, _, _, _, _, _, rfl, rfl, x', rfl, ?_⟩
   match r, e, hx' with
   | .error e', e, hx' => exact hx'
   | .ok (y, ts, d), e, hx' =>
     have e : isT ts t = false := by simpa [isTr] using e
     simp only [bindR_ok, takeT, e]; exact hx'
 · match r, e, hx with
   | .error e', e, hx => simp [isTr] at e
   | .ok (y, ts, d), e, hx =>
     have e : isT ts t = true := by simpa [isTr] using e
     have hk := isT_kind e
     have hlo := hx.low hk
     have opn : ∀ {t' : Bytes}, isT ts t' = true → opens t' = true → br (x.op == 32)
      (Tri Tryz.prog 95 [vA [vL x.ta x.tn x.tc, vI x.i, vI x.op, vI x.err, vI x.bad], vI 9] h fun v_3 h_3 =>
       ∃ (Ta2 : Option Addr) (Tn2 Tc2 : Nat) (I_2 Open2 Err2 Bad2 : Int), v_3 = vA [vL Ta2 Tn2 Tc2, vI I_2, vI Open2, vI Err2, vI Bad2] ∧
       h_3 = h ∧ ∃ x' : XC, vA [vL Ta2 Tn2 Tc2, vI I_2, vI Open2, vI Err2, vI Bad2] = vA x'.l ∧ XS K x' (bindR (.ok (y, ts, d) : R α) fun _ ts d => takeT t' ts d))
      (h = h ∧ ∃ x' : XC, vA [vL x.ta x.tn x.tc, vI (IntKind.i64.wrap (x.i + 1)), vI (IntKind.i64.wrap (x.op + 1)), vI x.err, vI x.bad] = vA x'.l ∧ XS K x' (bindR (.ok (y, ts, d) : R α) fun _ ts d => takeT t' ts d)) := by
      intro t' g1 g2
      refine br_split (fun e1 => ?_) (fun e1 => ?_)
      · have h32 : d = 32 := by
         have : x.op = 32 := by simpa using e1
         omega
        refine Tri.mono (failw_r (β := Unit) hx hI 9 (by decide)) ?_
        rintro _ h ⟨rfl, x', rfl, hx'⟩
        refine ⟨_, _, _, _, _, _, _, rfl, rfl, x', rfl, ?_⟩
        simp only [bindR_ok, takeT, g1, g2, h32]; exact hx'
      · have h32 : d ≠ 32 := by
         have : ¬ x.op = 32 := by simpa using e1
         omega
        refine ⟨rfl, ⟨x.ta, x.tn, x.tc, IntKind.i64.wrap (x.i + 1), d + 1, x.err, x.bad⟩, ?_, ?_⟩
        · rw [hlo.2.2.1, wrap64 (n := d + 1) (by omega) (by omega)]; rfl
        · have := hx.adv (z := ()) hI hk (d' := d + 1) (by omega) (by omega)
          simp only [bindR_ok, takeT, g1, g2, if_neg h32]; exact this
     have cls : ∀ {t' : Bytes}, isT ts t' = true → opens t' = false → closes t' = true →
      (h = h ∧ ∃ x' : XC, vA [vL x.ta x.tn x.tc, vI (IntKind.i64.wrap (x.i + 1)), vI (IntKind.i64.wrap (x.op - 1)), vI x.err, vI x.bad] = vA x'.l ∧ XS K x' (bindR (.ok (y, ts, d) : R α) fun _ ts d => takeT t' ts d)) := by
      intro t' g1 g2 g3
      refine ⟨rfl, ⟨x.ta, x.tn, x.tc, IntKind.i64.wrap (x.i + 1), d - 1, x.err, x.bad⟩, ?_, ?_⟩
      · rw [hlo.2.2.1, wrap64 (n := d - 1) (by omega) (by omega)]; rfl
      · have := hx.adv (z := ()) hI hk (d' := d - 1) (by omega) (by omega)
        simp only [bindR_ok, takeT, g1, g2, g3]; exact this
     refine br_split (fun f1 => ?_) (fun f1 => ?_)
     · have f1 : t = [40] := by simpa using f1
       subst f1; exact opn e rfl
     refine br_split (fun f2 => ?_) (fun f2 => ?_)
     · have f2 : t = [91] := by simpa using f2
       subst f2; exact opn e rfl
     refine br_split (fun f3 => ?_) (fun f3 => ?_)
     · have f3 : t = [123] := by simpa using f3
       subst f3; exact opn e rfl
     refine br_split (fun f4 => ?_) (fun f4 => ?_)
     · have f4 : t = [41] := by simpa using f4
       subst f4; exact cls e rfl rfl
     refine br_split (fun f5 => ?_) (fun f5 => ?_)
     · have f5 : t = [93] := by simpa using f5
       subst f5; exact cls e rfl rfl
     refine br_split (fun f6 => ?_) (fun f6 => ?_)
     · have f6 : t = [125] := by simpa using f6
       subst f6; exact cls e rfl rfl
     have g2 : opens t = false := by simp only [opens, f1, f2, f3]; rfl
     have g3 : closes t = false := by simp only [closes, f4, f5, f6]; rfl
     refine ⟨rfl, ⟨x.ta, x.tn, x.tc, IntKind.i64.wrap (x.i + 1), d, x.err, x.bad⟩, ?_, ?_⟩
     · rw [hlo.2.2.1]; rfl
     · have := hx.adv (z := ()) hI hk (d' := d) (by omega) (by omega)
       simp only [bindR_ok, takeT, e, g2, g3]; exact this
theorem XX.mono {rel rel' : α → Prop} (hx : XX K x r rel) (hr : ∀ y, rel y → rel' y) : XX K x r rel' := ⟨hx.1, fun y ts d h => hr y (hx.2 y ts d h)⟩
theorem XX.then {g : List Tok → Int → R β} {rel rel' : α → Prop} (hx : XX K x r rel) (hP : XS K x' (bindR r fun _ ts d => g ts d)) (hr : ∀ y, rel y → rel' y) : XX K x' (thenR r g) rel' := by
 match r, hx, hP with
 | .error e, hx, hP => exact ⟨hP, fun y ts d h => by cases h⟩
 | .ok (y, ts, d), hx, hP =>
   simp only [thenR, bindR_ok] at hP ⊢
   generalize g ts d = r2 at *
   match r2, hP with
   | .error e, hP => exact ⟨hP, fun y ts d h => by cases h⟩
   | .ok (z, ts2, d2), hP => exact ⟨hP, fun y' ts d h => by cases h; exact hr _ (hx.2 _ _ _ rfl)⟩
theorem XX.pair {g : List Tok → Int → R β} {rel : α → Prop} {rel2 : β → Prop} {rel3 : α × β → Prop} (hx : XX K x r rel) (hP : XX K x' (bindR r fun _ ts d => g ts d) rel2) (hr : ∀ y z, rel y → rel2 z → rel3 (y, z)) : XX K x' (pairR r g) rel3 := by
 match r, hx, hP with
 | .error e, hx, hP => exact ⟨hP.1, fun y ts d h => by cases h⟩
 | .ok (y, ts, d), hx, hP =>
   simp only [pairR, bindR_ok] at hP ⊢
   generalize g ts d = r2 at *
   match r2, hP with
   | .error e, hP => exact ⟨hP.1, fun y ts d h => by cases h⟩
   | .ok (z, ts2, d2), hP => exact ⟨hP.1, fun y' ts d h => by cases h; exact hr _ _ (hx.2 _ _ _ rfl) (hP.2 _ _ _ rfl)⟩
theorem XX.map {k : α → β} {rel : α → Prop} {rel' : β → Prop} (hx : XX K x r rel) (hr : ∀ y, rel y → rel' (k y)) : XX K x (mapR k r) rel' := by
 match r, hx with
 | .error e, hx => exact ⟨hx.1, fun y ts d h => by cases h⟩
 | .ok (y, ts, d), hx => exact ⟨hx.1, fun z ts d h => by cases h; exact hr _ (hx.2 _ _ _ rfl)⟩
theorem XX.unit (hx : XS K x r) : XX K x r fun _ => True := ⟨hx, fun _ _ _ _ => trivial⟩
theorem XX.er {e : Nat × Nat} {rel : α → Prop} (hx : XS K x (.error e : R β)) : XX K x (.error e : R α) rel := ⟨hx, fun y ts d h => by cases h⟩
end
end Go.Proofs.D
namespace Go.Proofs.D
open Go Go.Den Go.Sx
set_option maxRecDepth 100000
attribute [local irreducible] IntKind.wrap Tri
theorem Ext.only {D : Nat → Prop} {h h' : PHeap} (x : Ext h h') : Ext (only D h) (Go.Proofs.D.only D h') := only_ext fun k o hn hk => ⟨hn, x k o hk⟩
def plR (n : Nat) : List Value := [vI n]
structure DC where
 kind : Int
 op : List UInt8
 name : List UInt8
 value : Int
 text : List UInt8
 aa : Option Addr
 an : Nat
 ac : Nat
 pos : Int
def DC.l (c : DC) : List Value := [vI c.kind, vS c.op, vS c.name, vI c.value, vS c.text, vL c.aa c.an c.ac, vI c.pos]
theorem DC.one (c : DC) : allOne c.l = true := rfl
def REx (K : QK) (h : PHeap) (r : R E) (v : Value) (h' : PHeap) : Prop :=
 ∃ (x' : XC) (c : DC), v = vT [vA x'.l, vA c.l] ∧ Ext h h' ∧ XX K x' r fun e => RE plR 7 (only (New h) h') e c.l
def RLs (K : QK) (h : PHeap) (r : R (List E)) (v : Value) (h' : PHeap) : Prop :=
 ∃ (x' : XC) (a : Option Addr) (n c : Nat), v = vT [vA x'.l, vL a n c] ∧ Ext h h' ∧ XX K x' r fun l => n = l.length ∧ At 7 (RE plR 7) (only (New h) h') a l
section
variable {K : QK} {x : XC} {h : PHeap} {ts : List Tok} {d : Int}
theorem REx.after {h1 h2 : PHeap} {r : R E} {v : Value} (hx : Ext h h1) (hE : REx K h1 r v h2) : REx K h r v h2 := by
 obtain ⟨x', c, rfl, hx2, hX⟩ := hE
 exact ⟨x', c, rfl, hx.trans hx2, hX.mono fun e he => he.ext (only_new hx.dom)⟩
theorem args_er {e : Nat × Nat} (hx : XS K x (.error e : R Unit)) (hI : K.In h) : Tri Tryz.prog 144 [vA x.l] h (RLs K h (.error e)) := by
 refine T144 ?_
 unfold R144
 refine Tri.mono (takew_r hx hI [40]) ?_
 rintro _ h ⟨rfl, x1, rfl, hx1⟩
 have hx1 : XS K x1 (.error e : R Unit) := hx1
 refine ⟨_, _, _, _, _, _, _, rfl, ?_⟩
 refine Tri.mono (isw_r hx1 hI [41]) ?_
 rintro _ h ⟨rfl, rfl⟩
 refine ⟨_, rfl, br_pos rfl (br_neg hx1.err0 ?_)⟩
 refine Tri.mono (takew_r hx1 hI [41]) ?_
 rintro _ h ⟨rfl, x2, rfl, hx2⟩
 exact ⟨_, _, _, _, _, _, _, rfl, x2, none, 0, 0, rfl, Ext.refl _, XX.er hx2⟩
end
end Go.Proofs.D
namespace Go.Proofs.D
open Go Go.Den Go.Sx
set_option maxRecDepth 100000
attribute [local irreducible] IntKind.wrap Tri
section
variable {K : QK} {x : XC} {h : PHeap} {ts : List Tok} {d : Int}
end
end Go.Proofs.D
namespace Go.Proofs.D
open Go Go.Den Go.Sx
set_option maxRecDepth 100000
attribute [local irreducible] IntKind.wrap Tri
structure SD where
 kind : Int
 name : List UInt8
 aa : Option Addr
 an : Nat
 ac : Nat
 ba : Option Addr
 bn : Nat
 bc : Nat
 ea : Option Addr
 en : Nat
 ec : Nat
 pos : Int
def SD.l (c : SD) : List Value := [vI c.kind, vS c.name, vL c.aa c.an c.ac, vL c.ba c.bn c.bc, vL c.ea c.en c.ec, vI c.pos]
theorem SD.one (c : SD) : allOne c.l = true := rfl
def RSt (K : QK) (h : PHeap) (r : R S) (v : Value) (h' : PHeap) : Prop :=
 ∃ (x' : XC) (c : SD), v = vT [vA x'.l, vA c.l] ∧ Ext h h' ∧ XX K x' r fun s => RS plR 7 6 (only (New h) h') s c.l
section
variable {K : QK} {x : XC} {h : PHeap} {ts : List Tok} {d : Int}
theorem LM.one {e k : Nat} {h0 h1 h2 h3 : PHeap} {b : Nat} {l : List Value} (hl : l.length = k) (hx : Ext h0 h1) (hb : h1 b = none) (hh : h2 = h1.put b (.cells ⟨l⟩ e)) (hx3 : Ext h2 h3) : LM e k h0 h3 (ad b 0) 1 1 [l] := by
 have hat := hx3 _ _ (Put.at hh)
 refine ⟨fun q hq => ?_, rfl, fun j cs hj => ?_, ⟨by simp [hl], .inr ⟨b, 1, [], rfl, by simpa using hat, by simp, by omega⟩⟩, fun e => absurd e (by decide)⟩
 · injection hq with hq; injection hq with hq; subst hq
   exact ⟨hx.dom _ hb, ne_of hat⟩
 · match j, hj with
   | 0, hj => simp at hj; subst hj; exact hl
   | j + 1, hj => simp at hj
end
end Go.Proofs.D
namespace Go.Proofs.D
open Go Go.Den Go.Sx
set_option maxRecDepth 100000
attribute [local irreducible] IntKind.wrap Tri
section
variable {K : QK} {F : Nat} {fin : R Pg} {h h1 h2 h3 : PHeap} {m : Nat} {x x2 : XC} {ga : Option Addr} {gn gc : Nat} {fa : Option Addr} {fn fc : Nat} {cG cF : List (List Value)} {p : Pg} {ts : List Tok} {d : Int}
end
end Go.Proofs.D
namespace Go.Proofs.D
open Go Go.Den
set_option maxRecDepth 100000
set_option maxHeartbeats 4000000
end Go.Proofs.D
namespace Go.Proofs.D
open Go Go.Den Go.Sx
set_option maxRecDepth 100000
attribute [local irreducible] IntKind.wrap Tri parseS
section
variable {s : Bytes} {pb po : Nat} {h : PHeap}
end
end Go.Proofs.D
namespace Go.Proofs.D
open Go Go.Den
set_option maxRecDepth 100000
set_option maxHeartbeats 4000000
abbrev dak1 : List CK := [.str, qi, qi, qi]
abbrev dak2 : List CK := [.slice, .slice, .slice, qi, .bool, qi, qi]
abbrev dak3 : List CK := [.str, .slice, .slice, qi]
abbrev dak4 : List CK := [qi, .str, .slice, .slice, .slice, qi]
noncomputable def d4 : DCode := up ⟨[(16, .l [.str]), (17, .c (.one false [.str])), (19, .l [.str]), (20, .c (.tup [(true, [.slice, .slice]), (false, [qi]), (false, [qi])])), (24, .c (.one false [.bool])), (30, .c (.one false [.bool])), (32, .l [.str]), (33, .c (.tup [(true, [.slice, .slice]), (false, [qi]), (false, [qi]), (false, [qi])])), (39, .l [.slice, .slice]), (40, .c (.tup [(false, [qi]), (false, [qi]), (false, [qi])])), (45, .l [.slice, .slice]), (46, .c (.tup [(false, [qi]), (false, [qi]), (false, [.bool])])), (75, .c (.one false [.bool]))], [1], []⟩ (low Tryz.prog (fun d => Nat.beq d 1) (Tryz.f4.body.getD .skip))
theorem low4 : low Tryz.prog (fun d => Nat.beq d 1) (Tryz.f4.body.getD .skip) = some (eC d4) := by kernel_rfl
def R4 (l1 : Bs) (h : PHeap) (Q : Value → PHeap → Prop) : Prop :=
 ∀ (b1 : Nat), h b1 = none → ∀ (h_1 : PHeap), h_1 = h.put b1 (.cells ⟨[vS l1]⟩ 9) →
 ∃ (l2 : Bs), h_1.cell b1 0 = some (vS l2) ∧
 Tri Tryz.prog 13 [vS l2] h_1 fun v_1 h_2 =>
 ∃ (l3 : Bs), v_1 = vS l3 ∧
 ∃ (l4 : List Value) (t1 : TypeId) (z1 : Nat × Nat), h_2 b1 = some (.cells ⟨l4⟩ t1 z1) ∧ (0 + 1 ≤ l4.length ∧ z1.2 ≤ 0) ∧
 ∀ (h_3 : PHeap), h_3 = h_2.put b1 (.cells ⟨splice l4 0 [vS l3]⟩ t1 z1) →
 ∃ (l5 : Bs), h_3.cell b1 0 = some (vS l5) ∧
 Tri Tryz.prog 15 [vS l5] h_3 fun v_2 h_4 =>
 ∃ (a1 : OA) (n1 dak1 : Nat) (a2 : OA) (n2 dak2 : Nat) (i1 i2 : Int), v_2 = vT [vA [vL a1 n1 dak1, vL a2 n2 dak2], vI i1, vI i2] ∧
 Tri Tryz.prog 16 [] h_4 fun v_3 h_5 =>
 ∃ (c1 : Bool), v_3 = vB c1 ∧
 br (!c1)
 (Tri Tryz.prog 16 [] h_5 fun v_4 h_6 =>
 ∃ (c2 : Bool), v_4 = vB c2 ∧
 Q (vB c2) h_6)
 (br (i2 != 0)
 (Tri Tryz.prog 16 [] h_5 fun v_5 h_7 =>
 ∃ (c3 : Bool), v_5 = vB c3 ∧
 Q (vB c3) h_7)
 (∃ (l6 : Bs), h_5.cell b1 0 = some (vS l6) ∧
 Tri Tryz.prog 14 [vS l6] h_5 fun v_6 h_8 =>
 ∃ (a3 : OA) (n3 dak3 : Nat) (a4 : OA) (n4 dak4 : Nat) (i3 i4 i5 : Int), v_6 = vT [vA [vL a3 n3 dak3, vL a4 n4 dak4], vI i3, vI i4, vI i5] ∧
 Tri Tryz.prog 19 [vA [vL a3 n3 dak3, vL a4 n4 dak4]] h_8 fun v_7 h_9 =>
 ∃ (i6 i7 i8 : Int), v_7 = vT [vI i6, vI i7, vI i8] ∧
 Tri Tryz.prog 20 [vA [vL a1 n1 dak1, vL a2 n2 dak2]] h_9 fun v_8 h_10 =>
 ∃ (i9 i10 : Int) (c4 : Bool), v_8 = vT [vI i9, vI i10, vB c4] ∧
 br (i5 != 0)
 (Q (vB false) h_10)
 (br (i8 != i10)
 (Q (vB false) h_10)
 (br c4
 (br (i6 == 1)
 (Q (vB (i7 == 1)) h_10)
 (Q (vB false) h_10))
 (br (i10 == 0)
 (br (i6 == 0)
 (Q (vB (i7 == 0)) h_10)
 (Q (vB false) h_10))
 (Tri Tryz.prog 17 [vP b1 0, vI i6, vI i7, vI i9] h_10 fun v_9 h_11 =>
 ∃ (c5 : Bool), v_9 = vB c5 ∧
 Q (vB c5) h_11))))))
theorem T4 {l1 : Bs} {h : PHeap} {Q : Value → PHeap → Prop} (hR : R4 l1 h Q) : Tri Tryz.prog 4 [vS l1] h Q :=
 tri_of_dn mixed Tryz.func4 rfl (by kernel_rfl) low4 (rs := [.tmp 2]) (by kernel_rfl) rfl (Eq.mpr (by kernel_rfl : dnF Tryz.prog Tryz.f4.ntmps d4 [.tmp 2] [vS l1] h Q = R4 l1 h Q) hR)
end Go.Proofs.D
namespace Go.Proofs.D
open Go Go.Den Go.Sx
set_option maxRecDepth 100000
attribute [local irreducible] IntKind.wrap Tri parseS
def erR : Er → Int × Int
 | none => (0, 0)
 | some (c, none) => (c, 0)
 | some (c, some n) => (c, n)
structure RC where
 ga : OA
 gn : Nat
 gc : Nat
 fa : OA
 fn : Nat
 fc : Nat
 va : OA
 vn : Nat
 vc : Nat
 cnt : Nat
 lp : Bool
 err : Er
def RC.l (x : RC) : List Value := [vL x.ga x.gn x.gc, vL x.fa x.fn x.fc, vL x.va x.vn x.vc, vI x.cnt, vB x.lp, vI (erR x.err).1, vI (erR x.err).2]
def eok (e : Er) : Prop := ∀ x, e = some x → x.1 ≠ 0
structure RK (p : Pg) (h : PHeap) (x : RC) (vis : List Bytes) : Prop where
 gn : x.gn = p.globals.length
 fn : x.fn = p.funcs.length
 vn : x.vn = vis.length
 gl : At 4 (RG plR) h x.ga p.globals
 fu : At 4 (RF plR 7 6) h x.fa p.funcs
 vi : StrAt h x.va vis
 ok : okN x.va vis.length x.vc
 er : eok x.err
section
variable {p : Pg} {h h' : PHeap} {x : RC} {vis : List Bytes}
theorem RK.ext (hk : RK p h x vis) (hx : Ext h h') : RK p h' x vis := ⟨hk.gn, hk.fn, hk.vn, hk.gl.ext (RG_mono _) hx, hk.fu.ext (RF_mono _ _ _) hx, hk.vi.ext hx, hk.ok, hk.er⟩
theorem RK.to {e : Er} (hk : RK p h x vis) (he : eok e) : RK p h { x with err := e } vis := ⟨hk.gn, hk.fn, hk.vn, hk.gl, hk.fu, hk.vi, hk.ok, he⟩
end
end Go.Proofs.D
namespace Go.Sx
end Go.Sx
namespace Go.Proofs.D
open Go Go.Den Go.Sx
set_option maxRecDepth 100000
attribute [local irreducible] IntKind.wrap Tri parseS
def RC.is (x : RC) (a1 : OA) (n1 k1 : Nat) (a2 : OA) (n2 k2 : Nat) (a3 : OA) (n3 k3 : Nat) (i1 : Int) (c1 : Bool) (i2 i3 : Int) : Prop :=
 a1 = x.ga ∧ n1 = x.gn ∧ k1 = x.gc ∧ a2 = x.fa ∧ n2 = x.fn ∧ k2 = x.fc ∧ a3 = x.va ∧ n3 = x.vn ∧ k3 = x.vc ∧ i1 = x.cnt ∧ c1 = x.lp ∧ i2 = (erR x.err).1 ∧ i3 = (erR x.err).2
section
variable {p : Pg} {g : PHeap}
end
end Go.Proofs.D
namespace Go.Sx
theorem Lx.len {x : Bytes} {a : List Tok} (h : Lx x a) : a.length ≤ x.length := by
 induction h with
 | nil => exact Nat.le_refl _
 | blank _ _ ih => rw [List.length_cons]; omega
 | @tok w x a kd v b h1 _ _ ih =>
   have := (oneS_take h1).1
   rw [List.length_append, List.length_cons]; omega
theorem quote_pos (b : Bytes) : 2 ≤ (quoteS b).length := by simp [quoteS]
theorem digs_pos (v : Nat) : 1 ≤ (digs v).length := (digs_spec v).2.2.1
theorem name_pos {n : Bytes} (h : nameOk n) : 1 ≤ n.length := by obtain ⟨c, l, rfl, _⟩ := h.2.1; simp
theorem prL_ge (lv : Nat) (e : E) : (prE e).length ≤ (prL lv e).length := by
 unfold prL encB; split
 · simp; omega
 · exact Nat.le_refl _
theorem comma_ge : ∀ (l : List E), (∀ e ∈ l, cntE e ≤ (prE e).length) → cntEs l ≤ (moreB (prEs l)).length
 | [], _ => by simp [cntEs, prEs, moreB]
 | e :: l, h => by
   have := h e (List.mem_cons_self ..)
   have := comma_ge l (fun x hx => h x (List.mem_cons_of_mem _ hx))
   simp only [cntEs, prEs, moreB, List.length_cons, List.length_append]; omega
theorem cnt_pr {e : E} (h : OkE e) : cntE e ≤ (prE e).length := by
 induction h with
 | num _ => rw [pr_num]; have := digs_pos; simp [cntE, cntEs]; exact this _
 | @str b _ _ => rw [pr_str]; have := quote_pos b; simp only [cntE, cntEs]; omega
 | var hn => rw [pr_var]; have := name_pos hn; simp only [cntE, cntEs]; omega
 | elem hn _ ih => rw [pr_elem]; simp only [cntE, cntEs, List.length_append, List.length_cons]; omega
 | @call n es p hn _ ih =>
   rw [pr_call]
   have : cntEs es ≤ (commaB (prEs es)).length := by
    cases es with
    | nil => simp [cntEs]
    | cons e l =>
      have := ih e (List.mem_cons_self ..)
      have := comma_ge l (fun x hx => ih x (List.mem_cons_of_mem _ hx))
      simp only [cntEs, prEs, commaB, List.length_append]; omega
   simp only [cntE, List.length_append, List.length_cons]; omega
 | @un op e p _ _ ih =>
   rw [pr_un]
   have := prL_ge 11 e
   rename_i ho _
   have ho : op.length = 1 := by rcases ho with rfl | rfl | rfl <;> rfl
   simp only [cntE, cntEs, List.length_append]; omega
 | @bin op a b p _ _ _ iha ihb =>
   rw [pr_bin]
   have := prL_ge (levelS op) a
   have := prL_ge (levelS op + 1) b
   simp only [cntE, cntEs, List.length_append, List.length_cons]; omega
def opsS : List Bytes := [[45], [33], [126], [124, 124], [38, 38], [124], [94], [38], [61, 61], [33, 61], [60], [60, 61], [62], [62, 61], [60, 60], [62, 62], [43], [45], [42], [47], [37]]
def topS (st : List E) : E := st.getD (st.length - 1) dE
def stepB (st : List E) (k : Nat) : List E :=
 if k < 40 then st ++ [.mk 1 [] [] (k * k) [] [] 0]
 else if k < 70 then st ++ [.mk 3 [] [97, UInt8.ofNat (120 + k % 3)] 0 [] [] 0]
 else if k < 80 then st ++ [.mk 2 [] [] 0 [115, 10, 34, UInt8.ofNat k] [] 0]
 else if k < 95 then st.dropLast ++ [.mk 4 [] [101] 0 [] [topS st] 0]
 else if k < 110 then st.take (st.length - k % 4) ++ [.mk 5 [] [102] 0 [] (st.drop (st.length - k % 4)) 0]
 else if k < 140 then st.dropLast ++ [.mk 6 (opsS.getD (k % 3) []) [] 0 [] [topS st] 0]
 else if 1 < st.length then st.take (st.length - 2) ++ [.mk 7 (opsS.getD (3 + k % 18) []) [] 0 [] [st.getD (st.length - 2) dE, topS st] 0]
 else st
def st0 : List E := [.mk 3 [] [118] 0 [] [] 0]
def stacks (l : List Nat) : List E := l.foldl stepB st0
def buildS (l : List Nat) : E := topS (stacks (l.take 60))
def wS : List E → Nat
 | [] => 0
 | e :: l => (prE e).length + 4 + wS l
theorem wS_app : ∀ (l m : List E), wS (l ++ m) = wS l + wS m
 | [], m => by simp [wS]
 | e :: l, m => by simp [wS, wS_app l m]; omega
structure OkB (st : List E) : Prop where
 ok : ∀ e ∈ st, OkE e
 ne : 1 ≤ st.length
theorem getD_mem {st : List E} {i : Nat} (h : i < st.length) : st.getD i dE ∈ st := by
 simp [List.getD, List.getElem?_eq_getElem h]
theorem top_mem {st : List E} (h : 1 ≤ st.length) : topS st ∈ st := getD_mem (by omega)
theorem split_last {st : List E} (h : 1 ≤ st.length) : st = st.dropLast ++ [topS st] := by
 have hne : st ≠ [] := fun e => by subst e; simp at h
 have := List.dropLast_concat_getLast hne
 rw [List.getLast_eq_getElem] at this
 conv => lhs; rw [← this]
 simp [topS, List.getD, List.getElem?_eq_getElem (show st.length - 1 < st.length by omega)]
theorem split_two {st : List E} (h : 1 < st.length) : st = st.take (st.length - 2) ++ [st.getD (st.length - 2) dE, topS st] := by
 conv => lhs; rw [← List.take_append_drop (st.length - 2) st]
 congr 1
 rw [List.drop_eq_getElem_cons (show st.length - 2 < st.length by omega), List.drop_eq_getElem_cons (show st.length - 2 + 1 < st.length by omega), List.drop_eq_nil_of_le (by omega)]
 have e : st.length - 2 + 1 = st.length - 1 := by omega
 simp only [e, topS, List.getD, List.getElem?_eq_getElem (show st.length - 2 < st.length by omega), List.getElem?_eq_getElem (show st.length - 1 < st.length by omega), Option.getD_some]
theorem moreB_w : ∀ (l : List E), (moreB (prEs l)).length ≤ wS l
 | [] => by simp [prEs, moreB]
 | e :: l => by
   have := moreB_w l
   simp only [prEs, moreB, wS, List.length_cons, List.length_append]; omega
theorem commaB_w (l : List E) : (commaB (prEs l)).length ≤ wS l := by
 cases l with
 | nil => simp [prEs, commaB]
 | cons e l =>
   have := moreB_w l
   simp only [prEs, commaB, wS, List.length_append]; omega
theorem prL_le (lv : Nat) (e : E) : (prL lv e).length ≤ (prE e).length + 2 := by
 unfold prL encB; split
 · simp
 · omega
theorem names_ok : nameOk [118] ∧ nameOk [101] ∧ nameOk [102] ∧ (∀ r : Fin 3, nameOk [97, UInt8.ofNat (120 + r.val)]) := by
 have h1 : ∀ n : Bytes, n.length ≤ 32 → (match n with | c :: _ => isLetter c | [] => false) = true → n.all isAl = true → words.contains n = false → nameOk n := by
  intro n a b c d
  refine ⟨a, ?_, c, d⟩
  cases n with
  | nil => cases b
  | cons x l => exact ⟨x, l, rfl, b⟩
 exact ⟨h1 _ (by decide) (by decide) (by decide) (by decide), h1 _ (by decide) (by decide) (by decide) (by decide), h1 _ (by decide) (by decide) (by decide) (by decide), fun r =>
  h1 _ ((by decide : ∀ r : Fin 3, [97, UInt8.ofNat (120 + r.val)].length ≤ 32) r) ((by decide : ∀ r : Fin 3, (match ([97, UInt8.ofNat (120 + r.val)] : Bytes) with | c :: _ => isLetter c | [] => false) = true) r)
   ((by decide : ∀ r : Fin 3, ([97, UInt8.ofNat (120 + r.val)] : Bytes).all isAl = true) r) ((by decide : ∀ r : Fin 3, words.contains [97, UInt8.ofNat (120 + r.val)] = false) r)⟩
theorem un_ops : ∀ r : Fin 3, opsS.getD r.val [] = [45] ∨ opsS.getD r.val [] = [33] ∨ opsS.getD r.val [] = [126] := by decide
theorem bin_ops : ∀ r : Fin 18, 1 ≤ levelS (opsS.getD (3 + r.val) []) ∧ (opsS.getD (3 + r.val) []).length ≤ 2 := by decide
theorem digs4 {n : Nat} (h : n < 10000) : (digs n).length ≤ 4 := by
 have key : ∀ (m n : Nat), n < 10 ^ (m + 1) → (digs n).length ≤ m + 1 := by
  intro m
  induction m with
  | zero => intro n h; rw [digs, if_pos (by omega)]; simp
  | succ m ih =>
    intro n h
    rw [digs]
    split
    · simp
    · have := ih (n / 10) (by rw [Nat.pow_succ] at h; omega)
      rw [List.length_append, List.length_cons, List.length_nil]
      omega
 exact key 3 n (by omega)
theorem str_len {k : Nat} (h1 : 70 ≤ k) (h2 : k < 80) : (quoteS [115, 10, 34, UInt8.ofNat k]).length = 8 := by
 have : ∀ r : Fin 10, (quoteS [115, 10, 34, UInt8.ofNat (70 + r.val)]).length = 8 := by decide
 have := this ⟨k - 70, by omega⟩
 rwa [show 70 + (k - 70) = k by omega] at this
theorem step_ok {st : List E} (h : OkB st) {k : Nat} (hk : k < 256) : OkB (stepB st k) ∧ wS (stepB st k) ≤ wS st + 12 := by
 obtain ⟨hok, hne⟩ := h
 have htop := hok _ (top_mem hne)
 have hdl : ∀ e ∈ st.dropLast, OkE e := fun e he => hok e (List.dropLast_subset _ he)
 have hw := congrArg wS (split_last hne)
 rw [wS_app] at hw
 simp only [wS] at hw
 have one : ∀ (l : List E) (e : E), (∀ x ∈ l, OkE x) → OkE e → OkB (l ++ [e]) := fun l e hl he => ⟨fun x hx => by
  rw [List.mem_append] at hx
  rcases hx with hx | hx
  · exact hl x hx
  · simp at hx; subst hx; exact he, by simp⟩
 unfold stepB
 split
 · rename_i h1
   have hsq : k * k ≤ 39 * 39 := Nat.mul_le_mul (by omega) (by omega)
   refine ⟨one _ _ hok (.num (by omega)), ?_⟩
   have := digs4 (n := k * k) (by omega)
   rw [wS_app]; simp only [wS, pr_num]; omega
 split
 · refine ⟨one _ _ hok (.var (names_ok.2.2.2 ⟨k % 3, Nat.mod_lt _ (by decide)⟩)), ?_⟩
   rw [wS_app]; simp only [wS, pr_var, List.length_cons, List.length_nil]; omega
 split
 · rename_i h1 h2
   refine ⟨one _ _ hok (.str (by simp)), ?_⟩
   have := str_len (k := k) (by omega) h2
   rw [wS_app]; simp only [wS, pr_str]; omega
 split
 · refine ⟨one _ _ hdl (.elem names_ok.2.1 htop), ?_⟩
   rw [wS_app]; simp only [wS, pr_elem, List.length_append, List.length_cons, List.length_nil]; omega
 split
 · have hd := congrArg wS (List.take_append_drop (st.length - k % 4) st)
   rw [wS_app] at hd
   refine ⟨one _ _ (fun e he => hok e (List.mem_of_mem_take he)) (.call names_ok.2.2.1 fun e he => hok e (List.mem_of_mem_drop he)), ?_⟩
   have := commaB_w (st.drop (st.length - k % 4))
   rw [wS_app]; simp only [wS, pr_call, List.length_append, List.length_cons, List.length_nil]; omega
 split
 · have hu := un_ops ⟨k % 3, Nat.mod_lt _ (by decide)⟩
   simp only at hu
   refine ⟨one _ _ hdl (.un hu htop), ?_⟩
   have hl : (opsS.getD (k % 3) []).length = 1 := by rcases hu with h | h | h <;> rw [h] <;> rfl
   have := prL_le 11 (topS st)
   rw [wS_app]; simp only [wS, pr_un, List.length_append]; omega
 split
 · rename_i h2
   have hb := bin_ops ⟨k % 18, Nat.mod_lt _ (by decide)⟩
   simp only at hb
   have hw2 := congrArg wS (split_two h2)
   rw [wS_app] at hw2
   simp only [wS] at hw2
   refine ⟨one _ _ (fun e he => hok e (List.mem_of_mem_take he)) (.bin hb.1 (hok _ (getD_mem (by omega))) htop), ?_⟩
   have := prL_le (levelS (opsS.getD (3 + k % 18) [])) (st.getD (st.length - 2) dE)
   have := prL_le (levelS (opsS.getD (3 + k % 18) []) + 1) (topS st)
   rw [wS_app]; simp only [wS, pr_bin, List.length_append, List.length_cons]; omega
 · exact ⟨⟨hok, hne⟩, by omega⟩
theorem steps_ok : ∀ (l : List Nat) (st : List E), (∀ k ∈ l, k < 256) → OkB st → OkB (l.foldl stepB st) ∧ wS (l.foldl stepB st) ≤ wS st + 12 * l.length
 | [], st, _, h => ⟨h, by simp⟩
 | k :: l, st, hk, h => by
   obtain ⟨h1, h2⟩ := step_ok h (hk k (List.mem_cons_self ..))
   obtain ⟨h3, h4⟩ := steps_ok l _ (fun x hx => hk x (List.mem_cons_of_mem _ hx)) h1
   refine ⟨h3, ?_⟩
   rw [List.foldl_cons, List.length_cons]; omega
theorem st0_ok : OkB st0 := ⟨fun e he => by simp [st0] at he; subst he; exact .var names_ok.1, by decide⟩
theorem wS_mem : ∀ {l : List E} {e : E}, e ∈ l → (prE e).length + 4 ≤ wS l
 | x :: l, e, h => by
   rcases List.mem_cons.1 h with h | h
   · subst h; simp only [wS]; omega
   · have := wS_mem h; simp only [wS]; omega
theorem build_ok {l : List Nat} (hl : ∀ k ∈ l, k < 256) : OkE (buildS l) ∧ (prE (buildS l)).length ≤ 730 := by
 obtain ⟨h1, h2⟩ := steps_ok (l.take 60) st0 (fun k hk => hl k (List.mem_of_mem_take hk)) st0_ok
 have h3 := top_mem h1.ne
 refine ⟨h1.ok _ h3, ?_⟩
 have h4 := wS_mem h3
 have h5 : wS st0 = 5 := by simp [st0, wS, pr_var]
 have h6 : (l.take 60).length ≤ 60 := by rw [List.length_take]; omega
 unfold buildS stacks
 omega
def hdT : Bytes := [102, 117, 110, 99, 32, 109, 97, 105, 110, 40, 41, 32, 123, 32, 121, 32, 61, 32]
def tlT : Bytes := [59, 32, 125]
theorem lx_around {e : E} (h : OkE e) : Lx (hdT ++ prE e ++ tlT) (kwd kFunc :: idt kMain :: sym [40] :: sym [41] :: sym [123] :: idt [121] :: sym [61] :: (tkE e ++ [sym [59], sym [125]])) := by
 have h1 : Lx tlT [sym [59], sym [125]] := Lx.semi (Lx.sp (Lx.solo (c := 125) (by simp) Lx.nil))
 have h2 := lx_expr h tlT _ (okF_semi _) h1
 have ny : nameOk [121] := ⟨by decide, ⟨121, [], rfl, rfl⟩, rfl, rfl⟩
 have nm : nameOk kMain := ⟨by decide, ⟨109, _, rfl, rfl⟩, rfl, rfl⟩
 have h3 := Lx.name ny (stop_sp _) (Lx.sp (Lx.eq h2))
 have h4 := Lx.solo (c := 41) (by simp) (Lx.sp (Lx.solo (c := 123) (by simp) (Lx.sp h3)))
 have h5 := Lx.name nm (stop_c rfl) (Lx.solo (c := 40) (by simp) h4)
 have h6 := Lx.kw (t := kFunc) rfl (by decide) ⟨_, _, rfl, rfl⟩ rfl (stop_sp _) (Lx.sp h5)
 simpa [hdT, kFunc, kMain] using h6
theorem asg_big {e : E} (h : OkE e) {n : Bytes} {r : List Tok} {d : Int} (hd : d ≤ 32) :
 (d + nE e ≤ 32 → Big (fun f => pStmt f (idt n :: sym [61] :: (tkE e ++ sym [59] :: r)) d) (.ok (.mk 2 n [zE e] [] [] 0, r, d))) ∧
 (32 < d + nE e → Big (fun f => pStmt f (idt n :: sym [61] :: (tkE e ++ sym [59] :: r)) d) (.error (9, 0))) := by
 have eq : ∀ f, pNamed (f + 1) (idt n :: sym [61] :: (tkE e ++ sym [59] :: r)) d = bindR (pBin f 1 (tkE e ++ sym [59] :: r) d) fun e ts d => bindR (takeT [59] ts d) fun _ ts d => .ok (S.mk 2 n [e] [] [] 0, ts, d) := fun f => by
  rw [pNamed, tail_c, isT_sym, if_pos (by rfl), takeT_eq, bindR]
  rfl
 refine ⟨fun hn => stmt_named (Big.step ?_), fun hn => stmt_named (Big.step ?_)⟩
 · exact (exsemi h hn (g := fun e => S.mk 2 n [e] [] [] 0) (r := r) rfl).congr eq
 · exact (Big.err (G := fun _ e ts d => bindR (takeT [59] ts d) fun _ ts d => .ok (S.mk 2 n [e] [] [] 0, ts, d)) (whole_er h (rb h) (r := sym [59] :: r) hd hn)).congr eq
theorem body_big {e : E} (h : OkE e) {n : Bytes} {r : List Tok} :
 (1 + (nE e : Int) ≤ 32 → Big (fun f => pBlock f (sym [123] :: (idt n :: sym [61] :: (tkE e ++ [sym [59], sym [125]]) ++ r)) 0) (.ok ([.mk 2 n [zE e] [] [] 0], r, 0))) ∧
 (32 < 1 + (nE e : Int) → Big (fun f => pBlock f (sym [123] :: (idt n :: sym [61] :: (tkE e ++ [sym [59], sym [125]]) ++ r)) 0) (.error (9, 0))) := by
 have e0 : idt n :: sym [61] :: (tkE e ++ [sym [59], sym [125]]) ++ r = idt n :: sym [61] :: (tkE e ++ sym [59] :: sym [125] :: r) := by simp
 rw [e0]
 obtain ⟨a1, a2⟩ := asg_big h (n := n) (r := sym [125] :: r) (d := 1) (by decide)
 have eq : ∀ f, pBlock (f + 1) (sym [123] :: idt n :: sym [61] :: (tkE e ++ sym [59] :: sym [125] :: r)) 0 = pStmts f [] (idt n :: sym [61] :: (tkE e ++ sym [59] :: sym [125] :: r)) 1 := fun f => by
  rw [pBlock, takeT_open rfl (by decide), bindR]; rfl
 have eq2 : ∀ f, pStmts (f + 1) [] (idt n :: sym [61] :: (tkE e ++ sym [59] :: sym [125] :: r)) 1 = bindR (pStmt f (idt n :: sym [61] :: (tkE e ++ sym [59] :: sym [125] :: r)) 1) fun s ts d => pStmts f ([] ++ [s]) ts d := fun f => by
  rw [pStmts, isT_idt, if_neg (by simp)]
 refine ⟨fun hn => Big.step (Big.congr (x := fun f => pStmts f [] (idt n :: sym [61] :: (tkE e ++ sym [59] :: sym [125] :: r)) 1) (Big.step ?_) eq), fun hn => Big.step (Big.congr (x := fun f => pStmts f [] (idt n :: sym [61] :: (tkE e ++ sym [59] :: sym [125] :: r)) 1) (Big.step ?_) eq)⟩
 · refine (Big.bind (G := fun f s ts d => pStmts f ([] ++ [s]) ts d) (a1 hn) (Big.step ?_)).congr eq2
   refine Big.const.congr fun f => ?_
   rw [pStmts, isT_sym, if_pos (by rfl), takeT_close rfl, bindR]; rfl
 · exact (Big.err (G := fun f s ts d => pStmts f ([] ++ [s]) ts d) (a2 hn)).congr eq2
theorem expr_back {e : E} (h : OkE e) (hl : (prE e).length ≤ 730) :
 (∃ p f nm pos e', parseS (hdT ++ prE e ++ tlT) = .ok p ∧ p.globals = [] ∧ p.funcs = [f] ∧ f.body = [.mk 2 nm [e'] [] [] pos] ∧ zE e' = zE e) ∨ ∃ x, parseS (hdT ++ prE e ++ tlT) = .error (9, x) := by
 have hlx := lx_around h
 have hlen : (hdT ++ prE e ++ tlT).length ≤ 760 := by simp [hdT, tlT]; omega
 have htok := hlx.len
 obtain ⟨us, h1, h2⟩ := hlx.scan ((hdT ++ prE e ++ tlT).length + 1) 0 0 (Nat.lt_succ_self _) (by omega)
 have hs : scanS (hdT ++ prE e ++ tlT) = .ok us := by rw [scanS, if_neg (by omega)]; exact h1
 obtain ⟨b1, b2⟩ := body_big h (n := [121]) (r := [endT])
 have hf := fun (res : R (List S)) (hb : Big (fun f => pBlock f (sym [123] :: (idt [121] :: sym [61] :: (tkE e ++ [sym [59], sym [125]]) ++ [endT])) 0) res) =>
  func_big (nm := kMain) (ps := []) (X := idt [121] :: sym [61] :: (tkE e ++ [sym [59], sym [125]]) ++ [endT]) (r := []) (d := 0) (by decide) hb
 have eq : ∀ f, pProg (f + 1) ⟨[], []⟩ (kwd kFunc :: idt kMain :: sym [40] :: sym [41] :: sym [123] :: idt [121] :: sym [61] :: (tkE e ++ [sym [59], sym [125]]) ++ [⟨0, [], 0, [], 0⟩]) 0 = bindR (pFunc f (kwd kFunc :: idt kMain :: sym [40] :: (tkPs [] ++ sym [41] :: sym [123] :: (idt [121] :: sym [61] :: (tkE e ++ [sym [59], sym [125]]) ++ [endT]))) 0) fun g ts d => pProg f ⟨[], [] ++ [g]⟩ ts d := fun f => by
  rw [List.cons_append, pProg, isK_c, if_neg (by decide), isT_kwd, if_neg (by decide)]
  rfl
 by_cases hn : 1 + (nE e : Int) ≤ 32
 · left
   have hp : Big (fun f => pProg f ⟨[], []⟩ (kwd kFunc :: idt kMain :: sym [40] :: sym [41] :: sym [123] :: idt [121] :: sym [61] :: (tkE e ++ [sym [59], sym [125]]) ++ [⟨0, [], 0, [], 0⟩]) 0) (.ok (⟨[], [⟨kMain, [], [.mk 2 [121] [zE e] [] [] 0], 0⟩]⟩, [endT], 0)) := by
    refine Big.step ?_
    refine (Big.bind (G := fun f g ts d => pProg f ⟨[], [] ++ [g]⟩ ts d) (hf _ (b1 hn)) (Big.step ?_)).congr eq
    refine Big.const.congr fun f => ?_
    rw [pProg, isK_c, if_pos (by rfl)]; rfl
   have hz := parse_big hs h2 hp
   cases hps : parseS (hdT ++ prE e ++ tlT) with
   | error x => rw [hps] at hz; cases hz
   | ok p =>
     rw [hps] at hz
     have hz : zP p = zP ⟨[], [⟨kMain, [], [.mk 2 [121] [zE e] [] [] 0], 0⟩]⟩ := by injection hz
     obtain ⟨gs, fs⟩ := p
     simp only [zP, List.map_nil, List.map_cons, Pg.mk.injEq, List.map_eq_nil_iff] at hz
     obtain ⟨hg, hfs⟩ := hz
     match fs, hfs with
     | [], hfs => simp at hfs
     | f :: g :: l, hfs => simp at hfs
     | [f], hfs =>
       simp only [List.map_cons, List.map_nil, List.cons.injEq, and_true] at hfs
       obtain ⟨fn, fp, fb, fpos⟩ := f
       simp only [zF, F.mk.injEq] at hfs
       obtain ⟨_, _, hb, _⟩ := hfs
       match fb, hb with
       | [], hb => simp [zSs] at hb
       | s :: t :: l, hb => simp [zSs] at hb
       | [s], hb =>
         match s, hb with
         | .mk k nm args body els pos, hb =>
           simp only [zSs, zS, List.cons.injEq, S.mk.injEq, and_true] at hb
           obtain ⟨rfl, _, ha, hbd, hel⟩ := hb
           have hbd : body = [] := by cases body with
            | nil => rfl
            | cons x l => simp [zSs] at hbd
           have hel : els = [] := by cases els with
            | nil => rfl
            | cons x l => simp [zSs] at hel
           subst hbd; subst hel
           match args, ha with
           | [], ha => simp [zEs] at ha
           | x :: y :: l, ha => simp [zEs] at ha
           | [e'], ha =>
             simp only [zEs, List.cons.injEq, and_true] at ha
             rw [zE_idem] at ha
             exact ⟨_, _, nm, pos, e', rfl, hg, rfl, rfl, ha⟩
 · right
   have hp : Big (fun f => pProg f ⟨[], []⟩ (kwd kFunc :: idt kMain :: sym [40] :: sym [41] :: sym [123] :: idt [121] :: sym [61] :: (tkE e ++ [sym [59], sym [125]]) ++ [⟨0, [], 0, [], 0⟩]) 0) (.error (9, 0)) := by
    refine Big.step ?_
    exact (Big.err (G := fun f g ts d => pProg f ⟨[], [] ++ [g]⟩ ts d) (hf _ (b2 (by omega)))).congr eq
   have hz := parse_big hs h2 hp
   cases hps : parseS (hdT ++ prE e ++ tlT) with
   | ok p => rw [hps] at hz; cases hz
   | error x =>
     rw [hps] at hz
     have : x.1 = 9 := by injection hz
     exact ⟨x.2, by rw [← this]⟩
end Go.Sx
namespace Go.Fr
open Go Go.Den Go.ChangeShapes Go.RowKit
def Kept (w w' : World) : Prop := w'.os = w.os ∧ w'.output = w.output ∧ w.heap.size ≤ w'.heap.size ∧ ∀ k, k < w.heap.size → w'.heap[k]? = w.heap[k]?
theorem calls_of_tri {P : Program} {f : FuncId} {fn : Func} {args : List Value} {Q : Value → Prop} {h : PHeap} (ht : Tri P f args h fun v h' => Q v ∧ ∀ k o, h k = some o → h' k = some o) (hf : P.funcs[f]? = some fn) (hb : fn.body.isSome = true) (hname : (fn.name == "runtime.NumGoroutine") = false) (w : World) (hs : Sub w h) :
 Calls P f args.toArray w fun e w' => ∃ v, e = .returned v ∧ Q v ∧ Kept w w' := by
 have h1 := ht w hs
 unfold CallR at h1
 have hcall : (callFunc f args.toArray).run P w = .ok (.enter f args.toArray) w := by
  unfold callFunc
  have hname' : ¬ fn.name = "runtime.NumGoroutine" := fun e => by rw [e] at hname; simp at hname
  cases hbb : fn.body with
  | none => rw [hbb] at hb; cases hb
  | some c => simp [program, Sem.run, hf, hname', hbb]
 rw [hcall] at h1
 refine Calls.mono h1 fun e w' he => ?_
 cases e with
 | returned v =>
   obtain ⟨h', ⟨hq, hx⟩, hs', hk⟩ := he
   refine ⟨v, rfl, hq, hk.os, hk.output, hk.size, fun k hk' => ?_⟩
   cases hh : h k with
   | none => exact (hk.out k hk' hh).2
   | some o => rw [hs k o hh, hs' k o (hx k o hh)]
 | _ => exact he.elim
def one (w : World) (b : Nat) : PHeap := fun k => if k = b then w.heap[b]? else none
theorem one_cell {w : World} {b i : Nat} {v : Value} (h : w.cell? ⟨b, i, none⟩ = some v) : (one w b).cell b i = some v := by
 unfold World.cell? at h
 unfold PHeap.cell one
 rw [if_pos rfl]
 cases hb : w.heap[b]? with
 | none => simp [hb] at h
 | some o =>
   cases o with
   | cells c t z => simpa [hb] using h
   | _ => simp [hb] at h
theorem Kept.but {w w' : World} (h : Kept w w') (may : MemPlace → Prop) : w.keptBut w' may := by
 obtain ⟨h1, h2, h3, h4⟩ := h
 obtain ⟨_, _, r⟩ := World.keptBut_refl w may
 refine ⟨h1, h2, fun i hi => ?_⟩
 have := r i hi
 rw [h4 i hi]
 exact this
theorem Kept.frozen {w w' : World} (h : Kept w w') (b off : Nat) (hb : b < w.heap.size) : w'.frozen? ⟨b, off, none⟩ = w.frozen? ⟨b, off, none⟩ := by
 simp only [World.frozen?, h.2.2.2 b hb]
section
variable {H : Type} {enc : TypeId × Value → H} {P : Program}
theorem post_kept {f : Func} {s : ChangeSpec} {apart fresh handsOn again : Bool} {W W' : World} {args : Array Value} {v : Value} {ds gs : List (DataW H)} {before pa pv : List MemPlace}
 (hW : DataW.Whole enc P f.params.toList s.vars apart W args.toList ds gs before)
 (hres : ∀ (b : Nat) (sp : Nat → Bool) (hd : Bool), DataW.TrodAll enc P W' b sp hd f.resultTypes.toList (v.resultList f.resultTypes.size) (s.fn H (ds ++ gs)).results [])
 (hargs : ∀ sp : Nat → Bool, (∀ p ∈ before, sp p.block = true) → DataW.TrodAll enc P W' 0 sp true f.params.toList args.toList (s.fn H (ds ++ gs)).args pa)
 (hvars : ∀ sp : Nat → Bool, (∀ p ∈ before, sp p.block = true) → DataW.TrodVars enc P W' sp s.vars (s.fn H (ds ++ gs)).vars pv)
 (hps : before = pa ++ pv) (hk : Kept W W')
 (hok : ∀ (j : Nat) (t : TypeId) (r : Value), f.resultTypes[j]? = some t → (v.resultList f.resultTypes.size)[j]? = some r → Value.okWide P W' .any 0 t r) :
 s.post enc P f apart fresh handsOn again W args v W' := by
 have hlt : ∀ p ∈ before, p.block < W.heap.size := fun p hp => hW.lt p hp
 have hold : ∀ p ∈ before, (fun b => decide (b < W.heap.size)) p.block = true := fun p hp => by simpa using hlt p hp
 refine ⟨ds, gs, before, [], pa, pv, hW, hres _ _ _, hargs _ hold, hvars _ hold, World.keptBut_mono (fun p hp => ⟨hp, ?_⟩) (hk.but _), fun _ => ?_⟩
 · rw [hps, List.mem_append] at hp
   exact Or.inr hp
 · obtain ⟨_, _, _, _, _, hz, hn⟩ := hW
   refine ⟨hok, _, _, ([] ++ pa) ++ pv, ⟨[] ++ pa, pv, trodAll_append (hargs _ (fun _ _ => rfl)) (hres _ _ _), hvars _ (fun _ _ => rfl), rfl, ?_, ?_⟩, ?_⟩
   · intro b off hp
     have hp' : MemPlace.cell b off ∈ before := by rw [hps]; simpa using hp
     rw [hk.frozen b off (hlt _ hp')]
     exact hz b off hp'
   · intro ha
     have := hn ha
     rw [hps] at this
     simpa using this
   · intro p hp _
     rw [hps]
     simpa using hp
end
end Go.Fr
namespace Go.Fr
open Go Go.Den Go.ChangeShapes Go.WideShapes Go.RowKit Go.ChangeAt
section
variable {H : Type} {enc : TypeId × Value → H} {P : Program}
theorem cell_kept {W W' : World} (hk : ∀ k, k < W.heap.size → W'.heap[k]? = W.heap[k]?) {a : Addr} {v : Value} (h : W.cell? a = some v) : W'.cell? a = some v := by
 have hlt : a.block < W.heap.size := by
  cases hb : W.heap[a.block]? with
  | none => unfold World.cell? at h; rw [hb] at h; split at h <;> first | (simp at h; done) | contradiction
  | some o => exact (Array.getElem?_eq_some_iff.1 hb).1
 unfold World.cell? at h ⊢
 rw [hk _ hlt]
 exact h
theorem open_u8s {W : World} {base : Nat} {t e : TypeId} {v : Value} {d : DataW H} {p : List MemPlace} (ht : P.underlying t = some (.slice e)) (he : P.underlying e = some (.int .u8)) (hc : P.cellsOf e = 1)
 (hval : Value.okWide P W .any base t v) (h : DataW.Trod enc P W 0 (fun _ => true) true t v d p) :
 ∃ (a : Option Addr) (c : Nat) (l : List Nat), v = .slice a l.length c ∧ (∀ x ∈ l, x < 256) ∧ (l = [] ∨ ∃ b o, a = some ⟨b, o, none⟩ ∧ ∀ (i x : Nat), l[i]? = some x → W.cell? ⟨b, o + i, none⟩ = some (.int .u8 x)) ∧
   ∀ (W' : World) (sp : Nat → Bool), (∀ k, k < W.heap.size → W'.heap[k]? = W.heap[k]?) → (∀ q ∈ p, sp q.block = true) → DataW.Trod enc P W' 0 sp true t v d p := by
 obtain ⟨a0, n0, c0, rfl⟩ := okWide_slice ht hval
 obtain ⟨fuel, hf⟩ := h
 rcases open_ints ht he hc hf with ⟨hcs, hx⟩ | ⟨a, len, cap, zs, hcs, hba, hl, hm, hz, hx, hcell, hwz⟩
 · simp [Value.cells] at hcs
   obtain ⟨rfl, rfl, rfl⟩ := hcs
   simp only [Prod.mk.injEq] at hx
   obtain ⟨rfl, rfl⟩ := hx
   exact ⟨none, 0, [], rfl, fun x hx => (by cases hx), .inl rfl, fun W' sp _ _ => shut_slice_nil ht⟩
 · simp [Value.cells] at hcs
   obtain ⟨rfl, rfl, rfl⟩ := hcs
   simp only [Prod.mk.injEq] at hx
   obtain ⟨rfl, rfl⟩ := hx
   simp only [if_true] at hz
   have hwf : ∀ n ∈ zs, 0 ≤ n ∧ n ≤ 255 := fun n hn => by simpa [Lit.wf, IntKind.min, IntKind.max, IntKind.signed, IntKind.bits] using hwz n hn
   have hlen : ((zs.take n0).map Int.toNat).length = n0 := by simp; omega
   refine ⟨some a, c0, (zs.take n0).map Int.toNat, by rw [hlen], fun x hx => ?_, ?_, fun W' sp hk hsp => ?_⟩
   · obtain ⟨n, hn, rfl⟩ := List.mem_map.1 hx
     have := hwf n (List.mem_of_mem_take hn)
     omega
   · by_cases h0 : n0 = 0
     · left; subst h0; simp
     right
     obtain ⟨ab, ao, spot⟩ := a
     have hspot : spot = none := by simpa [Addr.add] using World.cell?_spot (hcell 0 (by omega))
     subst hspot
     refine ⟨ab, ao, rfl, fun i x hx => ?_⟩
     have hi : i < n0 := by rw [← hlen]; exact (List.getElem?_eq_some_iff.1 hx).1
     have hci := hcell i (by omega)
     rw [Addr.add_lit] at hci
     rw [hci]
     have e1 : zs.getD i 0 = zs[i]'(by omega) := by simp [List.getD, List.getElem?_eq_getElem (show i < zs.length by omega)]
     have e2 : x = (zs[i]'(by omega)).toNat := by
      rw [List.getElem?_map, List.getElem?_take, if_pos hi, List.getElem?_eq_getElem (show i < zs.length by omega)] at hx
      simpa using hx.symm
     have := hwf (zs[i]'(by omega)) (List.getElem_mem _)
     rw [e1, e2]
     congr 2
     omega
   · refine ⟨2, ?_⟩
     have := shut_ints (enc := enc) (P := P) (w := W') (base := 0) (spare := sp) (held := true) 0 ht he hc (a := a) (len := n0) (cap := c0) (zs := zs) (Nat.zero_le _) hl hm (by
      by_cases h0 : c0 = 0
      · split <;> omega
      · have : sp a.block = true := hsp (.cell a.block (a.off + 0)) (by simp only [MemPlace.row, List.mem_map, List.mem_range]; exact ⟨0, by omega, rfl⟩)
        rw [if_pos this]; exact hz) (fun i hi => cell_kept hk (hcell i hi)) hwz
     exact this
end
def two (w : World) (b c : Nat) : PHeap := fun k => if k = b ∨ k = c then w.heap[k]? else none
end Go.Fr
namespace Go.Proofs.D
open Go Go.Den Go.Sx
set_option maxRecDepth 100000
attribute [local irreducible] IntKind.wrap Tri parseS
def plz : Nat → List Value := plQ fun _ => (0, 0)
noncomputable def Off (a : OA) (h : PHeap) : PHeap := only (fun b => a ≠ ad b 0) h
theorem Off.ext {a : OA} {h h' : PHeap} (x : Ext h h') : Ext (Off a h) (Off a h') := only_ext fun k o hk ho => ⟨hk, x k o ho⟩
structure ST (h0 h : PHeap) (a : OA) (n k : Nat) (css : List (List Value)) (st : List E) : Prop where
 len : css.length = n
 lst : st.length = n
 pos : 1 ≤ n
 each : ∀ cs ∈ css, cs.length = 8
 own : ∃ b rest, a = ad b 0 ∧ h b = some (.cells ⟨css.flatten ++ rest⟩ 48 (0, 0)) ∧ rest.length = (k - n) * 8 ∧ n ≤ k ∧ h0 b = none
 ext : Ext h0 h
 rel : ∀ (j : Nat) (e : E) (cs : List Value), st[j]? = some e → css[j]? = some cs → RE plz 8 (Off a h) e cs
theorem flat8 : ∀ {css : List (List Value)}, (∀ cs ∈ css, cs.length = 8) → css.flatten.length = css.length * 8
 | [], _ => rfl
 | c :: css, h => by
   rw [List.flatten_cons, List.length_append, h c (List.mem_cons_self ..), flat8 (fun x hx => h x (List.mem_cons_of_mem _ hx)), List.length_cons]; omega
theorem RE_len {e : E} {cs : List Value} {h : PHeap} (hr : RE plz 8 h e cs) : cs.length = 8 ∧ allOne cs = true := by
 match e, hr with
 | .mk k op nm v t args pos, hr =>
   obtain ⟨a, c, rfl, _⟩ := RE_iff.1 hr
   exact ⟨rfl, rfl⟩
section
variable {h0 h h1 : PHeap} {a : OA} {n k : Nat} {css : List (List Value)} {st : List E}
theorem ST.up (hS : ST h0 h a n k css st) (x : Ext h h1) : ST h0 h1 a n k css st := by
 obtain ⟨b, rest, rfl, hb, hr, hn, h00⟩ := hS.own
 exact ⟨hS.len, hS.lst, hS.pos, hS.each, ⟨b, rest, rfl, x _ _ hb, hr, hn, h00⟩, hS.ext.trans x, fun j e cs he hc => (hS.rel j e cs he hc).ext (Off.ext x)⟩
theorem ST.row (hS : ST h0 h a n k css st) {j : Nat} (hj : j < n) : ∃ b cs, a = some ⟨b, 0, none⟩ ∧ css[j]? = some cs ∧ h.row b (0 + ((j : Nat) : Int).toNat * 8) cs ∧ RE plz 8 (Off a h) (st.getD j dE) cs := by
 obtain ⟨b, rest, rfl, hb, hr, hn, h00⟩ := hS.own
 have hj2 : j < css.length := by rw [hS.len]; exact hj
 have hj3 : j < st.length := by rw [hS.lst]; exact hj
 have hc : css[j]? = some css[j] := List.getElem?_eq_getElem hj2
 refine ⟨b, css[j], rfl, hc, row_lit hb fun i v hv => ?_, ?_⟩
 · have := flatten_row (k := 8) (css := css) (j := j) (cs := css[j]) (fun i c hi => hS.each c (List.mem_of_getElem? hi)) hc i v hv
   rw [Nat.zero_add, Int.toNat_natCast, List.getElem?_append_left (List.getElem?_eq_some_iff.1 this).1]
   exact this
 · have := hS.rel j st[j] css[j] (List.getElem?_eq_getElem hj3) hc
   simpa [List.getD, List.getElem?_eq_getElem hj3] using this
theorem take_app_get {α : Type} {l : List α} {x : α} {j i : Nat} (hj : j ≤ l.length) : (l.take j ++ [x])[i]? = if i < j then l[i]? else if i = j then some x else none := by
 have hl : (l.take j).length = j := by rw [List.length_take]; omega
 by_cases h1 : i < j
 · rw [List.getElem?_append_left (by omega), List.getElem?_take, if_pos h1, if_pos h1]
 · rw [if_neg h1, List.getElem?_append_right (by omega), hl]
   by_cases h2 : i = j
   · subst h2; simp
   · rw [if_neg h2]; simp; omega
theorem ST.push {j : Nat} (hS : ST h0 h a n k css st) (hj : j ≤ n) (hn : n ≤ 1000) (hx : Ext h h1) {b2 : Nat} {cs : List Value} {e : E} (hb2 : h1 b2 = some (.cells ⟨cs⟩ 48 (0, 0))) (hrel : RE plz 8 (Off a h1) e cs)
 {ρ : Operand → Value} {cl : Call} {x y : Operand} (hcl : cl.callee = .builtin .append) (hca : cl.args = #[x, y]) (hts : cl.argTypes = #[46, 46]) (hxx : ρ x = vL a j k) (hy : ρ y = vL (ad b2 0) 1 1) :
 Raw Tryz.prog (execOp ρ (mkO (.call cl) 46)) h1 fun v h2 => ∃ a' k', v = vL a' (j + 1) k' ∧ ST h0 h2 a' (j + 1) k' (css.take j ++ [cs]) (st.take j ++ [e]) ∧ ∀ q o, h1 q = some o → a ≠ ad q 0 → h2 q = some o := by
 obtain ⟨i, z, hi, hz, hzc, hk, hby⟩ := elem48
 have hS1 := hS.up hx
 obtain ⟨b, rest, rfl, hb, hr, hnk, h00⟩ := hS1.own
 obtain ⟨h8, hone⟩ := RE_len hrel
 have hjc : j ≤ css.length := by rw [hS.len]; exact hj
 have hjs : j ≤ st.length := by rw [hS.lst]; exact hj
 have htl : (css.take j).length = j := by rw [List.length_take]; omega
 have hte : ∀ cs ∈ css.take j, cs.length = 8 := fun c hc => hS.each c (List.mem_of_mem_take hc)
 have hde : ∀ cs ∈ css.drop j, cs.length = 8 := fun c hc => hS.each c (List.mem_of_mem_drop hc)
 have hfl := flat8 hte
 have hfd := flat8 hde
 have hsplit : css.flatten = (css.take j).flatten ++ (css.drop j).flatten := by rw [← List.flatten_append, List.take_append_drop]
 have hdl : (css.drop j).length = n - j := by rw [List.length_drop, hS.len]
 have hown : Own h1 48 i.size (vL (ad b 0) j k) j (css.take j).flatten := by
  rw [hk]
  refine ⟨by rw [hfl, htl], .inr ⟨b, k, (css.drop j).flatten ++ rest, rfl, by rw [hb, hsplit, List.append_assoc], ?_, by omega⟩⟩
  rw [List.length_append, hfd, hr, hdl, ← Nat.add_mul]
  congr 1; omega
 have hsrc : SrcH Tryz.prog h1 i.size 46 (vL (ad b2 0) 1 1) 1 cs := SrcH.row und46 (by omega) (row_lit hb2 fun q v hq => by simpa using hq) hone
 have hbig : (16 * (j + 1) + 16384) * i.bytes ≤ 281474976710656 := by
  have : (16 * (j + 1) + 16384) * i.bytes ≤ (16 * (j + 1) + 16384) * 200 := Nat.mul_le_mul_left _ hby
  omega
 refine Raw.mono (raw_append hcl hca hts und46 hi hz hxx hy hown hsrc (by rw [hzc, hk]) (by omega) hbig (by omega)) ?_
 rintro v h2 ⟨b', cap, rest', rfl, rfl, hr', hcap, hor⟩
 have hb'0 : h0 b' = none := by
  rcases hor with hor | ⟨c, hor⟩
  · cases e0 : h0 b' with
    | none => rfl
    | some o => rw [hS1.ext _ _ e0] at hor; cases hor
  · injection hor with e1; injection e1 with e1; injection e1 with e1; rw [← e1]; exact h00
 have hoff : Ext (Off (ad b 0) h1) (Off (ad b' 0) (h1.put b' (.cells ⟨(css.take j).flatten ++ cs ++ rest'⟩ 48 (0, 0)))) := only_ext fun q o hq ho => by
  have hqb : q ≠ b' := fun e1 => by
   subst e1
   rcases hor with hor | ⟨c, hor⟩
   · rw [ho] at hor; cases hor
   · injection hor with e1; exact hq e1
  exact ⟨fun e1 => hqb (by injection e1 with e1; injection e1 with e1; exact e1.symm), by rw [put_ne hqb]; exact ho⟩
 refine ⟨_, _, rfl, ⟨by simp [htl], by simp; omega, by omega, fun c hc => ?_, ⟨b', rest', rfl, ?_, by rw [hr', hk], hcap, hb'0⟩, fun q o hq => ?_, fun q e' cs' he hc => ?_⟩, fun q o hq hne => ((only_some.1 (hoff q o (only_some.2 ⟨hne, hq⟩))).2)⟩
 · rw [List.mem_append] at hc
   rcases hc with hc | hc
   · exact hte c hc
   · simp at hc; subst hc; exact h8
 · rw [put_same]; simp
 · have hqb : q ≠ b' := fun e => by subst e; rw [hb'0] at hq; cases hq
   rw [put_ne hqb]; exact hS1.ext _ _ hq
 · rw [take_app_get hjs] at he
   rw [take_app_get hjc] at hc
   by_cases h1 : q < j
   · rw [if_pos h1] at he hc
     exact (hS1.rel q e' cs' he hc).ext hoff
   · rw [if_neg h1] at he hc
     by_cases h2 : q = j
     · rw [if_pos h2] at he hc
       have he : e = e' := by injection he
       have hc : cs = cs' := by injection hc
       subst he; subst hc
       exact hrel.ext hoff
     · rw [if_neg h2] at he; cases he
theorem splice_mid {A B R cs : List Value} {o : Nat} (ho : A.length = o) (hB : B.length = cs.length) : splice (A ++ B ++ R) o cs = A ++ cs ++ R := by
 subst ho
 unfold splice
 have h1 : (A ++ B ++ R).take A.length = A := by rw [List.append_assoc, List.take_left]
 have h2 : (A ++ B ++ R).drop (A.length + cs.length) = R := by rw [← hB, ← List.length_append, List.drop_left]
 rw [h1, h2]
theorem ST.set (hS : ST h0 h a n k css st) (hx : Ext h h1) {cs : List Value} {e : E} (hrel : RE plz 8 (Off a h1) e cs) :
 ∃ b l, a = some ⟨b, 0, none⟩ ∧ h1 b = some (.cells ⟨l⟩ 48 (0, 0)) ∧ (0 + (n - 1) * 8) + 8 ≤ l.length ∧ ∀ h2, h2 = h1.put b (.cells ⟨splice l (0 + (n - 1) * 8) cs⟩ 48 (0, 0)) → ST h0 h2 a n k (css.take (n - 1) ++ [cs]) (st.take (n - 1) ++ [e]) := by
 have hS1 := hS.up hx
 obtain ⟨b, rest, rfl, hb, hr, hnk, h00⟩ := hS1.own
 obtain ⟨h8, hone⟩ := RE_len hrel
 have hp := hS.pos
 have hjc : n - 1 ≤ css.length := by rw [hS.len]; omega
 have hjs : n - 1 ≤ st.length := by rw [hS.lst]; omega
 have htl : (css.take (n - 1)).length = n - 1 := by rw [List.length_take]; omega
 have hte : ∀ cs ∈ css.take (n - 1), cs.length = 8 := fun c hc => hS.each c (List.mem_of_mem_take hc)
 have hde : ∀ cs ∈ css.drop (n - 1), cs.length = 8 := fun c hc => hS.each c (List.mem_of_mem_drop hc)
 have hfl := flat8 hte
 have hfd := flat8 hde
 have hdl : (css.drop (n - 1)).length = 1 := by rw [List.length_drop, hS.len]; omega
 have hsplit : css.flatten = (css.take (n - 1)).flatten ++ (css.drop (n - 1)).flatten := by rw [← List.flatten_append, List.take_append_drop]
 rw [htl] at hfl
 rw [hdl] at hfd
 refine ⟨b, _, rfl, hb, by rw [List.length_append, hsplit, List.length_append]; omega, fun h2 hh2 => ?_⟩
 have hsp : splice (css.flatten ++ rest) (0 + (n - 1) * 8) cs = (css.take (n - 1) ++ [cs]).flatten ++ rest := by
  rw [hsplit, splice_mid (by omega) (by omega), List.flatten_append, List.flatten_singleton]
 rw [hsp] at hh2
 have hoff : Ext (Off (ad b 0) h1) (Off (ad b 0) h2) := only_ext fun q o hq ho => by
  have hqb : q ≠ b := fun e1 => by subst e1; exact hq rfl
  exact ⟨hq, by rw [hh2, put_ne hqb]; exact ho⟩
 refine ⟨by simp [htl]; omega, by simp; omega, by omega, fun c hc => ?_, ⟨b, rest, rfl, by rw [hh2, put_same], hr, hnk, h00⟩, fun q o hq => ?_, fun q e' cs' he hc => ?_⟩
 · rw [List.mem_append] at hc
   rcases hc with hc | hc
   · exact hte c hc
   · simp at hc; subst hc; exact h8
 · have hqb : q ≠ b := fun e => by subst e; rw [h00] at hq; cases hq
   rw [hh2, put_ne hqb]; exact hS1.ext _ _ hq
 · rw [take_app_get hjs] at he
   rw [take_app_get hjc] at hc
   by_cases h1 : q < n - 1
   · rw [if_pos h1] at he hc
     exact (hS1.rel q e' cs' he hc).ext hoff
   · rw [if_neg h1] at he hc
     by_cases h2 : q = n - 1
     · rw [if_pos h2] at he hc
       have he : e = e' := by injection he
       have hc : cs = cs' := by injection hc
       subst he; subst hc
       exact hrel.ext hoff
     · rw [if_neg h2] at he; cases he
end
theorem raw_append00 {h : PHeap} {ρ : Operand → Value} {c : Call} {x y : Operand} {t e ty : TypeId} {i : TypeInfo} {b : Nat} {vy : Value} (hc : c.callee = .builtin .append) (ha : c.args = #[x, y]) (hts : c.argTypes = #[t, t]) (hu : Tryz.prog.underlying t = some (.slice e)) (hi : Tryz.prog.info? e = some i)
 (hsrc : SrcH Tryz.prog h i.size t vy 0 []) (hx : ρ x = vL (ad b 0) 0 0) (hy : ρ y = vy) : Raw Tryz.prog (execOp ρ (mkO (.call c) ty)) h fun v h' => v = vL (ad b 0) 0 0 ∧ h' = h := by
 intro w hs
 have hsr := hsrc w hs
 have hexec : (execOp ρ (mkO (.call c) ty)).run Tryz.prog w = ((Builtin.append_ #[t, t] ty #[vL (ad b 0) 0 0, vy]).run Tryz.prog w).andThen fun v w' => .ok (.value v) w' := by
  simp [execOp, mkO, resolve, hc, ha, hts, hx, hy, invoke, builtin]
 have hrun : (Builtin.append_ #[t, t] ty #[vL (ad b 0) 0 0, vy]).run Tryz.prog w = .ok (vL (ad b 0) 0 0) w := by
  simp [Builtin.append_, run_underlying hu, sizeOf, typeInfo, hi, hsr.len, hsr.cells, addNone, storeCells]
 exact ⟨_, _, w, h, by rw [hexec, hrun]; rfl, .inl rfl, ⟨rfl, rfl⟩, hs, Keep.refl w h⟩
theorem ops_t (h : PHeap) : Tri Tryz.prog 65 [] h fun v h' => ∃ b, v = vL (ad b 0) 21 21 ∧ h b = none ∧ (∀ (r : Nat) (x : Bytes), opsS[r]? = some x → h'.cell b (0 + r * 1) = some (vS x)) ∧ Ext h h' := by
 refine T65 ?_
 unfold R65
 intro b hb h1 hh1
 refine ⟨b, rfl, hb, fun r x hr => ?_, Put.ext hh1 hb⟩
 rw [cell_of (Put.at hh1), Nat.zero_add, Nat.mul_one]
 have : ([vS [45], vS [33], vS [126], vS [124, 124], vS [38, 38], vS [124], vS [94], vS [38], vS [61, 61], vS [33, 61], vS [60], vS [60, 61], vS [62], vS [62, 61], vS [60, 60], vS [62, 62], vS [43], vS [45], vS [42], vS [47], vS [37]] : List Value) = opsS.map fun l => vS l := rfl
 rw [this, List.getElem?_map, hr]; rfl
theorem max_n (i : Int) : PureRun Tryz.prog (execOp (rho [(87, vI i)]) (mkO o21_18 3)) (vI (if 0 < i then i else 0)) := pureVal_run _ (by kernel_rfl)
end Go.Proofs.D
namespace Go.Proofs.D
open Go Go.Den Go.Sx
set_option maxRecDepth 100000
theorem wrapu8 {x : Nat} (h : x < 256) : IntKind.u8.wrap ((x : Nat) : Int) = ((x : Nat) : Int) := (by decide +kernel : ∀ r : Fin 256, IntKind.u8.wrap ((r.val : Nat) : Int) = ((r.val : Nat) : Int)) ⟨x, h⟩
attribute [local irreducible] IntKind.wrap Tri parseS stepB
def BAt2 (h : PHeap) (a : OA) (β : List Nat) : Prop := β = [] ∨ ∃ b o, a = some ⟨b, o, none⟩ ∧ ∀ (i x : Nat), β[i]? = some x → h.cell b (o + i) = some (vU x)
theorem BAt2.ext {h h' : PHeap} {a : OA} {β : List Nat} (x : Ext h h') (hb : BAt2 h a β) : BAt2 h' a β := by
 rcases hb with hb | ⟨b, o, ha, hc⟩
 · exact .inl hb
 · exact .inr ⟨b, o, ha, fun i y hy => row_ext (l := [vU y]) (fun ob => x b ob) (hc i y hy)⟩
theorem tmod3 (x : Nat) : Int.tmod ((x : Nat) : Int) 3 = ((x % 3 : Nat) : Int) := by rw [Int.tmod_eq_emod_of_nonneg (by omega)]; rfl
theorem tmod4 (x : Nat) : Int.tmod ((x : Nat) : Int) 4 = ((x % 4 : Nat) : Int) := by rw [Int.tmod_eq_emod_of_nonneg (by omega)]; rfl
theorem tmod18 (x : Nat) : Int.tmod ((x : Nat) : Int) 18 = ((x % 18 : Nat) : Int) := by rw [Int.tmod_eq_emod_of_nonneg (by omega)]; rfl
theorem xyz_l (r : Nat) (h : r < 3) : ((([120, 121, 122] : Bytes).drop r).take (r + 1 - r)) = [UInt8.ofNat (120 + r)] := by
 match r, h with
 | 0, _ => rfl
 | 1, _ => rfl
 | 2, _ => rfl
theorem RE_leaf {h : PHeap} {k v : Nat} {op nm tx : Bytes} {cs : List Value} (hc : cs = [vI k, vS op, vS nm, vI v, vS tx, vL none 0 0, vI 0, vI 0]) : RE plz 8 h (.mk k op nm v tx [] 0) cs := RE_iff.2 ⟨none, 0, hc, .inl rfl⟩
theorem at_lit {a : OA} {h : PHeap} {bl : Nat} {rows : List (List Value)} {rest : List Value} {es : List E} (hbl : h bl = some (.cells ⟨rows.flatten ++ rest⟩ 48 (0, 0))) (hne : a ≠ ad bl 0) (h8 : ∀ r ∈ rows, r.length = 8) (hlen : rows.length = es.length)
 (hrel : ∀ (i : Nat) (e : E) (r : List Value), es[i]? = some e → rows[i]? = some r → RE plz 8 (Off a h) e r) : At 8 (RE plz 8) (Off a h) (ad bl 0) es := by
 right
 refine ⟨bl, 0, rfl, fun i e he => ?_⟩
 have hi : i < rows.length := by rw [hlen]; exact (List.getElem?_eq_some_iff.1 he).1
 have hc : rows[i]? = some rows[i] := List.getElem?_eq_getElem hi
 refine ⟨rows[i], ?_, hrel i e _ he hc⟩
 have hb : Off a h bl = some (.cells ⟨rows.flatten ++ rest⟩ 48 (0, 0)) := only_some.2 ⟨hne, hbl⟩
 refine row_lit hb fun q v hv => ?_
 have := flatten_row (k := 8) (css := rows) (j := i) (cs := rows[i]) (fun i c hi => h8 c (List.mem_of_getElem? hi)) hc q v hv
 rw [Nat.zero_add, List.getElem?_append_left (List.getElem?_eq_some_iff.1 this).1]
 exact this
section
variable {h0 h h1 : PHeap} {a : OA} {n k : Nat} {css : List (List Value)} {st : List E}
theorem ST.ne (hS : ST h0 h a n k css st) {b : Nat} (hb : h b = none) : a ≠ ad b 0 := by
 obtain ⟨b', rest, rfl, h1, _⟩ := hS.own
 intro e; injection e with e; injection e with e; subst e; rw [hb] at h1; cases h1
theorem stacks_succ (β : List Nat) {j : Nat} (hj : j < β.length) : stacks (β.take (j + 1)) = stepB (stacks (β.take j)) β[j] := by
 rw [← List.take_append_getElem hj]
 unfold stacks
 rw [List.foldl_append]; rfl
theorem build_t {h : PHeap} {a1 : OA} {β : List Nat} {c : Nat} (hβ : BAt2 h a1 β) (h256 : ∀ x ∈ β, x < 256) : Tri Tryz.prog 21 [vL a1 β.length c] h fun v h' => ∃ cs, v = vA cs ∧ RE plz 8 h' (buildS β) cs ∧ Ext h h' := by
 refine T21 ?_
 unfold R21
 intro b1 hb1 h1 hh1
 have hS0 : ST h h1 (ad b1 0) 1 1 [[vI 3, vS [], vS [118], vI 0, vS [], vL none 0 0, vI 0, vI 0]] st0 := by
  refine ⟨rfl, rfl, Nat.le_refl _, fun cs hc => by simp at hc; subst hc; rfl, ⟨b1, [], rfl, Put.at hh1, rfl, Nat.le_refl _, hb1⟩, Put.ext hh1 hb1, fun j e cs he hc => ?_⟩
  match j, he, hc with
  | 0, he, hc =>
    have he : E.mk 3 [] [118] 0 [] [] 0 = e := by injection he
    have hc : [vI 3, vS [], vS [118], vI 0, vS [], vL none 0 0, vI 0, vI 0] = cs := by injection hc
    subst he; subst hc
    exact RE_leaf rfl
  | j + 1, he, hc => simp [Go.Sx.st0] at he
 refine ⟨fun m a n k i h' => ∃ (j : Nat) (css : List (List Value)), i = j ∧ j ≤ 60 ∧ j + m = β.length ∧ n ≤ j + 1 ∧ ST h h' a n k css (stacks (β.take j)), ⟨β.length, 0, _, rfl, by omega, by omega, by omega, hS0⟩, ?_⟩
 rintro m a n k _ h2 ⟨j, css, rfl, hj60, hjm, hnj, hS⟩
 have hpos := hS.pos
 have wn1 : IntKind.i64.wrap (((n : Nat) : Int) - 1) = ((n - 1 : Nat) : Int) := by rw [wrap64 (by omega) (by omega)]; omega
 have hlast := hS.row (j := n - 1) (by omega)
 obtain ⟨ob, tcs, hoa, htc, htr, htrel⟩ := hlast
 have htop : (stacks (β.take j)).getD (n - 1) dE = topS (stacks (β.take j)) := by rw [topS, hS.lst]
 rw [htop] at htrel
 have done : (β.length ≤ j ∨ 60 ≤ j) → ∃ (b25 o11 : Nat), a = some ⟨b25, o11, none⟩ ∧ (0 ≤ (IntKind.i64.wrap (((n : Nat) : Int) - 1)) ∧ (IntKind.i64.wrap (((n : Nat) : Int) - 1)) < n) ∧
  ∃ (i12 : Int) (l15 l16 : Bs) (i13 : Int) (l17 : Bs) (a19 : OA) (n16 k16 : Nat) (i14 i15 : Int), h2.row b25 (o11 + (IntKind.i64.wrap (((n : Nat) : Int) - 1)).toNat * 8) [vI i12, vS l15, vS l16, vI i13, vS l17, vL a19 n16 k16, vI i14, vI i15] ∧
  (∃ cs, vA [vI i12, vS l15, vS l16, vI i13, vS l17, vL a19 n16 k16, vI i14, vI i15] = vA cs ∧ RE plz 8 h2 (buildS β) cs ∧ Ext h h2) := by
  intro hd
  rw [wn1]
  have hb : topS (stacks (β.take j)) = buildS β := by
   unfold buildS
   have : β.take j = β.take 60 := by
    rcases hd with hd | hd
    · rw [List.take_of_length_le hd, List.take_of_length_le (by omega)]
    · rw [show j = 60 by omega]
   rw [this]
  rw [hb] at htrel
  generalize buildS β = T at *
  match T, htrel with
  | .mk kd op nm vl tx args pos, htrel =>
  obtain ⟨a3, c3, rfl, hA3⟩ := RE_iff.1 htrel
  exact ⟨ob, 0, hoa, ⟨by omega, by omega⟩, _, _, _, _, _, _, _, _, _, _, htr, _, rfl, htrel.ext only_sub, hS.ext⟩
 refine br_split (fun e => ?_) (fun e => done (.inl (by have := of_decide_eq_false e; omega)))
 refine br_split (fun e' => ?_) (fun e' => done (.inr (by have := of_decide_eq_false e'; omega)))
 clear done
 have hj : j < β.length := by have := of_decide_eq_true e; omega
 have hj6 : j < 60 := by have := of_decide_eq_true e'; omega
 have hx := h256 _ (List.getElem_mem hj)
 rcases hβ.ext hS.ext with hβ2 | ⟨bb, bo, hba, hbc⟩
 · rw [hβ2] at hj; simp at hj
 have hbj := hbc j _ (List.getElem?_eq_getElem hj)
 have hst := stacks_succ β hj
 generalize stacks (β.take j) = st at *
 generalize β[j] = x at *
 have hlst := hS.lst
 have hcl := hS.len
 have wx : IntKind.i64.wrap ((x : Nat) : Int) = ((x : Nat) : Int) := wrap64 (by omega) (by omega)
 have fin : ∀ a' n' k' css' h4, ST h h4 a' n' k' css' (stepB st x) → n' ≤ n + 1 → ∃ m3, m3 < m ∧ (∃ (j' : Nat) (css : List (List Value)), IntKind.i64.wrap (((j : Nat) : Int) + 1) = j' ∧ j' ≤ 60 ∧ j' + m3 = β.length ∧ n' ≤ j' + 1 ∧ ST h h4 a' n' k' css (stacks (β.take j'))) ∧
  tv [vI 0, vS [], vS [], vI 0, vS [], vL none 0 0, vI 0, vI 0] ∧ True := by
  intro a' n' k' css' h4 hS4 hn4
  refine ⟨m - 1, by omega, ⟨j + 1, css', ?_, by omega, by omega, by omega, by rw [hst]; exact hS4⟩, rfl, trivial⟩
  rw [wrap64 (by omega) (by omega)]; rfl
 have takes : st.take n = st ∧ css.take n = css := ⟨List.take_of_length_le (by omega), List.take_of_length_le (by omega)⟩
 have hdl : st.dropLast = st.take (n - 1) := by rw [List.dropLast_eq_take, hlst]
 have ttcs := RE_len htrel
 have httop : topS st = topS st := rfl
 generalize hT : topS st = T at htrel
 match T, hT, htrel with
 | .mk kd op nm vl tx args pos, hT, htrel =>
 obtain ⟨a3, c3, rfl, hA3⟩ := RE_iff.1 htrel
 refine ⟨bb, bo, hba, ⟨by omega, by omega⟩, ((x : Nat) : Int), by rw [Int.toNat_natCast, Nat.mul_one]; exact hbj, ob, 0, hoa, ?_⟩
 rw [wn1, wx]
 refine ⟨⟨by omega, by omega⟩, _, _, _, _, _, _, _, _, _, _, htr, ?_⟩
 refine br_split (fun e1 => ?_) (fun e1 => ?_)
 · -- a number
   have e1 : x < 40 := by have := of_decide_eq_true e1; omega
   intro b4 hb4 h3 hh3
   have hsq : IntKind.i64.wrap ((x : Int) * (x : Int)) = ((x * x : Nat) : Int) := by
    have : x * x ≤ 39 * 39 := Nat.mul_le_mul (by omega) (by omega)
    rw [← Int.natCast_mul, wrap64 (by omega) (by omega)]
   rw [hsq] at hh3
   refine Raw.mono (hS.push (e := .mk 1 [] [] (x * x) [] [] 0) (Nat.le_refl n) (by omega) (Put.ext hh3 hb4) (Put.at hh3) (RE_leaf rfl) rfl rfl rfl rfl rfl) ?_
   rintro v h4 ⟨a', k', rfl, hS4, hkp⟩
   rw [takes.1, takes.2] at hS4
   have : stepB st x = st ++ [.mk 1 [] [] (x * x) [] [] 0] := by unfold stepB; rw [if_pos e1]
   exact ⟨_, _, _, rfl, fin _ _ _ _ h4 (by rw [this]; exact hS4) (Nat.le_refl _)⟩
 have n40 : ¬ x < 40 := by have := of_decide_eq_false e1; omega
 refine br_split (fun e2 => ?_) (fun e2 => ?_)
 · -- a variable
   have e2 : x < 70 := by have := of_decide_eq_true e2; omega
   have hr3 : x % 3 < 3 := Nat.mod_lt _ (by decide)
   rw [tmod3, wrap64 (show -9223372036854775808 ≤ ((x % 3 : Nat) : Int) + 1 by omega) (by omega), show (((x % 3 : Nat) : Int) + 1).toNat = x % 3 + 1 by omega, Int.toNat_natCast, xyz_l _ hr3]
   refine ⟨⟨by omega, by omega, by omega⟩, by simp, ?_⟩
   intro b4 hb4 h3 hh3
   refine Raw.mono (hS.push (e := .mk 3 [] [97, UInt8.ofNat (120 + x % 3)] 0 [] [] 0) (Nat.le_refl n) (by omega) (Put.ext hh3 hb4) (Put.at hh3) (RE_leaf rfl) rfl rfl rfl rfl rfl) ?_
   rintro v h4 ⟨a', k', rfl, hS4, hkp⟩
   rw [takes.1, takes.2] at hS4
   have : stepB st x = st ++ [.mk 3 [] [97, UInt8.ofNat (120 + x % 3)] 0 [] [] 0] := by unfold stepB; rw [if_neg n40, if_pos e2]
   exact ⟨_, _, _, rfl, fin _ _ _ _ h4 (by rw [this]; exact hS4) (Nat.le_refl _)⟩
 have n70 : ¬ x < 70 := by have := of_decide_eq_false e2; omega
 refine br_split (fun e3 => ?_) (fun e3 => ?_)
 · -- a string
   have e3 : x < 80 := by have := of_decide_eq_true e3; omega
   intro b4 hb4 h3 hh3
   rw [wrapu8 hx] at hh3
   have hx3 := Put.ext hh3 hb4
   have hbx : (vU ((x : Nat) : Int)) = byteV (UInt8.ofNat x) := by
    unfold byteV; rw [UInt8.toNat_ofNat', Nat.mod_eq_of_lt hx]
   refine ⟨[UInt8.ofNat x], .inr ⟨b4, 0, rfl, rfl, ?_⟩, by simp, ?_⟩
   · have := Put.at hh3
     rw [hbx] at this
     exact row_lit this fun i v hv => by simpa using hv
   intro b5 hb5 h5 hh5
   refine Raw.mono (hS.push (e := .mk 2 [] [] 0 [115, 10, 34, UInt8.ofNat x] [] 0) (Nat.le_refl n) (by omega) (hx3.trans (Put.ext hh5 hb5)) (Put.at hh5) (RE_leaf rfl) rfl rfl rfl rfl rfl) ?_
   rintro v h4 ⟨a', k', rfl, hS4, hkp⟩
   rw [takes.1, takes.2] at hS4
   have : stepB st x = st ++ [.mk 2 [] [] 0 [115, 10, 34, UInt8.ofNat x] [] 0] := by unfold stepB; rw [if_neg n40, if_neg n70, if_pos e3]
   exact ⟨_, _, _, rfl, fin _ _ _ _ h4 (by rw [this]; exact hS4) (Nat.le_refl _)⟩
 have n80 : ¬ x < 80 := by have := of_decide_eq_false e3; omega
 have boxed : ∀ b8 h10, h2 b8 = none → Ext h2 h10 → h10 b8 = some (.cells ⟨[vI kd, vS op, vS nm, vI vl, vS tx, vL a3 args.length c3] ++ plz pos⟩ 48 (0, 0)) → At 8 (RE plz 8) (Off a h10) (ad b8 0) [topS st] := by
  intro b8 h10 hb8 hx10 hbk
  refine at_lit (rows := [[vI kd, vS op, vS nm, vI vl, vS tx, vL a3 args.length c3] ++ plz pos]) (rest := []) (by rw [hbk]; simp) (hS.ne hb8) (fun r hr => by simp at hr; subst hr; rfl) rfl fun i e r he hr => ?_
  match i, he, hr with
  | 0, he, hr =>
    have he : topS st = e := by injection he
    have hr : [vI kd, vS op, vS nm, vI vl, vS tx, vL a3 args.length c3] ++ plz pos = r := by injection hr
    subst he; subst hr
    rw [hT]; exact htrel.ext (Off.ext hx10)
  | i + 1, he, hr => simp at he
 refine br_split (fun e4 => ?_) (fun e4 => ?_)
 · -- an element
   have e4 : x < 95 := by have := of_decide_eq_true e4; omega
   intro b8 hb8 h10 hh10
   have hx10 := Put.ext hh10 hb8
   have hat := boxed b8 h10 hb8 hx10 (Put.at hh10)
   obtain ⟨b9, l5, hb9, hl5, hlen5, hput⟩ := hS.set hx10 (e := .mk 4 [] [101] 0 [] [topS st] 0) (cs := [vI 4, vS [], vS [101], vI 0, vS [], vL (ad b8 0) 1 1, vI 0, vI 0]) (RE_iff.2 ⟨ad b8 0, 1, rfl, hat⟩)
   refine ⟨b9, 0, hb9, ⟨by omega, by omega⟩, l5, 48, (0, 0), hl5, ⟨by rw [Int.toNat_natCast]; exact hlen5, Nat.zero_le _⟩, fun h11 hh11 => ?_⟩
   rw [Int.toNat_natCast] at hh11
   have : stepB st x = st.take (n - 1) ++ [.mk 4 [] [101] 0 [] [topS st] 0] := by unfold stepB; rw [if_neg n40, if_neg n70, if_neg n80, if_pos e4, hdl]
   exact fin _ _ _ _ h11 (by rw [this]; exact hput h11 hh11) (Nat.le_succ _)
 have n95 : ¬ x < 95 := by have := of_decide_eq_false e4; omega
 refine br_split (fun e5 => ?_) (fun e5 => ?_)
 · -- a call
   have e5 : x < 110 := by have := of_decide_eq_true e5; omega
   intro b10 hb10 h12 hh12
   have hx12 := Put.ext hh12 hb10
   have hS12 := hS.up hx12
   obtain ⟨sb, srest, rfl, hsb, hsr, hsn, hs0⟩ := hS12.own
   have hmax : (if 0 < (IntKind.i64.wrap (((n : Nat) : Int) - (Int.tmod ((x : Nat) : Int) 4))) then (IntKind.i64.wrap (((n : Nat) : Int) - (Int.tmod ((x : Nat) : Int) 4))) else 0) = ((n - x % 4 : Nat) : Int) := by
    have : x % 4 < 4 := Nat.mod_lt _ (by decide)
    rw [tmod4, wrap64 (by omega) (by omega)]
    split <;> omega
   have hmr := max_n (IntKind.i64.wrap (((n : Nat) : Int) - (Int.tmod ((x : Nat) : Int) 4)))
   rw [hmax] at hmr
   refine ⟨_, hmr, ⟨.inl ⟨sb, 0, rfl⟩, by omega, by omega, by omega⟩, fun a7 hA7 => ?_⟩
   rw [Int.toNat_natCast] at hA7 ⊢
   rw [Int.toNat_natCast]
   obtain ⟨o7, ho7, hoff7⟩ := hA7.1 sb 0 rfl
   subst ho7
   have hq : n - x % 4 ≤ n := Nat.sub_le _ _
   have hstep : stepB st x = st.take (n - x % 4) ++ [.mk 5 [] [102] 0 [] (st.drop (n - x % 4)) 0] := by unfold stepB; rw [if_neg n40, if_neg n70, if_neg n80, if_neg n95, if_pos e5, hlst]
   generalize hqq : n - x % 4 = q at *
   have hdlen : (css.drop q).length = n - q := by rw [List.length_drop, hcl]
   have hde : ∀ cs ∈ css.drop q, cs.length = 8 := fun c hc => hS.each c (List.mem_of_mem_drop hc)
   have hfd := flat8 hde
   rw [hdlen] at hfd
   have rest : ∀ (b' k7 : Nat) (R : List Value) (h13 : PHeap), Ext h2 h13 → h2 b' = none → h13 b' = some (.cells ⟨(css.drop q).flatten ++ R⟩ 48 (0, 0)) →
    (okA (ad sb 0) n k ∧ 0 ≤ (0 : Int) ∧ (0 : Int) ≤ (IntKind.i64.wrap (((n : Nat) : Int) - ((n - q : Nat) : Int))) ∧ (IntKind.i64.wrap (((n : Nat) : Int) - ((n - q : Nat) : Int))) ≤ k) ∧ ∀ (a9 : OA), SlA (ad sb 0) a9 0 k 8 →
    ∀ (b11 : Nat), h13 b11 = none → ∀ (h_14 : PHeap), h_14 = h13.put b11 (.cells ⟨[vI 5, vS [], vS [102], vI 0, vS [], vL (ad b' 0) (n - q) k7, vI 0, vI 0]⟩ 48) →
    Raw Tryz.prog (execOp (rho [(96, vL a9 ((IntKind.i64.wrap (((n : Nat) : Int) - ((n - q : Nat) : Int))).toNat - 0) (k - 0)), (99, vL (ad b11 0) 1 1)]) (mkO o21_21 46)) h_14 fun v_5 h_15 =>
     ∃ (a10 : OA) (n8 k8 : Nat), v_5 = vL a10 n8 k8 ∧ ∃ m3, m3 < m ∧ (∃ (j' : Nat) (css : List (List Value)), IntKind.i64.wrap (((j : Nat) : Int) + 1) = j' ∧ j' ≤ 60 ∧ j' + m3 = β.length ∧ n8 ≤ j' + 1 ∧ ST h h_15 a10 n8 k8 css (stacks (β.take j'))) ∧
       tv [vI 0, vS [], vS [], vI 0, vS [], vL none 0 0, vI 0, vI 0] ∧ True := by
    intro b' k7 R h13 hx13 hb' hbk
    have hw : IntKind.i64.wrap (((n : Nat) : Int) - ((n - q : Nat) : Int)) = ((q : Nat) : Int) := by rw [wrap64 (by omega) (by omega)]; omega
    rw [hw]
    refine ⟨⟨.inl ⟨sb, 0, rfl⟩, Int.le_refl _, by omega, by omega⟩, fun a9 hA9 b11 hb11 h14 hh14 => ?_⟩
    obtain ⟨o9, ho9, hoff9⟩ := hA9.1 sb 0 rfl
    have := hoff9 (.inr rfl)
    subst ho9
    simp only [Nat.zero_mul, Nat.zero_add] at this
    subst this
    rw [Int.toNat_natCast, Nat.sub_zero, Nat.sub_zero]
    have hx14 := hx13.trans (Put.ext hh14 hb11)
    have hat : At 8 (RE plz 8) (Off (ad sb 0) h14) (ad b' 0) (st.drop q) := by
     refine at_lit (rows := css.drop q) (rest := R) (Put.ext hh14 hb11 _ _ hbk) (hS.ne hb') hde (by rw [hdlen, List.length_drop, hlst]) fun i e r he hr => ?_
     rw [List.getElem?_drop] at he hr
     exact (hS.rel _ e r he hr).ext (Off.ext hx14)
    have hdl2 : (st.drop q).length = n - q := by rw [List.length_drop, hlst]
    refine Raw.mono (hS.push (j := q) (e := .mk 5 [] [102] 0 [] (st.drop q) 0) hq (by omega) hx14 (Put.at hh14) (RE_iff.2 ⟨ad b' 0, k7, by rw [hdl2]; rfl, hat⟩) rfl rfl rfl rfl rfl) ?_
    rintro v h4 ⟨a', k', rfl, hS4, hkp⟩
    exact ⟨_, _, _, rfl, fin _ _ _ _ h4 (by rw [hstep]; exact hS4) (by omega)⟩
   obtain ⟨i, z, hi, hz, hzc, hk8, hby⟩ := elem48
   by_cases hm0 : n - q = 0
   · rw [hm0]
     refine Raw.mono (raw_append00 rfl rfl rfl und46 hi (SrcH.row (b := sb) (o := o7) (c := k - q) und46 (by simp) trivial rfl) rfl rfl) ?_
     rintro v h13 ⟨rfl, rfl⟩
     refine ⟨_, _, _, rfl, ?_⟩
     have := rest b10 0 [] h13 hx12 hb10 (by rw [Put.at hh12]; have : (css.drop q).flatten = [] := List.eq_nil_of_length_eq_zero (by rw [hfd, hm0]); rw [this]; rfl)
     rw [hm0] at this
     exact this
   · have hown : Own h12 48 i.size (vL (ad b10 0) 0 0) 0 [] := ⟨by simp, .inr ⟨b10, 0, [], rfl, Put.at hh12, by simp, Nat.le_refl _⟩⟩
     have ho7 : o7 = 0 + q * 8 := hoff7 (by omega)
     have hsplit : css.flatten = (css.take q).flatten ++ (css.drop q).flatten := by rw [← List.flatten_append, List.take_append_drop]
     have hft : (css.take q).flatten.length = q * 8 := by
      rw [flat8 (fun c hc => hS.each c (List.mem_of_mem_take hc)), List.length_take, hcl, Nat.min_eq_left hq]
     have hone : ∀ (l : List (List Value)), (∀ r ∈ l, allOne r = true) → allOne l.flatten = true := by
      intro l
      induction l with
      | nil => intro _; rfl
      | cons r l ih =>
        intro h
        have h1 := h r (List.mem_cons_self ..)
        have h2 := ih fun x hx => h x (List.mem_cons_of_mem _ hx)
        have key : ∀ (x y : List Value), allOne x = true → allOne y = true → allOne (x ++ y) = true := by
         intro x
         induction x with
         | nil => intro y _ h; exact h
         | cons v x ihx =>
           intro y hx hy
           simp only [allOne, Bool.and_eq_true, List.cons_append] at hx ⊢
           exact ⟨hx.1, ihx y hx.2 hy⟩
        exact key r l.flatten h1 h2
     have hall : allOne (css.drop q).flatten = true := hone _ fun r hr => by
      obtain ⟨i, hi⟩ := List.mem_iff_getElem?.1 hr
      rw [List.getElem?_drop] at hi
      have hlt : q + i < st.length := by rw [hlst, ← hcl]; exact (List.getElem?_eq_some_iff.1 hi).1
      exact (RE_len (hS.rel (q + i) st[q + i] r (List.getElem?_eq_getElem hlt) hi)).2
     have hsrc : SrcH Tryz.prog h12 i.size 46 (vL (ad sb o7) (n - q) (k - q)) (n - q) (css.drop q).flatten := by
      refine SrcH.row und46 (by rw [hfd, hk8]) (row_lit hsb fun w v hv => ?_) hall
      have hw := (List.getElem?_eq_some_iff.1 hv).1
      rw [ho7, hsplit, List.append_assoc, List.getElem?_append_right (by omega), hft, show 0 + q * 8 + w - q * 8 = w by omega, List.getElem?_append_left hw]
      exact hv
     have hbig : (16 * (0 + (n - q)) + 16384) * i.bytes ≤ 281474976710656 := by
      have : (16 * (0 + (n - q)) + 16384) * i.bytes ≤ (16 * (0 + (n - q)) + 16384) * 200 := Nat.mul_le_mul_left _ hby
      omega
     refine Raw.mono (raw_append rfl rfl rfl und46 hi hz rfl rfl hown hsrc (by rw [hzc, hk8]) (by omega) hbig (by omega)) ?_
     rintro v h13 ⟨b', cap, rest', rfl, rfl, hr', hcap, hor⟩
     have hb' : h2 b' = none := by
      rcases hor with hor | ⟨c', hor⟩
      · cases e0 : h2 b' with
        | none => rfl
        | some o => rw [hx12 _ _ e0] at hor; cases hor
      · injection hor with e1; injection e1 with e1; injection e1 with e1; rw [← e1]; exact hb10
     refine ⟨_, _, _, rfl, ?_⟩
     rw [Nat.zero_add]
     refine rest b' cap rest' _ (fun w o hw => ?_) hb' (by rw [put_same]; simp)
     have hwb : w ≠ b' := fun e => by subst e; rw [hb'] at hw; cases hw
     rw [put_ne hwb]; exact hx12 _ _ hw
 have n110 : ¬ x < 110 := by have := of_decide_eq_false e5; omega
 refine br_split (fun e6 => ?_) (fun e6 => ?_)
 · -- a unary operator
   have e6 : x < 140 := by have := of_decide_eq_true e6; omega
   have hr3 : x % 3 < 3 := Nat.mod_lt _ (by decide)
   have hop : opsS[x % 3]? = some (opsS.getD (x % 3) []) := by
    have : x % 3 < opsS.length := by simp [opsS]; omega
    simp [List.getD, List.getElem?_eq_getElem this]
   have hstep : stepB st x = st.take (n - 1) ++ [.mk 6 (opsS.getD (x % 3) []) [] 0 [] [topS st] 0] := by unfold stepB; rw [if_neg n40, if_neg n70, if_neg n80, if_neg n95, if_neg n110, if_pos e6, hdl]
   rw [tmod3, Int.toNat_natCast]
   refine ⟨?_, ?_⟩
   · refine Tri.mono (ops_t h2) ?_
     rintro _ h16 ⟨bo, rfl, hbn, hbo, hx16⟩
     have hc := hbo _ _ hop
     refine ⟨_, _, _, rfl, rfl, bo, 0, rfl, ⟨by omega, by omega⟩, _, hc, fun b13 hb13 h17 hh17 => ?_⟩
     have hx17 := Put.ext hh17 hb13
     have hb13' : h2 b13 = none := by
      cases e0 : h2 b13 with
      | none => rfl
      | some o => rw [hx16 _ _ e0] at hb13; cases hb13
     have hat := boxed b13 h17 hb13' (hx16.trans hx17) (Put.at hh17)
     obtain ⟨b9, l5, hb9, hl5, hlen5, hput⟩ := hS.set (hx16.trans hx17) (e := .mk 6 (opsS.getD (x % 3) []) [] 0 [] [topS st] 0) (cs := [vI 6, vS (opsS.getD (x % 3) []), vS [], vI 0, vS [], vL (ad b13 0) 1 1, vI 0, vI 0]) (RE_iff.2 ⟨ad b13 0, 1, rfl, hat⟩)
     refine ⟨row_ext (l := [vS _]) (fun ob => hx17 bo ob) hc, b9, 0, hb9, ⟨by omega, by omega⟩, l5, 48, (0, 0), hl5, ⟨by rw [Int.toNat_natCast]; exact hlen5, Nat.zero_le _⟩, fun h11 hh11 => ?_⟩
     rw [Int.toNat_natCast] at hh11
     exact fin _ _ _ _ h11 (by rw [hstep]; exact hput h11 hh11) (Nat.le_succ _)
   · intro b13 hb13 h17 hh17
     have hx17 := Put.ext hh17 hb13
     refine Tri.mono (ops_t h17) ?_
     rintro _ h16 ⟨bo, rfl, hbn, hbo, hx16⟩
     have hc := hbo _ _ hop
     have hat := boxed b13 h16 hb13 (hx17.trans hx16) (hx16 _ _ (Put.at hh17))
     obtain ⟨b9, l5, hb9, hl5, hlen5, hput⟩ := hS.set (hx17.trans hx16) (e := .mk 6 (opsS.getD (x % 3) []) [] 0 [] [topS st] 0) (cs := [vI 6, vS (opsS.getD (x % 3) []), vS [], vI 0, vS [], vL (ad b13 0) 1 1, vI 0, vI 0]) (RE_iff.2 ⟨ad b13 0, 1, rfl, hat⟩)
     refine ⟨_, _, _, rfl, bo, 0, rfl, ⟨by omega, by omega⟩, _, hc, b9, 0, hb9, ⟨by omega, by omega⟩, l5, 48, (0, 0), hl5, ⟨by rw [Int.toNat_natCast]; exact hlen5, Nat.zero_le _⟩, fun h11 hh11 => ?_⟩
     rw [Int.toNat_natCast] at hh11
     exact fin _ _ _ _ h11 (by rw [hstep]; exact hput h11 hh11) (Nat.le_succ _)
 have n140 : ¬ x < 140 := by have := of_decide_eq_false e6; omega
 refine br_split (fun e7 => ?_) (fun e7 => ?_)
 · -- a binary operator
   have e7 : 1 < n := by have := of_decide_eq_true e7; omega
   have hr18 : x % 18 < 18 := Nat.mod_lt _ (by decide)
   have hop : opsS[3 + x % 18]? = some (opsS.getD (3 + x % 18) []) := by
    have : 3 + x % 18 < opsS.length := by simp [opsS]; omega
    simp [List.getD, List.getElem?_eq_getElem this]
   have hstep : stepB st x = st.take (n - 2) ++ [.mk 7 (opsS.getD (3 + x % 18) []) [] 0 [] [st.getD (n - 2) dE, topS st] 0] := by unfold stepB; rw [if_neg n40, if_neg n70, if_neg n80, if_neg n95, if_neg n110, if_neg n140, hlst, if_pos e7]
   have wn2 : IntKind.i64.wrap (((n : Nat) : Int) - 2) = ((n - 2 : Nat) : Int) := by rw [wrap64 (by omega) (by omega)]; omega
   have w318 : IntKind.i64.wrap (3 + (Int.tmod ((x : Nat) : Int) 18)) = ((3 + x % 18 : Nat) : Int) := by rw [tmod18, wrap64 (by omega) (by omega)]; omega
   obtain ⟨b2, cs2, hoa2, hc2, hr2, hrel2⟩ := hS.row (j := n - 2) (by omega)
   rw [wn2, w318]
   obtain ⟨sb, srest, hsa, hsb, hsr, hsn, hs0⟩ := hS.own
   subst hsa
   refine ⟨⟨.inl ⟨sb, 0, rfl⟩, Int.le_refl _, by omega, by omega⟩, fun a13 hA13 => ?_⟩
   obtain ⟨o9, ho9, hoff9⟩ := hA13.1 sb 0 rfl
   have := hoff9 (.inr rfl)
   subst ho9
   simp only [Nat.zero_mul, Nat.zero_add] at this
   subst this
   have h28 := RE_len hrel2
   generalize hU : st.getD (n - 2) dE = U at *
   have hrel2' := hrel2
   match U, hU, hrel2 with
   | .mk kd2 op2 nm2 vl2 tx2 args2 pos2, hU, hrel2 =>
   obtain ⟨a5, c5, rfl, hA5⟩ := RE_iff.1 hrel2
   refine ⟨b2, 0, hoa2, ⟨by omega, by omega⟩, _, _, _, _, _, _, _, _, _, _, hr2, ?_⟩
   rw [Int.toNat_natCast, Int.toNat_natCast, Nat.sub_zero, Nat.sub_zero]
   have both : ∀ b20 h24, h2 b20 = none → Ext h2 h24 → h24 b20 = some (.cells ⟨([vI kd2, vS op2, vS nm2, vI vl2, vS tx2, vL a5 args2.length c5] ++ plz pos2) ++ ([vI kd, vS op, vS nm, vI vl, vS tx, vL a3 args.length c3] ++ plz pos)⟩ 48 (0, 0)) → At 8 (RE plz 8) (Off (ad sb 0) h24) (ad b20 0) [E.mk kd2 op2 nm2 vl2 tx2 args2 pos2, topS st] := by
    intro b20 h24 hb20 hx24 hbk
    refine at_lit (rows := [[vI kd2, vS op2, vS nm2, vI vl2, vS tx2, vL a5 args2.length c5] ++ plz pos2, [vI kd, vS op, vS nm, vI vl, vS tx, vL a3 args.length c3] ++ plz pos]) (rest := []) (by rw [hbk]; simp) (hS.ne hb20) (fun r hr => by simp at hr; rcases hr with rfl | rfl <;> rfl) rfl fun i e r he hr => ?_
    match i, he, hr with
    | 0, he, hr =>
      have he : E.mk kd2 op2 nm2 vl2 tx2 args2 pos2 = e := by injection he
      have hr : [vI kd2, vS op2, vS nm2, vI vl2, vS tx2, vL a5 args2.length c5] ++ plz pos2 = r := by injection hr
      subst he; subst hr
      exact hrel2.ext (Off.ext hx24)
    | 1, he, hr =>
      have he : topS st = e := by injection he
      have hr : [vI kd, vS op, vS nm, vI vl, vS tx, vL a3 args.length c3] ++ plz pos = r := by injection hr
      subst he; subst hr
      rw [hT]; exact htrel.ext (Off.ext hx24)
    | i + 2, he, hr => simp at he
   refine ⟨?_, ?_⟩
   · refine Tri.mono (ops_t h2) ?_
     rintro _ h22 ⟨bo, rfl, hbn, hbo, hx22⟩
     have hc := hbo _ _ hop
     refine ⟨_, _, _, rfl, rfl, row_ext (fun ob => hx22 b2 ob) (by rw [Int.toNat_natCast] at hr2; exact hr2), bo, 0, rfl, ⟨by omega, by omega⟩, _, hc, fun b20 hb20 h23 hh23 => ?_⟩
     have hx23 := Put.ext hh23 hb20
     have hc3 := row_ext (l := [vS _]) (fun ob => hx23 bo ob) hc
     refine ⟨hc3, fun b21 hb21 h24 hh24 => ?_⟩
     have hx24 := Put.ext hh24 hb21
     have hb20' : h2 b20 = none := by
      cases e0 : h2 b20 with
      | none => rfl
      | some o => rw [hx22 _ _ e0] at hb20; cases hb20
     have hx := (hx22.trans hx23).trans hx24
     have hat := both b20 h24 hb20' hx (hx24 _ _ (Put.at hh23))
     have hc4 := row_ext (l := [vS _]) (fun ob => hx24 bo ob) hc3
     refine ⟨hc4, Raw.mono (hS.push (j := n - 2) (e := .mk 7 (opsS.getD (3 + x % 18) []) [] 0 [] [E.mk kd2 op2 nm2 vl2 tx2 args2 pos2, topS st] 0) (by omega) (by omega) hx (Put.at hh24) (RE_iff.2 ⟨ad b20 0, 2, rfl, hat⟩) rfl rfl rfl rfl rfl) ?_⟩
     rintro v h4 ⟨a', k', rfl, hS4, hkp⟩
     have hc5 := row_ext (l := [vS _]) (fun ob e => hkp bo ob e (hS.ne (show h2 bo = none from hbn))) hc4
     exact ⟨_, _, _, rfl, hc5, fin _ _ _ _ h4 (by rw [hstep]; exact hS4) (by omega)⟩
   · intro b20 hb20 h26 hh26
     have hx26 := Put.ext hh26 hb20
     refine Tri.mono (ops_t h26) ?_
     rintro _ h27 ⟨bo, rfl, hbn, hbo, hx27⟩
     have hc := hbo _ _ hop
     refine ⟨_, _, _, rfl, bo, 0, rfl, ⟨by omega, by omega⟩, _, hc, fun b24 hb24 h28 hh28 => ?_⟩
     have hx28 := Put.ext hh28 hb24
     have hc3 := row_ext (l := [vS _]) (fun ob => hx28 bo ob) hc
     have hx := (hx26.trans hx27).trans hx28
     have hat := both b20 h28 hb20 hx (hx28 _ _ (hx27 _ _ (Put.at hh26)))
     refine ⟨hc3, Raw.mono (hS.push (j := n - 2) (e := .mk 7 (opsS.getD (3 + x % 18) []) [] 0 [] [E.mk kd2 op2 nm2 vl2 tx2 args2 pos2, topS st] 0) (by omega) (by omega) hx (Put.at hh28) (RE_iff.2 ⟨ad b20 0, 2, rfl, hat⟩) rfl rfl rfl rfl rfl) ?_⟩
     rintro v h4 ⟨a', k', rfl, hS4, hkp⟩
     have hc5 := row_ext (l := [vS _]) (fun ob e => hkp bo ob e (hS.ne (show h2 bo = none by cases e0 : h2 bo with | none => rfl | some o => rw [hx26 _ _ e0] at hbn; cases hbn))) hc3
     exact ⟨_, _, _, rfl, hc5, fin _ _ _ _ h4 (by rw [hstep]; exact hS4) (by omega)⟩
 · have e7 : ¬ 1 < n := by have := of_decide_eq_false e7; omega
   refine fin _ _ _ css h2 ?_ (Nat.le_succ _)
   have : stepB st x = st := by unfold stepB; rw [if_neg n40, if_neg n70, if_neg n80, if_neg n95, if_neg n110, if_neg n140, hlst, if_neg e7]
   rw [this]; exact hS
end
end Go.Proofs.D
namespace Go.Proofs.D
open Go Go.Den Go.Sx
set_option maxRecDepth 100000
attribute [local irreducible] IntKind.wrap Tri parseS buildS
theorem expressions_tri {h : PHeap} (ht : L.EscTab h) (hpt : PowTab h) {a1 : OA} {β : List Nat} {c : Nat} (hβ : BAt2 h a1 β) (h256 : ∀ x ∈ β, x < 256) : Tri Tryz.prog 5 [vL a1 β.length c] h fun v h' => v = vB true ∧ Ext h h' := by
 refine T5 ?_
 unfold R5
 refine Tri.mono (known_ok h ht) ?_
 rintro _ h1 ⟨rfl, hx1⟩
 refine ⟨_, rfl, br_neg rfl ?_⟩
 refine Tri.mono (build_t (c := c) (hβ.ext hx1) h256) ?_
 rintro _ h2 ⟨cs, rfl, hrel, hx2⟩
 obtain ⟨hok, hlen⟩ := build_ok h256
 have hback := expr_back hok hlen
 have hcnt := cnt_pr hok
 generalize buildS β = T at *
 match T, hok, hlen, hback, hcnt, hrel with
 | .mk kd op nm vl tx args pos, hok, hlen, hback, hcnt, hrel =>
 obtain ⟨a3, c3, rfl, hA3⟩ := RE_iff.1 hrel
 refine ⟨_, _, _, _, _, _, _, _, _, _, rfl, ?_⟩
 have hx02 := hx1.trans hx2
 refine Tri.mono (exprx_t (p := fun _ => (0, 0)) hok (by omega) (by omega) (hpt.ext hx02) hrel) ?_
 rintro _ h3 ⟨rfl, hx3⟩
 have hx03 := hx02.trans hx3
 refine ⟨_, rfl, by simp; omega, by simp; omega, ?_⟩
 have hte : (([102, 117, 110, 99, 32, 109, 97, 105, 110, 40, 41, 32, 123, 32, 121, 32, 61, 32] : Bs) ++ prE (.mk kd op nm vl tx args pos)) ++ ([59, 32, 125] : Bs) = hdT ++ prE (.mk kd op nm vl tx args pos) ++ tlT := rfl
 rw [hte]
 have heq := fun e' => (eqE_z e' (.mk kd op nm vl tx args pos)).2
 generalize hdT ++ prE (.mk kd op nm vl tx args pos) ++ tlT = t at *
 refine Tri.mono (parse_tri t h3 (ht.ext hx03)) ?_
 rintro v4 h4 ⟨hx4, hv4⟩
 have hx04 := hx03.trans hx4
 rcases hback with ⟨p, f, nm2, pos2, e', hps, hg, hfs, hbd, hz⟩ | ⟨x, hps⟩
 · rw [hps] at hv4
   obtain ⟨ga, gc, fa, fc, rfl, hG, hF⟩ := hv4
   have hF := hF.whole (RF_mono _ _ _) (Ext.refl _)
   have hcP := parseS_cnt hps
   rw [hfs] at hF ⊢
   refine ⟨_, _, _, _, _, _, _, _, _, rfl, br_neg rfl (br_neg rfl ?_)⟩
   obtain ⟨b1, o1, cs, ha, hr, hrelF⟩ := hF.get (n := 0) (by simp)
   obtain ⟨pa, pc, ba, bc, rfl, hP, hB, _⟩ := hrelF
   simp only [List.getElem_cons_zero] at hB hr
   rw [hbd] at hB hr
   obtain ⟨b2, o2, cs2, hb, hr2, hrel2⟩ := hB.get (n := 0) (by simp)
   simp only [List.getElem_cons_zero] at hrel2
   obtain ⟨aa, ac, _, _, _, _, rfl, hE, _, _⟩ := RS_iff.1 hrel2
   obtain ⟨b3, o3, cs3, hc, hr3, hrel3⟩ := hE.get (n := 0) (by simp)
   simp only [List.getElem_cons_zero] at hrel3
   refine ⟨b1, o1, ha, ⟨by decide, by simp⟩, _, _, _, hr.2.2.1, br_neg rfl ⟨b1, o1, ha, ⟨by decide, by simp⟩, _, _, _, hr.2.2.1, b2, o2, hb, ⟨by decide, by simp⟩, _, _, _, hr2.2.2.1, br_neg rfl ?_⟩⟩
   refine ⟨b1, o1, ha, ⟨by decide, by simp⟩, _, _, _, hr.2.2.1, b2, o2, hb, ⟨by decide, by simp⟩, _, _, _, hr2.2.2.1, b3, o3, hc, ⟨by decide, by simp⟩, ?_⟩
   have heq := heq e' hz
   have hce : cntE e' ≤ 100000 := by
    simp only [cntP, hfs, cntFs, cntF, hbd, cntSs, cntS, cntEs] at hcP
    omega
   match e', hce, hrel3, heq with
   | .mk kd' op' nm' vl' tx' args' pos', hce, hrel3, heq =>
   obtain ⟨a8, c8, rfl, hA8⟩ := RE_iff.1 hrel3
   refine ⟨_, _, _, _, _, _, _, _, _, _, hr3, ?_⟩
   refine Tri.mono (alike_t (p := fun n => ((place t n).1, (place t n).2)) (q := fun _ => (0, 0)) _ (.mk kd' op' nm' vl' tx' args' pos') (.mk kd op nm vl tx args pos) (Nat.le_refl _) hce _ _ hrel3 (hrel.ext (hx3.trans hx4))) ?_
   rintro _ h5 ⟨rfl, rfl⟩
   exact ⟨_, rfl, hr2.2.2.1, hr.2.2.1, rfl, by rw [heq], hx04⟩
 · rw [hps] at hv4
   have hv4 : v4 = _ := hv4
   exact ⟨_, _, _, _, _, _, _, _, _, hv4, br_pos rfl ⟨rfl, hx04⟩⟩
end Go.Proofs.D
namespace Go.Fr
open Go Go.Den Go.ChangeShapes Go.WideShapes Go.RowKit
def all (w : World) : PHeap := fun k => w.heap[k]?
theorem all_sub (w : World) : Sub w (all w) := fun _ _ hk => hk
theorem all_cell {w : World} {b i : Nat} {v : Value} (h : w.cell? ⟨b, i, none⟩ = some v) : (all w).cell b i = some v := by
 have := one_cell h
 unfold PHeap.cell at this ⊢
 have e : all w b = one w b b := by unfold all one; rw [if_pos rfl]
 rw [e]; exact this
theorem all_one (w : World) (b : Nat) : ∀ k o, one w b k = some o → all w k = some o := fun k o hk => by
 unfold one at hk
 split at hk
 · rename_i e; subst e; exact hk
 · cases hk
theorem pow_all {W : World} (h : Lib.TabIs Go.Proofs.Tryz.prog W "internal/strconv.uint64pow10" .u64 Lib.pow10Tab) : Go.Proofs.D.PowTab (all W) := by
 unfold Lib.TabIs World.var? at h
 rw [show Go.Proofs.Tryz.prog.globalNamed "internal/strconv.uint64pow10" = some 0 by kernel_rfl] at h
 simp only [Option.bind_some] at h
 unfold Go.Proofs.D.PowTab all
 cases hb : W.heap[0]? with
 | none => rw [hb] at h; simp at h
 | some o =>
   rw [hb] at h
   cases o with
   | cells c t z =>
     simp only [Option.some.injEq] at h
     exact ⟨t, z, by rw [h]⟩
   | _ => simp at h
end Go.Fr
