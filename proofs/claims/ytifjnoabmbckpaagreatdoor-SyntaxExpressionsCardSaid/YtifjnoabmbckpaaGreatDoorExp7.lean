import Derived.Test.YtifjnoabmbckpaaGreatDoorExp6
import Derived.Shelf.Strings.OnBuilder
import Derived.Shelf.Strconv.Itoa3
import Derived.Lib.AppendIntMem
namespace Go.Sx
def shapeE (k n : Nat) : Prop := (k = 1 ∨ k = 2 ∨ k = 3) ∧ n = 0 ∨ (k = 4 ∨ k = 6) ∧ n = 1 ∨ k = 7 ∧ n = 2 ∨ k = 5
def shapeS (k a b c : Nat) : Prop := (k = 1 ∨ k = 7) ∧ a ≤ 1 ∧ b = 0 ∧ c = 0 ∨ (k = 2 ∨ k = 4) ∧ a = 1 ∧ b = 0 ∧ c = 0 ∨ k = 3 ∧ a = 2 ∧ b = 0 ∧ c = 0 ∨ (k = 8 ∨ k = 9) ∧ a = 0 ∧ b = 0 ∧ c = 0 ∨ k = 6 ∧ a = 1 ∧ c = 0 ∨ k = 5 ∧ a = 1
mutual
def wfE : E → Prop
 | .mk k _ _ _ _ args _ => shapeE k args.length ∧ wfEs args
def wfEs : List E → Prop
 | [] => True
 | e :: es => wfE e ∧ wfEs es
end
mutual
def wfS : S → Prop
 | .mk k _ args body els _ => shapeS k args.length body.length els.length ∧ wfEs args ∧ wfSs body ∧ wfSs els
def wfSs : List S → Prop
 | [] => True
 | s :: ss => wfS s ∧ wfSs ss
end
theorem wfEs_iff : ∀ {l : List E}, wfEs l ↔ ∀ e ∈ l, wfE e
 | [] => by simp [wfEs]
 | e :: l => by simp [wfEs, wfEs_iff (l := l)]
theorem wfSs_iff : ∀ {l : List S}, wfSs l ↔ ∀ e ∈ l, wfS e
 | [] => by simp [wfSs]
 | e :: l => by simp [wfSs, wfSs_iff (l := l)]
theorem wfClE : ClE (fun _ => True) (fun _ => True) wfE where
 z := trivial
 t _ _ := trivial
 c1 t _ _ := by simp [wfE, wfEs, shapeE]
 c2 t _ _ := by simp [wfE, wfEs, shapeE]
 c3 t _ _ := by simp [wfE, wfEs, shapeE]
 c4 t e _ _ h := by simp [wfE, wfEs, shapeE, h]
 c5 t l _ _ h := by simp [wfE, shapeE, wfEs_iff]; exact h
 c6 t e _ _ h := by simp [wfE, wfEs, shapeE, h]
 c7 t e e' _ _ _ _ h h' := by simp [wfE, wfEs, shapeE, h, h']
theorem wfClS : ClS (fun _ => True) (fun _ => True) wfE wfS where
 toClE := wfClE
 s1 t u l _ _ _ h := by rcases h with rfl | ⟨e, rfl, h⟩ <;> simp [wfS, wfSs, wfEs, shapeS]; exact h
 s2 t e _ _ h := by simp [wfS, wfSs, wfEs, shapeS, h]
 s3 t i e _ _ h h' := by simp [wfS, wfSs, wfEs, shapeS, h, h']
 s4 t l _ _ h := by simp [wfS, wfSs, wfEs, wfE, shapeS, shapeE, wfEs_iff]; exact h
 s5 t e b c _ h hb hc := by simp [wfS, wfEs, shapeS, wfSs_iff, h]; exact ⟨hb, hc⟩
 s6 t e b _ h hb := by simp [wfS, wfEs, wfSs, shapeS, wfSs_iff, h]; exact hb
 s7 t l _ h := by rcases h with rfl | ⟨e, rfl, h⟩ <;> simp [wfS, wfSs, wfEs, shapeS]; exact h
 s8 t _ := by simp [wfS, wfSs, wfEs, shapeS]
 s9 t _ := by simp [wfS, wfSs, wfEs, shapeS]
end Go.Sx
namespace Go.Proofs.D
open Go Go.Den Go.Sx
set_option maxRecDepth 100000
attribute [local irreducible] IntKind.wrap Tri parseS
def CB (cb n : Nat) (h : PHeap) : Prop := n ≤ 4096 ∧ h cb = some (.cells ⟨[vI n]⟩ 129)
def CP (cb n : Nat) (h : PHeap) (v : Value) (h' : PHeap) : Prop := v = vB true ∧ Away cb h h' ∧ CB cb n h'
theorem one_t {cb n : Nat} {h : PHeap} (hb : CB cb (n + 1) h) : Tri Tryz.prog 106 [vP cb 0] h (CP cb n h) := by
 obtain ⟨hn, hb⟩ := hb
 refine T106 ?_
 unfold R106
 refine ⟨_, cell_of hb 0, _, _, _, hb, ⟨by simp, Nat.zero_le _⟩, ?_⟩
 intro h1 hh1
 have hb1 : h1 cb = some (.cells ⟨[vI (IntKind.i64.wrap (((n + 1 : Nat) : Int) - 1))]⟩ 129) := Put.at hh1
 rw [wrap64 (by omega) (by omega), show (((n + 1 : Nat) : Int) - 1) = n by omega] at hb1
 refine ⟨_, cell_of hb1 0, ?_, (Put.chg hh1).away, by omega, hb1⟩
 simp
theorem ext_away {g : PHeap} {cb : Nat} {h h' : PHeap} (hg : g cb = none) (x : Ext g h) (a : Away cb h h') : Ext g h' := fun k o hk => a k o (fun e => by subst e; rw [hg] at hk; cases hk) (x k o hk)
theorem cb_put {cb n b : Nat} {o : Obj} {h h1 : PHeap} (hc : CB cb n h) (hb : h b = none) (e : h1 = h.put b o) : CB cb n h1 := ⟨hc.1, Put.ext e hb _ _ hc.2⟩
theorem ne_cb {cb n b : Nat} {h : PHeap} (hc : CB cb n h) (hb : h b = none) : b ≠ cb := fun e => by subst e; rw [hc.2] at hb; cases hb
theorem cntEs_drop {es : List E} {j : Nat} (hj : j < es.length) : cntEs (es.drop j) = cntE es[j] + cntEs (es.drop (j + 1)) := by rw [List.drop_eq_getElem_cons hj]; rfl
theorem cntSs_drop {es : List S} {j : Nat} (hj : j < es.length) : cntSs (es.drop j) = cntS es[j] + cntSs (es.drop (j + 1)) := by rw [List.drop_eq_getElem_cons hj]; rfl
section
variable {s : Bytes} {g : PHeap} {cb : Nat}
def TE (s : Bytes) (g : PHeap) (cb : Nat) (e : E) : Prop := ∀ cs, RE (plP s) 8 g e cs → ∀ h n, Ext g h → CB cb (n + cntE e) h → Tri Tryz.prog 66 [vP cb 0, vA cs] h (CP cb n h)
def TS (s : Bytes) (g : PHeap) (cb : Nat) (e : S) : Prop := ∀ cs, RS (plP s) 8 7 g e cs → ∀ h n, Ext g h → CB cb (n + cntS e) h → Tri Tryz.prog 148 [vP cb 0, vA cs] h (CP cb n h)
theorem texprs (hg : g cb = none) {f b1 : Nat} (hf : f = 108 ∨ f = 176) {es : List E} (ih : ∀ e ∈ es, TE s g cb e) {a : Option Addr} {c : Nat} (hA : At 8 (RE (plP s) 8) g a es) {h : PHeap} {n : Nat} (hx : Ext g h) (hb : b1 ≠ cb) (hb1 : h b1 = some (.cells ⟨[vP cb 0]⟩ 127)) (hc : CB cb (n + cntEs es) h) :
 Tri Tryz.prog 107 [vL a es.length c, vF f [] [vP b1 0]] h fun v h' => v = vB false ∧ Away cb h h' ∧ CB cb n h' := by
 refine T107 ?_
 unfold R107
 have hl := hc.1
 have hlen := cntEs_len es
 suffices hs : Tri Tryz.prog 153 [vL a es.length c, vF f [] [vP b1 0]] h fun v h' => v = vI (-1) ∧ Away cb h h' ∧ CB cb n h' by
  refine Tri.mono hs ?_
  rintro _ h1 ⟨rfl, h2, h3⟩
  exact ⟨_, rfl, rfl, h2, h3⟩
 refine T153 ?_
 unfold R153
 refine ⟨fun m i h' => Away cb h h' ∧ ∃ j : Nat, i = j ∧ j + m = es.length ∧ CB cb (n + cntEs (es.drop j)) h', ⟨es.length, Away.refl _ _, 0, rfl, by omega, hc⟩, ?_⟩
 rintro m _ h1 ⟨ha, j, rfl, hjm, hcj⟩
 refine br_split (fun e => ?_) (fun e => ?_)
 · have hj : j < es.length := by
    have := of_decide_eq_true e
    omega
   obtain ⟨b, o, cs, rfl, hr, hrel⟩ := hA.get hj
   have ihj := ih _ (List.getElem_mem hj) _ hrel h1 (n + cntEs (es.drop (j + 1))) (ext_away hg hx ha) (by rw [cntEs_drop hj] at hcj; rwa [show n + cntEs (es.drop (j + 1)) + cntE es[j] = n + (cntE es[j] + cntEs (es.drop (j + 1))) by omega])
   have hr := row_ext (fun ob => ext_away hg hx ha b ob) hr
   have hb2 := ha _ _ hb hb1
   generalize es[j] = x at *
   match x, hrel with
   | .mk kd op nm vl tx args pos, hrel =>
   obtain ⟨a1, c1, rfl, hA1⟩ := RE_iff.1 hrel
   refine ⟨b, o, rfl, ⟨by omega, by omega⟩, _, _, _, _, _, _, _, _, _, _, hr, ?_⟩
   rcases hf with rfl | rfl
   · refine T108 ?_
     unfold R108
     refine ⟨_, _, cell_of hb2 0, ?_⟩
     refine Tri.mono ihj ?_
     rintro _ h2 ⟨rfl, h3, h4⟩
     refine ⟨_, rfl, _, rfl, br_neg rfl ⟨m - 1, by omega, ⟨ha.trans h3, j + 1, ?_, by omega, h4⟩, trivial⟩⟩
     rw [wrap64 (by omega) (by omega)]; rfl
   · refine T176 ?_
     unfold R176
     refine ⟨_, _, cell_of hb2 0, ?_⟩
     refine Tri.mono ihj ?_
     rintro _ h2 ⟨rfl, h3, h4⟩
     refine ⟨_, rfl, _, rfl, br_neg rfl ⟨m - 1, by omega, ⟨ha.trans h3, j + 1, ?_, by omega, h4⟩, trivial⟩⟩
     rw [wrap64 (by omega) (by omega)]; rfl
 · have : es.length ≤ j := by
    have := of_decide_eq_false e
    omega
   rw [List.drop_eq_nil_of_le this] at hcj
   exact ⟨rfl, ha, hcj⟩
theorem texpr (hg : g cb = none) : ∀ k e, cntE e ≤ k → wfE e → TE s g cb e := by
 intro k
 induction k with
 | zero => intro e he; have := cntE_pos e; omega
 | succ k ih =>
   intro e he hw cs hrel h n hx hc
   match e, he, hw, hrel, hc with
   | .mk kd op nm vl tx args pos, he, hw, hrel, hc =>
   obtain ⟨a1, c1, rfl, hA1⟩ := RE_iff.1 hrel
   simp only [cntE] at he hc
   have hih : ∀ e ∈ args, TE s g cb e := fun e hm => ih e (by have := cntEs_mem hm; omega) (wfEs_iff.1 hw.2 e hm)
   refine T66 ?_
   unfold R66
   intro b1 hb1 h1 hh1
   have hn1 := ne_cb hc hb1
   have hx1 := Put.ext hh1 hb1
   refine ⟨_, _, cell_of (Put.at hh1) 0, ?_⟩
   refine Tri.mono (one_t (n := n + cntEs args) (cb_put hc hb1 hh1)) ?_
   rintro _ h2 ⟨rfl, ha2, hc2⟩
   have ha02 : Away cb h h2 := hx1.away.trans ha2
   have hb2 := ha2 _ _ hn1 (Put.at hh1)
   have hx2 := ext_away hg hx ha02
   refine ⟨_, rfl, br_neg rfl ?_⟩
   have single : ∀ x, args = [x] → ∃ (p3 o3 : Nat), h2.cell b1 0 = some (vP p3 o3) ∧ ∃ (b2 o4 : Nat), a1 = some ⟨b2, o4, none⟩ ∧ (0 ≤ (0 : Int) ∧ (0 : Int) < args.length) ∧
    ∃ (i5 : Int) (l4 l5 : Bs) (i6 : Int) (l6 : Bs) (a2 : OA) (n2 dyk2 : Nat) (i7 i8 : Int), h2.row b2 o4 [vI i5, vS l4, vS l5, vI i6, vS l6, vL a2 n2 dyk2, vI i7, vI i8] ∧
    Tri Tryz.prog 66 [vP p3 o3, vA [vI i5, vS l4, vS l5, vI i6, vS l6, vL a2 n2 dyk2, vI i7, vI i8]] h2 fun v_2 h_3 => ∃ (c2 : Bool), v_2 = vB c2 ∧ (tv [vL a1 args.length c1]) ∧ CP cb n h (vB c2) h_3 := fun x hxs => by
    subst hxs
    obtain ⟨b, o, cs, rfl, hr, hrel⟩ := hA1.get (n := 0) (by simp)
    have h5 := hih x (by simp) _ hrel h2 n hx2 (by simpa [cntEs] using hc2)
    have hr := row_ext (fun ob => hx2 b ob) hr
    simp only [List.getElem_cons_zero] at hrel
    match x, hrel with
    | .mk kd op nm vl tx args pos, hrel =>
    obtain ⟨a3, c3, rfl, hA3⟩ := RE_iff.1 hrel
    refine ⟨_, _, cell_of hb2 0, b, o, rfl, ⟨by decide, by simp⟩, _, _, _, _, _, _, _, _, _, _, hr, ?_⟩
    refine Tri.mono h5 ?_
    rintro _ h3 ⟨rfl, h6, h7⟩
    exact ⟨_, rfl, rfl, rfl, ha02.trans h6, h7⟩
   rcases hw.1 with ⟨hk, h0⟩ | ⟨hk, h0⟩ | ⟨rfl, h0⟩ | rfl
   · obtain rfl := List.eq_nil_of_length_eq_zero h0
     have hq : CP cb n h (vB true) h2 := ⟨rfl, ha02, hc2⟩
     rcases hk with rfl | rfl | rfl <;> (repeat first | refine br_pos rfl ?_ | refine br_neg rfl ?_) <;> exact hq
   · obtain ⟨x, rfl⟩ := List.length_eq_one_iff.1 h0
     rcases hk with rfl | rfl <;> (repeat first | refine br_pos rfl ?_ | refine br_neg rfl ?_) <;> exact single x rfl
   · obtain ⟨x, y, rfl⟩ : ∃ x y, args = [x, y] := match args, h0 with | [x, y], _ => ⟨x, y, rfl⟩
     (repeat first | refine br_pos rfl ?_ | refine br_neg rfl ?_)
     obtain ⟨b, o, cs, rfl, hr, hrel⟩ := hA1.get (n := 0) (by simp)
     obtain ⟨b', o', cs', ha', hr', hrel'⟩ := hA1.get (n := 1) (by simp)
     cases ha'
     simp only [List.getElem_cons_zero, List.getElem_cons_succ] at hrel hrel'
     have h5 := hih x (by simp) _ hrel h2 (n + cntE y) hx2 (by simpa [cntEs, Nat.add_assoc, Nat.add_comm, Nat.add_left_comm] using hc2)
     have h5' := fun h4 hx4 hc4 => hih y (by simp) _ hrel' h4 n hx4 hc4
     match x, y, hrel, hrel' with
     | .mk kd op nm vl tx args pos, .mk kd' op' nm' vl' tx' args' pos', hrel, hrel' =>
     obtain ⟨a3, c3, rfl, hA3⟩ := RE_iff.1 hrel
     obtain ⟨a4, c4, rfl, hA4⟩ := RE_iff.1 hrel'
     refine ⟨_, _, cell_of hb2 0, b, o, rfl, ⟨by decide, by simp⟩, _, _, _, _, _, _, _, _, _, _, row_ext (fun ob => hx2 b ob) hr, ?_⟩
     refine Tri.mono h5 ?_
     rintro _ h3 ⟨rfl, h6, h7⟩
     have hx3 := ext_away hg hx2 h6
     refine ⟨_, rfl, rfl, br_pos rfl ?_⟩
     refine ⟨_, _, cell_of (h6 _ _ hn1 hb2) 0, b, o, rfl, ⟨by decide, by simp⟩, _, _, _, _, _, _, _, _, _, _, row_ext (fun ob => hx3 b ob) hr', ?_⟩
     refine Tri.mono (h5' h3 hx3 h7) ?_
     rintro _ h4 ⟨rfl, h8, h9⟩
     exact ⟨_, rfl, rfl, rfl, rfl, (ha02.trans h6).trans h8, h9⟩
   · (repeat first | refine br_pos rfl ?_ | refine br_neg rfl ?_)
     refine Tri.mono (texprs hg (.inl rfl) hih hA1 hx2 hn1 hb2 hc2) ?_
     rintro _ h3 ⟨rfl, h6, h7⟩
     exact ⟨_, rfl, rfl, ha02.trans h6, h7⟩
theorem tstmts (hg : g cb = none) {es : List S} (ih : ∀ e ∈ es, TS s g cb e) {a : Option Addr} {c : Nat} (hA : At 7 (RS (plP s) 8 7) g a es) {h : PHeap} {n : Nat} (hx : Ext g h) (hc : CB cb (n + cntSs es) h) :
 Tri Tryz.prog 100 [vP cb 0, vL a es.length c] h (CP cb n h) := by
 refine T100 ?_
 unfold R100
 intro b1 hb1 h1 hh1
 have hn1 := ne_cb hc hb1
 have hx1 := Put.ext hh1 hb1
 have hx01 := hx.trans hx1
 have hl := hc.1
 have hlen := cntSs_len es
 have hc1 := cb_put hc hb1 hh1
 have hb1 := Put.at hh1
 suffices hs : Tri Tryz.prog 175 [vL a es.length c, vF 147 [] [vP b1 0]] h1 fun v h' => v = vI (-1) ∧ Away cb h1 h' ∧ CB cb n h' by
  refine T146 ?_
  unfold R146
  refine Tri.mono hs ?_
  rintro _ h1 ⟨rfl, h2, h3⟩
  exact ⟨_, rfl, _, rfl, rfl, hx1.away.trans h2, h3⟩
 clear hh1 hx1
 refine T175 ?_
 unfold R175
 refine ⟨fun m i h' => Away cb h1 h' ∧ ∃ j : Nat, i = j ∧ j + m = es.length ∧ CB cb (n + cntSs (es.drop j)) h', ⟨es.length, Away.refl _ _, 0, rfl, by omega, hc1⟩, ?_⟩
 rintro m _ h2 ⟨ha, j, rfl, hjm, hcj⟩
 refine br_split (fun e => ?_) (fun e => ?_)
 · have hj : j < es.length := by
    have := of_decide_eq_true e
    omega
   obtain ⟨b, o, cs, rfl, hr, hrel⟩ := hA.get hj
   have ihj := ih _ (List.getElem_mem hj) _ hrel h2 (n + cntSs (es.drop (j + 1))) (ext_away hg hx01 ha) (by rw [cntSs_drop hj] at hcj; rwa [show n + cntSs (es.drop (j + 1)) + cntS es[j] = n + (cntS es[j] + cntSs (es.drop (j + 1))) by omega])
   have hr := row_ext (fun ob => ext_away hg hx01 ha b ob) hr
   have hb2 := ha _ _ hn1 hb1
   generalize es[j] = x at *
   match x, hrel with
   | .mk kd nm args body els pos, hrel =>
   obtain ⟨a1, c1, a2, c2, a3, c3, rfl, hA1, hA2, hA3⟩ := RS_iff.1 hrel
   refine ⟨b, o, rfl, ⟨by omega, by omega⟩, _, _, _, _, _, _, _, _, _, _, _, _, _, hr, ?_⟩
   refine T147 ?_
   unfold R147
   refine ⟨_, _, cell_of hb2 0, ?_⟩
   refine Tri.mono ihj ?_
   rintro _ h2 ⟨rfl, h3, h4⟩
   refine ⟨_, rfl, _, rfl, br_neg rfl ⟨m - 1, by omega, ⟨ha.trans h3, j + 1, ?_, by omega, h4⟩, trivial⟩⟩
   rw [wrap64 (by omega) (by omega)]; rfl
 · have : es.length ≤ j := by
    have := of_decide_eq_false e
    omega
   rw [List.drop_eq_nil_of_le this] at hcj
   exact ⟨rfl, ha, hcj⟩
theorem tstmt (hg : g cb = none) : ∀ k e, cntS e ≤ k → wfS e → TS s g cb e := by
 intro k
 induction k with
 | zero => intro e he; have := cntS_pos e; omega
 | succ k ih =>
   intro e he hw cs hrel h n hx hc
   match e, he, hw, hrel, hc with
   | .mk kd nm args body els pos, he, hw, hrel, hc =>
   obtain ⟨a1, c1, a2, c2, a3, c3, rfl, hA1, hA2, hA3⟩ := RS_iff.1 hrel
   simp only [cntS] at he hc
   have hih : ∀ e ∈ args, TE s g cb e := fun e hm => texpr hg _ e (Nat.le_refl _) (wfEs_iff.1 hw.2.1 e hm)
   have hih2 : ∀ e ∈ body, TS s g cb e := fun e hm => ih e (by have := cntSs_mem hm; omega) (wfSs_iff.1 hw.2.2.1 e hm)
   have hih3 : ∀ e ∈ els, TS s g cb e := fun e hm => ih e (by have := cntSs_mem hm; omega) (wfSs_iff.1 hw.2.2.2 e hm)
   refine T148 ?_
   unfold R148
   intro b1 hb1 h1 hh1
   have hn1 := ne_cb hc hb1
   have hx1 := Put.ext hh1 hb1
   refine ⟨_, _, cell_of (Put.at hh1) 0, ?_⟩
   refine Tri.mono (one_t (n := n + cntSs els + cntSs body + cntEs args) (by rw [show n + cntSs els + cntSs body + cntEs args + 1 = n + (cntEs args + cntSs body + cntSs els + 1) by omega]; exact cb_put hc hb1 hh1)) ?_
   rintro _ h2 ⟨rfl, ha2, hc2⟩
   have ha02 : Away cb h h2 := hx1.away.trans ha2
   have hb2 := ha2 _ _ hn1 (Put.at hh1)
   have hx2 := ext_away hg hx ha02
   refine ⟨_, rfl, br_neg rfl ?_⟩
   have leaf : Tri Tryz.prog 107 [vL a1 args.length c1, vF 176 [] [vP b1 0]] h2 fun v_5 h_6 => ∃ (c5 : Bool), v_5 = vB c5 ∧ br (!c5)
    (∃ (p5 o5 : Nat), h_6.cell b1 0 = some (vP p5 o5) ∧ Tri Tryz.prog 100 [vP p5 o5, vL a2 body.length c2] h_6 fun v_6 h_7 => ∃ (c6 : Bool), v_6 = vB c6 ∧ br c6
     (∃ (p6 o6 : Nat), h_7.cell b1 0 = some (vP p6 o6) ∧ Tri Tryz.prog 100 [vP p6 o6, vL a3 els.length c3] h_7 fun v_7 h_8 => ∃ (c7 : Bool), v_7 = vB c7 ∧ CP cb n h (vB c7) h_8)
     (CP cb n h (vB false) h_7))
    (CP cb n h (vB false) h_6) := by
    refine Tri.mono (texprs hg (.inr rfl) hih hA1 hx2 hn1 hb2 hc2) ?_
    rintro _ h3 ⟨rfl, h6, h7⟩
    have hb3 := h6 _ _ hn1 hb2
    have hx3 := ext_away hg hx2 h6
    refine ⟨_, rfl, br_pos rfl ⟨_, _, cell_of hb3 0, ?_⟩⟩
    refine Tri.mono (tstmts hg hih2 hA2 hx3 h7) ?_
    rintro _ h4 ⟨rfl, h8, h9⟩
    have hb4 := h8 _ _ hn1 hb3
    have hx4 := ext_away hg hx3 h8
    refine ⟨_, rfl, br_pos rfl ⟨_, _, cell_of hb4 0, ?_⟩⟩
    refine Tri.mono (tstmts hg hih3 hA3 hx4 h9) ?_
    rintro _ h5 ⟨rfl, h10, h11⟩
    exact ⟨_, rfl, rfl, ((ha02.trans h6).trans h8).trans h10, h11⟩
   have hsh := hw.1
   generalize args.length = na at *
   generalize body.length = nb at *
   generalize els.length = ne at *
   rcases hsh with ⟨hk, h0, rfl, rfl⟩ | ⟨hk, rfl, rfl, rfl⟩ | ⟨rfl, rfl, rfl, rfl⟩ | ⟨hk, rfl, rfl, rfl⟩ | ⟨rfl, rfl, rfl⟩ | ⟨rfl, rfl⟩
   · have : na = 0 ∨ na = 1 := by omega
     rcases hk with rfl | rfl <;> rcases this with rfl | rfl <;> (repeat first | with_reducible exact leaf | refine br_pos rfl ?_ | refine br_neg rfl ?_)
   · rcases hk with rfl | rfl <;> (repeat first | with_reducible exact leaf | refine br_pos rfl ?_ | refine br_neg rfl ?_)
   · (repeat first | with_reducible exact leaf | refine br_pos rfl ?_ | refine br_neg rfl ?_)
   · rcases hk with rfl | rfl <;> (repeat first | with_reducible exact leaf | refine br_pos rfl ?_ | refine br_neg rfl ?_)
   · (repeat first | with_reducible exact leaf | refine br_pos rfl ?_ | refine br_neg rfl ?_)
     refine br_split (fun _ => ?_) (fun _ => ?_) <;> (repeat first | with_reducible exact leaf | refine br_pos rfl ?_ | refine br_neg rfl ?_)
   · (repeat first | with_reducible exact leaf | refine br_pos rfl ?_ | refine br_neg rfl ?_)
     refine br_split (fun _ => ?_) (fun _ => ?_) <;> (repeat first | with_reducible exact leaf | refine br_pos rfl ?_ | refine br_neg rfl ?_) <;> refine br_split (fun _ => ?_) (fun _ => ?_) <;> (repeat first | with_reducible exact leaf | refine br_pos rfl ?_ | refine br_neg rfl ?_)
end
theorem tree_tri {s : Bytes} {h : PHeap} {p : Pg} (hw : ∀ f ∈ p.funcs, wfSs f.body) (hc : cntP p ≤ 4097) {ga fa : Option Addr} {gn gc fc : Nat} (hF : At 5 (RF (plP s) 8 7) h fa p.funcs) :
 Tri Tryz.prog 56 [vA [vL ga gn gc, vL fa p.funcs.length fc]] h fun v h' => v = vB true ∧ Ext h h' := by
 refine T56 ?_
 unfold R56
 intro b1 hb1 h1 hh1 b2 hb2 h2 hh2
 have hx1 := Put.ext hh1 hb1
 have hx2 := Put.ext hh2 hb2
 refine ⟨_, _, _, Put.at hh2, ⟨by simp, Nat.zero_le _⟩, ?_⟩
 intro h3 hh3
 have hne : b2 ≠ b1 := fun e => by subst e; rw [Put.at hh1] at hb2; cases hb2
 have hb3 : h3 b2 = some (.cells ⟨[vP b1 0]⟩ 127) := Put.at hh3
 have hx3 : Ext h h3 := fun k o hk => by
  rw [Put.chg hh3 k (fun e => by subst e; rw [hx1 _ _ hk] at hb2; cases hb2)]
  exact hx2 _ _ (hx1 _ _ hk)
 simp only [cntP] at hc
 have hlen := cntFs_len p.funcs
 have hcb : CB b1 4096 h3 := ⟨Nat.le_refl _, by rw [Put.chg hh3 _ hne.symm]; exact hx2 _ _ (Put.at hh1)⟩
 clear hh1 hh2 hh3 hb2 hx1 hx2
 generalize p.funcs = fs at *
 have hfc : cntFs fs ≤ 4096 + fs.length := by
  cases fs with
  | nil => simp [cntFs]
  | cons f fs => simp; omega
 refine T98 ?_
 unfold R98
 suffices hs : Tri Tryz.prog 145 [vL fa fs.length fc, vF 99 [] [vP b2 0]] h3 fun v h' => v = vI (-1) ∧ Ext h h' by
  refine Tri.mono hs ?_
  rintro _ h1 ⟨rfl, h2⟩
  exact ⟨_, rfl, _, rfl, rfl, h2⟩
 refine T145 ?_
 unfold R145
 refine ⟨fun m i h' => Away b1 h3 h' ∧ ∃ j n : Nat, i = j ∧ j + m = fs.length ∧ CB b1 n h' ∧ cntFs (fs.drop j) ≤ n + (fs.drop j).length, ⟨fs.length, Away.refl _ _, 0, 4096, rfl, by omega, hcb, hfc⟩, ?_⟩
 rintro m _ h4 ⟨ha, j, n, rfl, hjm, hcj, hn⟩
 have hx4 := ext_away hb1 hx3 ha
 refine br_split (fun e => ?_) (fun e => ⟨rfl, hx4⟩)
 have hj : j < fs.length := by
  have := of_decide_eq_true e
  omega
 obtain ⟨b, o, cs, rfl, hr, hrel⟩ := hF.get hj
 have hwj := hw _ (List.getElem_mem hj)
 rw [List.drop_eq_getElem_cons hj] at hn
 simp only [cntFs, List.length_cons] at hn
 generalize fs[j] = x at *
 obtain ⟨a1, c1, a2, c2, rfl, hP1, hB1, _⟩ := hrel
 simp only [cntF] at hn
 have hb4 := ha _ _ hne hb3
 refine ⟨b, o, rfl, ⟨by omega, by omega⟩, _, _, _, _, _, _, _, _, _, row_ext (fun ob => hx4 b ob) hr, ?_⟩
 refine T99 ?_
 unfold R99
 refine ⟨_, _, cell_of hb4 0, ?_⟩
 have := cntFs_len (fs.drop (j + 1))
 refine Tri.mono (tstmts hb1 (fun e he => tstmt hb1 _ e (Nat.le_refl _) (wfSs_iff.1 hwj e he)) hB1 (n := n - cntSs x.body) hx4 (by rw [show n - cntSs x.body + cntSs x.body = n by omega]; exact hcj)) ?_
 rintro _ h5 ⟨rfl, h6, h7⟩
 refine ⟨_, rfl, _, rfl, br_neg rfl ⟨m - 1, by omega, ⟨ha.trans h6, j + 1, _, ?_, by omega, h7, by omega⟩, trivial⟩⟩
 rw [wrap64 (by omega) (by omega)]; rfl
end Go.Proofs.D
namespace Go.Sx
theorem parseS_cl {PT : Tok → Prop} {PX : Nat → Prop} {PE : E → Prop} {PS : S → Prop} {PG : G → Prop} {PF : F → Prop} (C : ClP PT PX PE PS PG PF) {s : Bytes} (hT : ∀ ts, scanS s = .ok ts → ∀ t ∈ ts, PT t) {p : Pg} (h : parseS s = .ok p) : (∀ g ∈ p.globals, PG g) ∧ ∀ f ∈ p.funcs, PF f := by
 unfold parseS at h
 cases hsc : scanS s with
 | error e => rw [hsc] at h; cases h
 | ok ts =>
   have hp := pProg_rp C (20 * ts.length + 40) ⟨[], []⟩ ts 0 (fun g hg => by cases hg) (fun g hg => by cases hg) (hT _ hsc)
   rw [hsc] at h
   simp only at h
   cases hpp : pProg (20 * ts.length + 40) ⟨[], []⟩ ts 0 with
   | error e => rw [hpp] at h; cases h
   | ok q =>
     obtain ⟨p', ts', d'⟩ := q
     rw [hpp] at h
     cases h
     exact (hp.1 _ _ _ hpp).1
theorem wfCl : ClP (fun _ => True) (fun _ => True) wfE wfS (fun _ => True) (fun f => wfSs f.body) where
 toClS := wfClS
 g0 _ _ _ := trivial
 g1 _ _ _ _ _ _ := trivial
 g2 _ _ _ _ _ _ := trivial
 f1 _ _ b _ _ _ h := wfSs_iff.2 h
theorem parseS_wf {s : Bytes} {p : Pg} (h : parseS s = .ok p) : ∀ f ∈ p.funcs, wfSs f.body := (parseS_cl wfCl (fun _ _ _ _ => trivial) h).2
end Go.Sx
namespace Go.Sx
def Le0 {α : Type} (r r' : R α) : Prop := (∃ i, r = .error (0, i)) ∨ r = r'
theorem Le0.rf {α : Type} {r : R α} : Le0 r r := .inr rfl
theorem Le0.bind {α β : Type} {r r' : R α} {F F' : α → List Tok → Int → R β} (h : Le0 r r') (hF : ∀ x ts d, Le0 (F x ts d) (F' x ts d)) : Le0 (bindR r F) (bindR r' F') := by
 rcases h with ⟨i, rfl⟩ | rfl
 · exact .inl ⟨i, rfl⟩
 · match r with
   | .error e => exact .inr rfl
   | .ok (x, ts, d) => exact hF x ts d
theorem Le0.ite {α : Type} {c : Prop} [Decidable c] {a a' b b' : R α} (h1 : Le0 a a') (h2 : Le0 b b') : Le0 (if c then a else b) (if c then a' else b') := by
 split
 · exact h1
 · exact h2
structure MX (f g : Nat) : Prop where
 bin : ∀ lv ts d, Le0 (pBin f lv ts d) (pBin g lv ts d)
 loop : ∀ lv e ts d, Le0 (pLoop f lv e ts d) (pLoop g lv e ts d)
 un : ∀ ts d, Le0 (pUn f ts d) (pUn g ts d)
 prim : ∀ ts d, Le0 (pPrim f ts d) (pPrim g ts d)
 name : ∀ ts d, Le0 (pName f ts d) (pName g ts d)
 call : ∀ t ts d, Le0 (pCall f t ts d) (pCall g t ts d)
 args : ∀ ts d, Le0 (pArgs f ts d) (pArgs g ts d)
 more : ∀ l ts d, Le0 (pMore f l ts d) (pMore g l ts d)
theorem mx : ∀ f g, f ≤ g → MX f g
 | 0, g, _ => by constructor <;> intros <;> simp only [pBin, pLoop, pUn, pPrim, pName, pCall, pArgs, pMore] <;> exact .inl ⟨0, rfl⟩
 | f + 1, 0, h => by omega
 | f + 1, g + 1, h => by
   have ih := mx f g (by omega)
   constructor
   · intro lv ts d
     rw [pBin, pBin]
     exact Le0.ite (ih.un _ _) (Le0.bind (ih.bin _ _ _) fun _ _ _ => ih.loop _ _ _ _)
   · intro lv e ts d
     rw [pLoop, pLoop]
     exact Le0.ite (Le0.bind (ih.bin _ _ _) fun _ _ _ => ih.loop _ _ _ _) Le0.rf
   · intro ts d
     rw [pUn, pUn]
     exact Le0.ite (Le0.bind (ih.un _ _) fun _ _ _ => Le0.rf) (ih.prim _ _)
   · intro ts d
     rw [pPrim, pPrim]
     exact Le0.ite Le0.rf (Le0.ite Le0.rf (Le0.ite (ih.name _ _) (Le0.bind Le0.rf fun _ _ _ => Le0.bind (ih.bin _ _ _) fun _ _ _ => Le0.rf)))
   · intro ts d
     rw [pName, pName]
     exact Le0.ite (ih.call _ _ _) (Le0.ite (Le0.bind Le0.rf fun _ _ _ => Le0.bind (ih.bin _ _ _) fun _ _ _ => Le0.rf) Le0.rf)
   · intro t ts d
     rw [pCall, pCall]
     exact Le0.bind Le0.rf fun _ _ _ => Le0.bind (ih.args _ _) fun _ _ _ => Le0.rf
   · intro ts d
     rw [pArgs, pArgs]
     exact Le0.ite Le0.rf (Le0.bind (ih.bin _ _ _) fun _ _ _ => ih.more _ _ _)
   · intro l ts d
     rw [pMore, pMore]
     exact Le0.ite (Le0.bind Le0.rf fun _ _ _ => Le0.bind (ih.bin _ _ _) fun _ _ _ => ih.more _ _ _) Le0.rf
theorem pCond_m {f g : Nat} (h : f ≤ g) (ts : List Tok) (d : Int) : Le0 (pCond f ts d) (pCond g ts d) :=
 Le0.bind Le0.rf fun _ _ _ => Le0.bind ((mx f g h).bin _ _ _) fun _ _ _ => Le0.rf
structure MS (f g : Nat) : Prop where
 block : ∀ ts d, Le0 (pBlock f ts d) (pBlock g ts d)
 stmts : ∀ l ts d, Le0 (pStmts f l ts d) (pStmts g l ts d)
 stmt : ∀ ts d, Le0 (pStmt f ts d) (pStmt g ts d)
 ifs : ∀ ts d, Le0 (pIf f ts d) (pIf g ts d)
 named : ∀ ts d, Le0 (pNamed f ts d) (pNamed g ts d)
theorem ms : ∀ f g, f ≤ g → MS f g
 | 0, g, _ => by constructor <;> intros <;> simp only [pBlock, pStmts, pStmt, pIf, pNamed] <;> exact .inl ⟨0, rfl⟩
 | f + 1, 0, h => by omega
 | f + 1, g + 1, h => by
   have ih := ms f g (by omega)
   have ix := mx f g (by omega)
   have ic := fun ts d => pCond_m (f := f) (g := g) (by omega) ts d
   constructor
   · intro ts d
     rw [pBlock, pBlock]
     exact Le0.bind Le0.rf fun _ _ _ => ih.stmts _ _ _
   · intro l ts d
     rw [pStmts, pStmts]
     exact Le0.ite Le0.rf (Le0.bind (ih.stmt _ _) fun _ _ _ => ih.stmts _ _ _)
   · intro ts d
     rw [pStmt, pStmt]
     exact Le0.ite (ih.named _ _) (Le0.ite (Le0.bind Le0.rf fun _ _ _ => Le0.ite (Le0.bind Le0.rf fun _ _ _ => Le0.bind (ix.bin _ _ _) fun _ _ _ => Le0.rf) Le0.rf) (Le0.ite (ih.ifs _ _) (Le0.ite (Le0.bind (ic _ _) fun _ _ _ => Le0.bind (ih.block _ _) fun _ _ _ => Le0.rf) (Le0.ite (Le0.ite Le0.rf (Le0.bind (ix.bin _ _ _) fun _ _ _ => Le0.rf)) Le0.rf))))
   · intro ts d
     rw [pIf, pIf]
     exact Le0.bind (ic _ _) fun _ _ _ => Le0.bind (ih.block _ _) fun _ _ _ => Le0.ite (Le0.ite (Le0.bind (ih.ifs _ _) fun _ _ _ => Le0.rf) (Le0.bind (ih.block _ _) fun _ _ _ => Le0.rf)) Le0.rf
   · intro ts d
     rw [pNamed, pNamed]
     exact Le0.ite (Le0.bind Le0.rf fun _ _ _ => Le0.bind (ix.bin _ _ _) fun _ _ _ => Le0.rf) (Le0.ite (Le0.bind Le0.rf fun _ _ _ => Le0.bind (ix.bin _ _ _) fun _ _ _ => Le0.bind Le0.rf fun _ _ _ => Le0.bind Le0.rf fun _ _ _ => Le0.bind (ix.bin _ _ _) fun _ _ _ => Le0.rf) (Le0.bind (ix.call _ _ _) fun _ _ _ => Le0.rf))
theorem pMoreP_m : ∀ (f g : Nat) (l : List Bytes) (ts : List Tok) (d : Int), f ≤ g → Le0 (pMoreP f l ts d) (pMoreP g l ts d)
 | 0, g, l, ts, d, _ => by simp only [pMoreP]; exact .inl ⟨0, rfl⟩
 | f + 1, 0, l, ts, d, h => by omega
 | f + 1, g + 1, l, ts, d, h => by
   rw [pMoreP, pMoreP]
   exact Le0.ite (Le0.bind Le0.rf fun _ _ _ => Le0.bind Le0.rf fun _ _ _ => pMoreP_m f g _ _ _ (by omega)) Le0.rf
theorem pFunc_m {f g : Nat} (h : f ≤ g) (ts : List Tok) (d : Int) : Le0 (pFunc f ts d) (pFunc g ts d) :=
 Le0.bind Le0.rf fun _ _ _ => Le0.bind Le0.rf fun _ _ _ => Le0.bind Le0.rf fun _ _ _ => Le0.bind (by
  rw [pParams, pParams]
  exact Le0.ite Le0.rf (Le0.bind Le0.rf fun _ _ _ => pMoreP_m _ _ _ _ _ h)) fun _ _ _ => Le0.bind Le0.rf fun _ _ _ => Le0.bind ((ms f g h).block _ _) fun _ _ _ => Le0.rf
theorem pProg_m : ∀ (f g : Nat) (p : Pg) (ts : List Tok) (d : Int), f ≤ g → Le0 (pProg f p ts d) (pProg g p ts d)
 | 0, g, l, ts, d, _ => by simp only [pProg]; exact .inl ⟨0, rfl⟩
 | f + 1, 0, l, ts, d, h => by omega
 | f + 1, g + 1, l, ts, d, h => by
   rw [pProg, pProg]
   exact Le0.ite Le0.rf (Le0.ite (Le0.bind Le0.rf fun _ _ _ => pProg_m f g _ _ _ (by omega)) (Le0.bind (pFunc_m (by omega) _ _) fun _ _ _ => pProg_m f g _ _ _ (by omega)))
end Go.Sx
namespace Go.Sx
theorem lead_le (p : UInt8 → Bool) : ∀ (l : Bytes), lead p l ≤ l.length
 | [] => Nat.le_refl _
 | c :: l => by
   rw [lead]
   split
   · have := lead_le p l; rw [List.length_cons]; omega
   · omega
theorem lead_take {p : UInt8 → Bool} {w : UInt8} (hw : p w = false) (m : Bytes) : ∀ (l : Bytes), lead p (l.take (lead p l) ++ w :: m) = lead p l
 | [] => by simp [lead, hw]
 | c :: l => by
   by_cases h : p c = true
   · have e : lead p (c :: l) = lead p l + 1 := by rw [lead, if_pos h]
     rw [e, List.take_succ_cons, List.cons_append, lead, if_pos h, lead_take hw m l]
   · have e : lead p (c :: l) = 0 := by rw [lead, if_neg h]
     rw [e, List.take_zero, List.nil_append, lead, hw]; rfl
theorem charS_take {r : Bytes} {b : UInt8} {n : Nat} (h : charS r = .ok (b, n)) : 1 ≤ n ∧ n ≤ r.length ∧ ∀ m, charS (r.take n ++ m) = .ok (b, n) := by
 unfold charS at h
 repeat' split at h
 all_goals first
  | (exfalso; cases h; done)
  | (injection h with h; injection h with h1 h2; subst h1; subst h2; refine ⟨by omega, by simp, fun m => ?_⟩; simp_all [charS])
theorem strS_take : ∀ (f : Nat) (r : Bytes) (m : Bytes) (k : Nat), strS f r = .ok (m, k) → k < r.length ∧ r.drop k = 34 :: r.drop (k + 1) ∧ ∀ f' x, k < f' → strS f' (r.take k ++ 34 :: x) = .ok (m, k)
 | 0, r, m, k, h => by cases h
 | f + 1, [], m, k, h => by cases h
 | f + 1, c :: l, m, k, h => by
   rw [strS] at h
   split at h
   · rename_i hc
     have hc : c = 34 := by simpa using hc
     subst hc
     injection h with h; injection h with h1 h2; subst h1; subst h2
     refine ⟨by simp, rfl, fun f' x hf => ?_⟩
     obtain ⟨g, rfl⟩ : ∃ g, f' = g + 1 := ⟨f' - 1, by omega⟩
     rw [List.take_zero, List.nil_append, strS]; rfl
   · rename_i hc
     cases hch : charS (c :: l) with
     | error e =>
       obtain ⟨e1, e2⟩ := e
       rw [hch] at h
       split at h <;> first | (cases h; done) | simp_all
     | ok bn =>
       obtain ⟨b, n⟩ := bn
       rw [hch] at h
       obtain ⟨hn1, hn2, hn3⟩ := charS_take hch
       simp only at h
       cases hst : strS f ((c :: l).drop n) with
       | error e =>
         obtain ⟨e1, e2⟩ := e
         rw [hst] at h
         split at h <;> first | (cases h; done) | simp_all
       | ok mk =>
         obtain ⟨m', k'⟩ := mk
         rw [hst] at h
         injection h with h; injection h with h1 h2; subst h1; subst h2
         obtain ⟨i1, i2, i3⟩ := strS_take f _ _ _ hst
         rw [List.length_drop] at i1
         refine ⟨by omega, ?_, fun f' x hf => ?_⟩
         · rw [List.drop_drop, List.drop_drop] at i2
           rw [Nat.add_comm k' n, i2, Nat.add_assoc]
         · obtain ⟨g, rfl⟩ : ∃ g, f' = g + 1 := ⟨f' - 1, by omega⟩
           have e1 : (c :: l).take (k' + n) ++ 34 :: x = (c :: l).take n ++ (((c :: l).drop n).take k' ++ 34 :: x) := by
            rw [← List.append_assoc, Nat.add_comm k' n, List.take_add]
           have e2 : ∃ y, (c :: l).take (k' + n) ++ 34 :: x = c :: y := by
            obtain ⟨q, hq⟩ : ∃ q, k' + n = q + 1 := ⟨k' + n - 1, by omega⟩
            exact ⟨_, by rw [hq, List.take_succ_cons, List.cons_append]⟩
           obtain ⟨y, hy⟩ := e2
           have e3 : charS (c :: y) = .ok (b, n) := by rw [← hy, e1]; exact hn3 _
           have e4 : (c :: y).drop n = ((c :: l).drop n).take k' ++ 34 :: x := by
            rw [← hy, e1, List.drop_append_of_le_length (by rw [List.length_take]; omega), List.drop_eq_nil_of_le (by rw [List.length_take]; omega), List.nil_append]
           rw [hy, strS, if_neg hc, e3]
           simp only
           rw [e4, i3 g x (by omega)]
def isW (w : UInt8) : Prop := w = 32 ∨ w = 10 ∨ w = 9
theorem isW_al {w : UInt8} (h : isW w) : isAl w = false := by rcases h with rfl | rfl | rfl <;> rfl
theorem mark_w {c w : UInt8} (h : isW w) : marks.contains [c, w] = false := by
 rcases h with rfl | rfl | rfl <;> simp [marks]
theorem take_app {r m : Bytes} {n : Nat} (h : n ≤ r.length) : (r.take n ++ m).take n = r.take n := by
 rw [List.take_append_of_le_length (by rw [List.length_take]; omega), List.take_take, Nat.min_self]
theorem oneS_take {r : Bytes} {kd len v : Nat} {b : Bytes} (h : oneS r = .ok (kd, len, v, b)) : 1 ≤ len ∧ len ≤ r.length ∧ (∃ c l, r = c :: l ∧ ¬isW c ∧ (c = 47 → len = 1)) ∧ ∀ w m, isW w → oneS (r.take len ++ w :: m) = .ok (kd, len, v, b) := by
 match r, h with
 | c :: l, h =>
 by_cases hL : isLetter c = true
 · have hw : ¬isW c ∧ c ≠ 47 := ⟨fun hw => by (rcases hw with rfl | rfl | rfl <;> cases hL), fun hw => by (subst hw; cases hL)⟩
   have hk : ∃ q, lead isAl (c :: l) = q + 1 := ⟨_, by rw [lead, if_pos (by simp [isAl, hL])]⟩
   have hle := lead_le isAl (c :: l)
   have key : len = lead isAl (c :: l) ∧ ∀ w m, isW w → oneS ((c :: l).take (lead isAl (c :: l)) ++ w :: m) = .ok (kd, len, v, b) := by
    simp only [oneS, if_pos hL] at h
    have hlen : len = lead isAl (c :: l) := by
     repeat' split at h
     all_goals first | (cases h; done) | (cases h; rfl)
    refine ⟨hlen, fun w m hw => ?_⟩
    have e1 := lead_take (isW_al hw) m (c :: l)
    have e2 := take_app (m := w :: m) hle
    have hcons : ∃ y, (c :: l).take (lead isAl (c :: l)) ++ w :: m = c :: y := by
     obtain ⟨q, hq⟩ := hk
     exact ⟨_, by rw [hq, List.take_succ_cons, List.cons_append]⟩
    obtain ⟨y, hy⟩ := hcons
    rw [hy] at e1 e2 ⊢
    simp only [oneS, if_pos hL, e1, e2]
    exact h
   obtain ⟨q, hq⟩ := hk
   exact ⟨by omega, by omega, ⟨c, l, rfl, hw.1, fun e => absurd e hw.2⟩, by rw [key.1]; rw [key.1] at key; exact key.2⟩
 by_cases hD : isDigit c = true
 · have hw : ¬isW c ∧ c ≠ 47 := ⟨fun hw => by (rcases hw with rfl | rfl | rfl <;> cases hD), fun hw => by (subst hw; cases hD)⟩
   have hk : ∃ q, lead isAl (c :: l) = q + 1 := ⟨_, by rw [lead, if_pos (by simp [isAl, hD])]⟩
   have hle := lead_le isAl (c :: l)
   have key : len = lead isAl (c :: l) ∧ ∀ w m, isW w → oneS ((c :: l).take (lead isAl (c :: l)) ++ w :: m) = .ok (kd, len, v, b) := by
    simp only [oneS, if_neg hL, if_pos hD] at h
    have hlen : len = lead isAl (c :: l) := by
     repeat' split at h
     all_goals first | (cases h; done) | (cases h; rfl)
    refine ⟨hlen, fun w m hw => ?_⟩
    have e1 := lead_take (isW_al hw) m (c :: l)
    have e2 := take_app (m := w :: m) hle
    have hcons : ∃ y, (c :: l).take (lead isAl (c :: l)) ++ w :: m = c :: y := by
     obtain ⟨q, hq⟩ := hk
     exact ⟨_, by rw [hq, List.take_succ_cons, List.cons_append]⟩
    obtain ⟨y, hy⟩ := hcons
    rw [hy] at e1 e2 ⊢
    simp only [oneS, if_neg hL, if_pos hD, e1, e2]
    exact h
   obtain ⟨q, hq⟩ := hk
   exact ⟨by omega, by omega, ⟨c, l, rfl, hw.1, fun e => absurd e hw.2⟩, by rw [key.1]; rw [key.1] at key; exact key.2⟩
 by_cases h39 : (c == 39) = true
 · simp only [oneS, if_neg hL, if_neg hD, if_pos h39] at h
   have hc : c = 39 := by simpa using h39
   split at h
   · cases h
   rename_i hh
   cases hch : charS l with
   | error e =>
     obtain ⟨e1, e2⟩ := e
     rw [hch] at h
     split at h <;> first | (cases h; done) | simp_all
   | ok bn =>
     obtain ⟨b', n⟩ := bn
     rw [hch] at h
     obtain ⟨hn1, hn2, hn3⟩ := charS_take hch
     simp only at h
     cases hd : l.drop n with
     | nil => rw [hd] at h; cases h
     | cons d y =>
       rw [hd] at h
       simp only at h
       split at h
       · rename_i hd39
         have hd39 : d = 39 := by simpa using hd39
         subst hd39
         injection h with h; injection h with h1 h; injection h with h2 h; injection h with h3 h4
         subst h1; subst h2; subst h3; subst h4
         have hnl : n < l.length := by have := congrArg List.length hd; rw [List.length_drop, List.length_cons] at this; omega
         refine ⟨by omega, by rw [List.length_cons]; omega, ⟨c, l, rfl, fun hw => by (subst hc; rcases hw with hw | hw | hw <;> cases hw), fun e => by (subst hc; cases e)⟩, fun w m hw => ?_⟩
         have e1 : (c :: l).take (n + 2) ++ w :: m = c :: (l.take n ++ 39 :: w :: m) := by
          have : l.take (n + 1) = l.take n ++ [39] := by rw [List.take_add, hd]; rfl
          rw [List.take_succ_cons, this]; simp
         have e2 : (l.take n ++ 39 :: w :: m).head? = l.head? := by
          obtain ⟨q, rfl⟩ : ∃ q, n = q + 1 := ⟨n - 1, by omega⟩
          cases l with
          | nil => simp at hn2
          | cons a l => rfl
         have e3 : (l.take n ++ 39 :: w :: m).drop n = 39 :: w :: m := by
          rw [List.drop_append_of_le_length (by rw [List.length_take]; omega), List.drop_eq_nil_of_le (by rw [List.length_take]; omega), List.nil_append]
         rw [e1]
         simp only [oneS, if_neg hL, if_neg hD, if_pos h39, e2, if_neg hh, hn3, e3]
         rfl
       · cases h
 by_cases h34 : (c == 34) = true
 · simp only [oneS, if_neg hL, if_neg hD, if_neg h39, if_pos h34] at h
   have hc : c = 34 := by simpa using h34
   cases hst : strS (l.length + 1) l with
   | error e =>
     obtain ⟨e1, e2⟩ := e
     rw [hst] at h
     split at h <;> first | (cases h; done) | simp_all
   | ok mk =>
     obtain ⟨m', k⟩ := mk
     rw [hst] at h
     obtain ⟨hn1, hn2, hn3⟩ := strS_take _ _ _ _ hst
     simp only at h
     split at h
     · cases h
     rename_i h200
     injection h with h; injection h with h1 h; injection h with h2 h; injection h with h3 h4
     subst h1; subst h2; subst h3; subst h4
     refine ⟨by omega, by rw [List.length_cons]; omega, ⟨c, l, rfl, fun hw => by (subst hc; rcases hw with hw | hw | hw <;> cases hw), fun e => by (subst hc; cases e)⟩, fun w m hw => ?_⟩
     have e1 : (c :: l).take (k + 2) ++ w :: m = c :: (l.take k ++ 34 :: w :: m) := by
      have : l.take (k + 1) = l.take k ++ [34] := by rw [List.take_add, hn2]; rfl
      rw [List.take_succ_cons, this]; simp
     rw [e1]
     simp only [oneS, if_neg hL, if_neg hD, if_neg h39, if_pos h34]
     rw [hn3 _ _ (by rw [List.length_append, List.length_take]; omega)]
     simp only [if_neg h200]
 · simp only [oneS, if_neg hL, if_neg hD, if_neg h39, if_neg h34] at h
   have hw : ¬isW c := fun hw => by
    have e1 : marks.contains ((c :: l).take 2) = false := by
     cases l with
     | nil => rcases hw with rfl | rfl | rfl <;> rfl
     | cons d l => rcases hw with rfl | rfl | rfl <;> simp [marks]
    have e2 : marks.contains ((c :: l).take 1) = false := by rcases hw with rfl | rfl | rfl <;> rfl
    rw [if_neg (by rw [e1]; simp), if_neg (by rw [e2]; simp)] at h
    cases h
   by_cases m2 : marks.contains ((c :: l).take 2) = true
   · rw [if_pos m2] at h
     injection h with h; injection h with h1 h; injection h with h2 h; injection h with h3 h4
     subst h1; subst h2; subst h3; subst h4
     cases l with
     | nil =>
       refine ⟨by simp, by simp, ⟨c, [], rfl, hw, fun _ => rfl⟩, fun w m hw => ?_⟩
       have m1 : marks.contains [c] = true := m2
       have e : oneS (c :: w :: m) = .ok (5, 1, 0, []) := by
        simp only [oneS, if_neg hL, if_neg hD, if_neg h39, if_neg h34, List.take_succ_cons, List.take_zero, mark_w hw, m1]
        rfl
       exact e
     | cons d l =>
       have m2 : marks.contains [c, d] = true := m2
       refine ⟨by simp, by simp, ⟨c, d :: l, rfl, hw, fun e => ?_⟩, fun w m hw => ?_⟩
       · subst e; simp [marks] at m2
       · have e : oneS (c :: d :: w :: m) = .ok (5, 2, 0, []) := by
          simp only [oneS, if_neg hL, if_neg hD, if_neg h39, if_neg h34, List.take_succ_cons, List.take_zero, m2]
          rfl
         exact e
   · rw [if_neg m2] at h
     by_cases m1 : marks.contains ((c :: l).take 1) = true
     · rw [if_pos m1] at h
       injection h with h; injection h with h1 h; injection h with h2 h; injection h with h3 h4
       subst h1; subst h2; subst h3; subst h4
       refine ⟨Nat.le_refl _, by simp, ⟨c, l, rfl, hw, fun _ => rfl⟩, fun w m hw => ?_⟩
       have m1 : marks.contains [c] = true := m1
       have e : oneS (c :: w :: m) = .ok (5, 1, 0, []) := by
        simp only [oneS, if_neg hL, if_neg hD, if_neg h39, if_neg h34, List.take_succ_cons, List.take_zero, mark_w hw, m1]
        rfl
       exact e
     · rw [if_neg m1] at h; cases h
end Go.Sx
namespace Go.Sx
mutual
theorem E.ind {P : E → Prop} (h : ∀ k op nm v tx args pos, (∀ e ∈ args, P e) → P (.mk k op nm v tx args pos)) : ∀ e, P e
 | .mk k op nm v tx args pos => h k op nm v tx args pos (E.inds h args)
theorem E.inds {P : E → Prop} (h : ∀ k op nm v tx args pos, (∀ e ∈ args, P e) → P (.mk k op nm v tx args pos)) : ∀ (l : List E), ∀ e ∈ l, P e
 | [], e, he => by cases he
 | a :: l, e, he => by
   rcases List.mem_cons.1 he with he | he
   · rw [he]; exact E.ind h a
   · exact E.inds h l e he
end
mutual
theorem S.ind {P : S → Prop} (h : ∀ k nm args body els pos, (∀ e ∈ body, P e) → (∀ e ∈ els, P e) → P (.mk k nm args body els pos)) : ∀ e, P e
 | .mk k nm args body els pos => h k nm args body els pos (S.inds h body) (S.inds h els)
theorem S.inds {P : S → Prop} (h : ∀ k nm args body els pos, (∀ e ∈ body, P e) → (∀ e ∈ els, P e) → P (.mk k nm args body els pos)) : ∀ (l : List S), ∀ e ∈ l, P e
 | [], e, he => by cases he
 | a :: l, e, he => by
   rcases List.mem_cons.1 he with he | he
   · rw [he]; exact S.ind h a
   · exact S.inds h l e he
end
def digs (n : Nat) : Bytes := if n < 10 then [UInt8.ofNat (48 + n)] else digs (n / 10) ++ [UInt8.ofNat (48 + n % 10)]
termination_by n
decreasing_by omega
theorem dig_toNat {n : Nat} (h : n < 10) : (UInt8.ofNat (48 + n)).toNat = 48 + n := by
 rw [UInt8.toNat_ofNat']; omega
theorem dig_is {n : Nat} (h : n < 10) : isDigit (UInt8.ofNat (48 + n)) = true := by
 simp only [isDigit, dig_toNat h, Bool.and_eq_true, decide_eq_true_eq]; omega
theorem decNum_app (l : Bytes) (c : UInt8) : decNum (l ++ [c]) = 10 * decNum l + (c.toNat - 48) := by simp [decNum, List.foldl_append]
theorem digs_spec (n : Nat) : decNum (digs n) = n ∧ (digs n).all isDigit = true ∧ 1 ≤ (digs n).length ∧ (n ≠ 0 → (digs n).head? ≠ some 48) := by
 induction n using Nat.strongRecOn with
 | ind n ih =>
   rw [digs]
   split
   · rename_i hn
     refine ⟨?_, by rw [List.all_cons, dig_is hn]; rfl, by simp, fun h0 => ?_⟩
     · show 10 * 0 + ((UInt8.ofNat (48 + n)).toNat - 48) = n
       rw [dig_toNat hn]; omega
     · intro e
       simp only [List.head?_cons, Option.some.injEq] at e
       have := congrArg UInt8.toNat e
       rw [dig_toNat hn] at this
       have : (48 : UInt8).toNat = 48 := rfl
       omega
   · rename_i hn
     obtain ⟨i1, i2, i3, i4⟩ := ih (n / 10) (by omega)
     have hm : n % 10 < 10 := Nat.mod_lt _ (by decide)
     refine ⟨?_, ?_, by simp, fun h0 => ?_⟩
     · rw [decNum_app, i1, dig_toNat hm]; omega
     · rw [List.all_append, i2, List.all_cons, dig_is hm]; rfl
     · have h5 := i4 (by omega)
       cases hd : digs (n / 10) with
       | nil => rw [hd] at i3; simp at i3
       | cons a l => rw [hd] at h5; exact h5
theorem digs_zero : digs 0 = [48] := by rw [digs]; rfl
theorem digs_head (n : Nat) : ∃ c l, digs n = c :: l ∧ isDigit c = true := by
 obtain ⟨_, h2, h3, _⟩ := digs_spec n
 cases h : digs n with
 | nil => rw [h] at h3; simp at h3
 | cons c l => rw [h] at h2; simp only [List.all_cons, Bool.and_eq_true] at h2; exact ⟨c, l, rfl, h2.1⟩
theorem numS_digs {n : Nat} (h : n < 4294967296) : numS (digs n) = .ok n := by
 obtain ⟨h1, h2, h3, h4⟩ := digs_spec n
 unfold numS
 split
 · rename_i l e
   rw [e] at h2
   simp [isDigit] at h2
 · rw [h2, h1, if_neg, if_neg (by omega)]
   simp only [Bool.not_true, Bool.false_or, Bool.and_eq_true, decide_eq_true_eq, not_and]
   intro hl he
   by_cases h0 : n = 0
   · subst h0; rw [digs_zero] at hl; simp at hl
   · exact h4 h0 (by simpa using he)
theorem isAl_digit {c : UInt8} (h : isDigit c = true) : isAl c = true := by simp [isAl, h]
theorem not_letter {c : UInt8} (h : isDigit c = true) : isLetter c = false := by
 simp only [isDigit, Bool.and_eq_true, decide_eq_true_eq] at h
 simp only [isLetter, Bool.or_eq_false_iff, Bool.and_eq_false_iff, decide_eq_false_iff_not, beq_eq_false_iff_ne]
 omega
theorem lead_all {p : UInt8 → Bool} {x : Bytes} (hx : ∀ c m, x = c :: m → p c = false) : ∀ (l : Bytes), l.all p = true → lead p (l ++ x) = l.length
 | [], _ => by
   cases x with
   | nil => rfl
   | cons c m => rw [List.nil_append, lead, hx c m rfl]; rfl
 | c :: l, h => by
   simp only [List.all_cons, Bool.and_eq_true] at h
   rw [List.cons_append, lead, if_pos h.1, lead_all hx l h.2]; rfl
def hexD (n : Nat) : UInt8 := UInt8.ofNat (if n < 10 then 48 + n else 87 + n)
def qc (c : UInt8) : Bytes :=
 if c == 10 then [92, 110] else if c == 9 then [92, 116] else if c == 0 then [92, 48] else if c == 92 || c == 34 then [92, c]
 else if decide (c.toNat < 32) || decide (126 < c.toNat) then [92, 120, hexD (c.toNat / 16), hexD (c.toNat % 16)] else [c]
def qcs : Bytes → Bytes
 | [] => []
 | c :: l => qc c ++ qcs l
def quoteS (s : Bytes) : Bytes := 34 :: (qcs s ++ [34])
theorem hex_all : ∀ n : Fin 256, isHex (hexD (n.val / 16)) = true ∧ isHex (hexD (n.val % 16)) = true ∧ 16 * hexV (hexD (n.val / 16)) + hexV (hexD (n.val % 16)) = n.val := by decide +kernel
theorem qc_char (c : UInt8) (m : Bytes) : charS (qc c ++ m) = .ok (c, (qc c).length) ∧ (∃ a l, qc c = a :: l ∧ (a == 34) = false) := by
 unfold qc
 split
 · rename_i h; obtain rfl : c = 10 := by simpa using h
   exact ⟨rfl, _, _, rfl, rfl⟩
 split
 · rename_i h; obtain rfl : c = 9 := by simpa using h
   exact ⟨rfl, _, _, rfl, rfl⟩
 split
 · rename_i h; obtain rfl : c = 0 := by simpa using h
   exact ⟨rfl, _, _, rfl, rfl⟩
 split
 · rename_i h
   have h : c = 92 ∨ c = 34 := by simpa using h
   rcases h with rfl | rfl
   · exact ⟨rfl, _, _, rfl, rfl⟩
   · exact ⟨rfl, _, _, rfl, rfl⟩
 rename_i h92
 have h92 : c ≠ 92 ∧ c ≠ 34 := by simpa using h92
 split
 · have hx := hex_all ⟨c.toNat, c.toNat_lt⟩
   refine ⟨?_, _, _, rfl, rfl⟩
   simp only [List.cons_append, List.nil_append, charS, hx.1, hx.2.1, hx.2.2, Bool.not_true]
   simp
 · rename_i hp
   refine ⟨?_, _, _, rfl, by simpa using h92.2⟩
   rw [List.cons_append, charS]
   · rw [if_neg hp]; rfl
   · intro e
     exact h92.1 e
theorem strS_qcs (m : Bytes) : ∀ (s : Bytes) (f : Nat), (qcs s).length < f → strS f (qcs s ++ 34 :: m) = .ok (s, (qcs s).length)
 | [], f, h => by
   obtain ⟨g, rfl⟩ : ∃ g, f = g + 1 := ⟨f - 1, by omega⟩
   rw [qcs, List.nil_append, strS]; rfl
 | c :: s, f, h => by
   obtain ⟨g, rfl⟩ : ∃ g, f = g + 1 := ⟨f - 1, by omega⟩
   obtain ⟨h1, a, l, h2, h3⟩ := qc_char c (qcs s ++ 34 :: m)
   rw [qcs, List.append_assoc]
   have hl : (qc c).length = l.length + 1 := by rw [h2]; rfl
   have hd : (qc c ++ (qcs s ++ 34 :: m)).drop (qc c).length = qcs s ++ 34 :: m := by rw [List.drop_append_of_le_length (Nat.le_refl _), List.drop_length, List.nil_append]
   rw [qcs, List.length_append] at h
   have ih := strS_qcs m s g (by omega)
   generalize hy : qc c ++ (qcs s ++ 34 :: m) = y at *
   obtain ⟨y', rfl⟩ : ∃ y', y = a :: y' := ⟨_, by rw [← hy, h2, List.cons_append]⟩
   rw [strS, if_neg (by rw [h3]; simp), h1]
   simp only
   rw [hd, ih, List.length_append, Nat.add_comm]
inductive Lx : Bytes → List Tok → Prop where
 | nil : Lx [] []
 | blank {c : UInt8} {x : Bytes} {a : List Tok} : isW c → Lx x a → Lx (c :: x) a
 | tok {w x : Bytes} {a : List Tok} {kd v : Nat} {b : Bytes} : oneS (w ++ x) = .ok (kd, w.length, v, b) → skipN false (w ++ x) = 0 → Lx x a → Lx (w ++ x) (⟨kd, w, v, b, 0⟩ :: a)
theorem skip_w {c : UInt8} (h : isW c) (x : Bytes) : skipN false (c :: x) = skipN false x + 1 := by rcases h with rfl | rfl | rfl <;> rfl
theorem Lx.scan : ∀ {x : Bytes} {a : List Tok}, Lx x a → ∀ (f k o : Nat), x.length < f → k + a.length ≤ 4096 → ∃ us, scanL f k x o = .ok us ∧ us.map zT = a ++ [⟨0, [], 0, [], 0⟩] := by
 intro x a hx
 induction hx with
 | nil =>
   intro f k o hf hk
   obtain ⟨g, rfl⟩ : ∃ g, f = g + 1 := ⟨f - 1, by omega⟩
   exact ⟨_, rfl, rfl⟩
 | @blank c x a hc _ ih =>
   intro f k o hf hk
   obtain ⟨g, rfl⟩ : ∃ g, f = g + 1 := ⟨f - 1, by omega⟩
   obtain ⟨us, h1, h2⟩ := ih (g + 1) k (o + 1) (by rw [List.length_cons] at hf; omega) hk
   refine ⟨us, ?_, h2⟩
   rw [← h1]
   simp only [scanL, skip_w hc, List.drop_succ_cons]
   have : o + (skipN false x + 1) = o + 1 + skipN false x := by omega
   rw [this]
 | @tok w x a kd v b h1 h2 _ ih =>
   intro f k o hf hk
   obtain ⟨g, rfl⟩ : ∃ g, f = g + 1 := ⟨f - 1, by omega⟩
   rw [List.length_cons] at hk
   obtain ⟨g1, g2, ⟨c, l, hcl, _⟩, _⟩ := oneS_take h1
   rw [List.length_append] at hf
   obtain ⟨us, i1, i2⟩ := ih g (k + 1) (o + w.length) (by omega) (by omega)
   refine ⟨⟨kd, w, v, b, o⟩ :: us, ?_, by rw [List.map_cons, i2]; rfl⟩
   have e1 : (w ++ x).drop w.length = x := by rw [List.drop_append_of_le_length (Nat.le_refl _), List.drop_length, List.nil_append]
   have e2 : (w ++ x).take w.length = w := by rw [List.take_append_of_le_length (Nat.le_refl _), List.take_length]
   generalize w ++ x = y at *
   subst hcl
   simp only [scanL, h2, List.drop_zero, Nat.add_zero, h1, e1, e2, i1]
   rw [if_neg (by omega)]
end Go.Sx
namespace Go.Proofs.D
open Go Go.Den
set_option maxRecDepth 100000
set_option maxHeartbeats 4000000
abbrev o109_3 : Op := .call { callee := (.builtin .append), args := #[(.tmp 26), (.tmp 27)], argTypes := #[45, 45] }
abbrev o109_5 : Op := .call { callee := (.builtin .append), args := #[(.tmp 32), (.tmp 33)], argTypes := #[45, 45] }
abbrev o109_7 : Op := .call { callee := (.builtin .append), args := #[(.tmp 38), (.tmp 39)], argTypes := #[45, 45] }
abbrev o109_10 : Op := .call { callee := (.builtin .append), args := #[(.tmp 48), (.tmp 50)], argTypes := #[45, 45] }
abbrev o109_15 : Op := .call { callee := (.builtin .append), args := #[(.tmp 59), (.tmp 66)], argTypes := #[45, 45] }
abbrev o109_16 : Op := .call { callee := (.builtin .append), args := #[(.tmp 19), (.tmp 21)], argTypes := #[45, 45] }
abbrev o109_18 : Op := .call { callee := (.builtin .append), args := #[(.tmp 69), (.tmp 70)], argTypes := #[45, 45] }
noncomputable def d109 : DCode := up ⟨[(28, .c (.one false [.slice])), (34, .c (.one false [.slice])), (40, .c (.one false [.slice])), (51, .c (.one false [.slice])), (67, .c (.one false [.slice])), (22, .c (.one false [.slice])), (71, .c (.one false [.slice]))], [], [(14, 59, [(4, .slice), (13, qi)], [])]⟩ (low Tryz.prog (fun _ => false) (Tryz.f109.body.getD .skip))
theorem low109 : low Tryz.prog (fun _ => false) (Tryz.f109.body.getD .skip) = some (eC d109) := by kernel_rfl
def R109 (l1 : Bs) (h : PHeap) (Q : Value → PHeap → Prop) : Prop :=
 br (decide ((l1.length : Int) > 200))
 (Q (vT [vS [], vI 5]) h)
 (∀ (b1 : Nat), h b1 = none → ∀ (h_1 : PHeap), h_1 = h.put b1 (.cells ⟨[vU 34]⟩ 5) →
 ∃ (I_1 : Nat → OA → Nat → Nat → Int → PHeap → Prop), (∃ (m2 : Nat), I_1 m2 (ad b1 0) 1 1 (0 : Int) h_1) ∧
 ∀ (m1 : Nat) (a1 : OA) (n1 : Nat) (k1 : Nat) (i1 : Int) (h_2 : PHeap), I_1 m1 a1 n1 k1 i1 h_2 →
 br (decide (i1 < (l1.length : Int)))
 (0 ≤ i1 ∧ ∃ (c1 : UInt8), (l1)[(i1).toNat]? = some c1 ∧
 br ((c1.toNat : Int) == 10)
 (∀ (b2 : Nat), h_2 b2 = none → ∀ (h_3 : PHeap), h_3 = h_2.put b2 (.cells ⟨[vU 92, vU 110]⟩ 5) →
 Raw Tryz.prog (execOp (rho [(26, vL a1 n1 k1), (27, vL (ad b2 0) 2 2)]) (mkO o109_3 45)) h_3 fun v_1 h_4 =>
 ∃ (a2 : OA) (n2 k2 : Nat), v_1 = vL a2 n2 k2 ∧
 ∃ (m3 : Nat), m3 < m1 ∧ I_1 m3 a2 n2 k2 (IntKind.i64.wrap (i1 + 1)) h_4 ∧
 True)
 (br ((c1.toNat : Int) == 9)
 (∀ (b3 : Nat), h_2 b3 = none → ∀ (h_5 : PHeap), h_5 = h_2.put b3 (.cells ⟨[vU 92, vU 116]⟩ 5) →
 Raw Tryz.prog (execOp (rho [(32, vL a1 n1 k1), (33, vL (ad b3 0) 2 2)]) (mkO o109_5 45)) h_5 fun v_2 h_6 =>
 ∃ (a3 : OA) (n3 k3 : Nat), v_2 = vL a3 n3 k3 ∧
 ∃ (m4 : Nat), m4 < m1 ∧ I_1 m4 a3 n3 k3 (IntKind.i64.wrap (i1 + 1)) h_6 ∧
 True)
 (br ((c1.toNat : Int) == 0)
 (∀ (b4 : Nat), h_2 b4 = none → ∀ (h_7 : PHeap), h_7 = h_2.put b4 (.cells ⟨[vU 92, vU 48]⟩ 5) →
 Raw Tryz.prog (execOp (rho [(38, vL a1 n1 k1), (39, vL (ad b4 0) 2 2)]) (mkO o109_7 45)) h_7 fun v_3 h_8 =>
 ∃ (a4 : OA) (n4 k4 : Nat), v_3 = vL a4 n4 k4 ∧
 ∃ (m5 : Nat), m5 < m1 ∧ I_1 m5 a4 n4 k4 (IntKind.i64.wrap (i1 + 1)) h_8 ∧
 True)
 (br ((c1.toNat : Int) == 92)
 (∀ (b5 : Nat), h_2 b5 = none → ∀ (h_9 : PHeap), h_9 = h_2.put b5 (.cells ⟨[vU 92, vU (c1.toNat : Int)]⟩ 5) →
 Raw Tryz.prog (execOp (rho [(48, vL a1 n1 k1), (50, vL (ad b5 0) 2 2)]) (mkO o109_10 45)) h_9 fun v_4 h_10 =>
 ∃ (a5 : OA) (n5 k5 : Nat), v_4 = vL a5 n5 k5 ∧
 ∃ (m6 : Nat), m6 < m1 ∧ I_1 m6 a5 n5 k5 (IntKind.i64.wrap (i1 + 1)) h_10 ∧
 True)
 (br ((c1.toNat : Int) == 34)
 (∀ (b6 : Nat), h_2 b6 = none → ∀ (h_11 : PHeap), h_11 = h_2.put b6 (.cells ⟨[vU 92, vU (c1.toNat : Int)]⟩ 5) →
 Raw Tryz.prog (execOp (rho [(48, vL a1 n1 k1), (50, vL (ad b6 0) 2 2)]) (mkO o109_10 45)) h_11 fun v_5 h_12 =>
 ∃ (a6 : OA) (n6 k6 : Nat), v_5 = vL a6 n6 k6 ∧
 ∃ (m7 : Nat), m7 < m1 ∧ I_1 m7 a6 n6 k6 (IntKind.i64.wrap (i1 + 1)) h_12 ∧
 True)
 (br (decide ((c1.toNat : Int) < 32))
 (0 ≤ (Int.fdiv (c1.toNat : Int) 16) ∧ ∃ (c2 : UInt8), ([48, 49, 50, 51, 52, 53, 54, 55, 56, 57, 97, 98, 99, 100, 101, 102] : List UInt8)[(Int.fdiv (c1.toNat : Int) 16).toNat]? = some c2 ∧
 0 ≤ (IntKind.u8.wrap ((BitVec.ofInt 8 (c1.toNat : Int) &&& BitVec.ofInt 8 15).toNat : Int)) ∧ ∃ (c3 : UInt8), ([48, 49, 50, 51, 52, 53, 54, 55, 56, 57, 97, 98, 99, 100, 101, 102] : List UInt8)[(IntKind.u8.wrap ((BitVec.ofInt 8 (c1.toNat : Int) &&& BitVec.ofInt 8 15).toNat : Int)).toNat]? = some c3 ∧
 ∀ (b7 : Nat), h_2 b7 = none → ∀ (h_13 : PHeap), h_13 = h_2.put b7 (.cells ⟨[vU 92, vU 120, vU (c2.toNat : Int), vU (c3.toNat : Int)]⟩ 5) →
 Raw Tryz.prog (execOp (rho [(59, vL a1 n1 k1), (66, vL (ad b7 0) 4 4)]) (mkO o109_15 45)) h_13 fun v_6 h_14 =>
 ∃ (a7 : OA) (n7 k7 : Nat), v_6 = vL a7 n7 k7 ∧
 ∃ (m8 : Nat), m8 < m1 ∧ I_1 m8 a7 n7 k7 (IntKind.i64.wrap (i1 + 1)) h_14 ∧
 True)
 (br (decide ((c1.toNat : Int) > 126))
 (0 ≤ (Int.fdiv (c1.toNat : Int) 16) ∧ ∃ (c4 : UInt8), ([48, 49, 50, 51, 52, 53, 54, 55, 56, 57, 97, 98, 99, 100, 101, 102] : List UInt8)[(Int.fdiv (c1.toNat : Int) 16).toNat]? = some c4 ∧
 0 ≤ (IntKind.u8.wrap ((BitVec.ofInt 8 (c1.toNat : Int) &&& BitVec.ofInt 8 15).toNat : Int)) ∧ ∃ (c5 : UInt8), ([48, 49, 50, 51, 52, 53, 54, 55, 56, 57, 97, 98, 99, 100, 101, 102] : List UInt8)[(IntKind.u8.wrap ((BitVec.ofInt 8 (c1.toNat : Int) &&& BitVec.ofInt 8 15).toNat : Int)).toNat]? = some c5 ∧
 ∀ (b8 : Nat), h_2 b8 = none → ∀ (h_15 : PHeap), h_15 = h_2.put b8 (.cells ⟨[vU 92, vU 120, vU (c4.toNat : Int), vU (c5.toNat : Int)]⟩ 5) →
 Raw Tryz.prog (execOp (rho [(59, vL a1 n1 k1), (66, vL (ad b8 0) 4 4)]) (mkO o109_15 45)) h_15 fun v_7 h_16 =>
 ∃ (a8 : OA) (n8 k8 : Nat), v_7 = vL a8 n8 k8 ∧
 ∃ (m9 : Nat), m9 < m1 ∧ I_1 m9 a8 n8 k8 (IntKind.i64.wrap (i1 + 1)) h_16 ∧
 True)
 (∀ (b9 : Nat), h_2 b9 = none → ∀ (h_17 : PHeap), h_17 = h_2.put b9 (.cells ⟨[vU (c1.toNat : Int)]⟩ 5) →
 Raw Tryz.prog (execOp (rho [(19, vL a1 n1 k1), (21, vL (ad b9 0) 1 1)]) (mkO o109_16 45)) h_17 fun v_8 h_18 =>
 ∃ (a9 : OA) (n9 k9 : Nat), v_8 = vL a9 n9 k9 ∧
 ∃ (m10 : Nat), m10 < m1 ∧ I_1 m10 a9 n9 k9 (IntKind.i64.wrap (i1 + 1)) h_18 ∧
 True))))))))
 (∀ (b10 : Nat), h_2 b10 = none → ∀ (h_19 : PHeap), h_19 = h_2.put b10 (.cells ⟨[vU 34]⟩ 5) →
 Raw Tryz.prog (execOp (rho [(69, vL a1 n1 k1), (70, vL (ad b10 0) 1 1)]) (mkO o109_18 45)) h_19 fun v_9 h_20 =>
 ∃ (a10 : OA) (n10 k10 : Nat), v_9 = vL a10 n10 k10 ∧
 ∃ (l2 : Bs), BytesAt h_20 a10 n10 l2 ∧
 Q (vT [vS l2, vI 0]) h_20))
theorem T109 {l1 : Bs} {h : PHeap} {Q : Value → PHeap → Prop} (hR : R109 l1 h Q) : Tri Tryz.prog 109 [vS l1] h Q :=
 tri_of_dn mixed Tryz.func109 rfl (by kernel_rfl) low109 (rs := [.tmp 2, .tmp 3]) (by kernel_rfl) rfl (Eq.mpr (by kernel_rfl : dnF Tryz.prog Tryz.f109.ntmps d109 [.tmp 2, .tmp 3] [vS l1] h Q = R109 l1 h Q) hR)
end Go.Proofs.D
namespace Go.Proofs.D
open Go Go.Den Go.Sx
set_option maxRecDepth 100000
theorem and15 : ∀ c : Fin 256, IntKind.u8.wrap ((BitVec.ofInt 8 (c.val : Int) &&& BitVec.ofInt 8 15).toNat : Int) = ((c.val % 16 : Nat) : Int) := by decide +kernel
theorem hexl : ∀ r : Fin 16, ([48, 49, 50, 51, 52, 53, 54, 55, 56, 57, 97, 98, 99, 100, 101, 102] : List UInt8)[r.val]? = some (hexD r.val) := by decide +kernel
attribute [local irreducible] IntKind.wrap Tri
theorem und45 : Tryz.prog.underlying 45 = some (.slice 5) := rfl
theorem elem5 : ElemT 5 1 := ⟨_, _, rfl, rfl, rfl, rfl, by decide⟩
structure OB (h0 h : PHeap) (a : OA) (n k : Nat) (l : Bytes) : Prop where
 own : Own h 5 1 (vL a n k) n (l.map byteV)
 new : ∀ b, a = ad b 0 → h0 b = none
 ext : Ext h0 h
theorem OB.len {h0 h : PHeap} {a : OA} {n k : Nat} {l : Bytes} (hb : OB h0 h a n k l) : n = l.length := by have := hb.own.1; simp at this; omega
theorem OB.put {h0 h h' : PHeap} {a : OA} {n k b : Nat} {l : Bytes} {o : Obj} (hb : OB h0 h a n k l) (hn : h b = none) (hh : h' = h.put b o) : OB h0 h' a n k l := by
 refine ⟨Own.keep (fun q hq => ?_) hb.own, hb.new, hb.ext.trans (Put.ext hh hn)⟩
 rcases hb.own.2 with ⟨h1, _⟩ | ⟨b', cap, rest, h1, h2, _⟩
 · injection h1 with h1; rw [hq] at h1; cases h1
 · injection h1 with h1; rw [hq] at h1; injection h1 with h1; injection h1 with h1; subst h1
   rw [Put.ext hh hn _ _ h2, h2]
theorem allOne_bytes : ∀ (l : Bytes), allOne (l.map byteV) = true
 | [] => rfl
 | c :: l => by simp only [List.map_cons, allOne, allOne_bytes l, Bool.and_true]; rfl
theorem OB.append {h0 h h' : PHeap} {a : OA} {n k b2 : Nat} {l m : Bytes} {ty : TypeId} (hb : OB h0 h a n k l) (hn : h b2 = none) (hh : h' = h.put b2 (.cells ⟨m.map byteV⟩ 5 (0, 0))) (hm : 1 ≤ m.length) (hl : n ≤ 10000000) (hl2 : m.length ≤ 1000)
 {ρ : Operand → Value} {cl : Call} {x y : Operand} (hcl : cl.callee = .builtin .append) (hca : cl.args = #[x, y]) (hts : cl.argTypes = #[45, 45]) (hx : ρ x = vL a n k) (hy : ρ y = vL (ad b2 0) m.length m.length) :
 Raw Tryz.prog (execOp ρ (mkO (.call cl) ty)) h' fun v h2 => ∃ a' n' k', v = vL a' n' k' ∧ OB h0 h2 a' n' k' (l ++ m) := by
 obtain ⟨i, z, hi, hz, hzc, hk, hby⟩ := elem5
 have hb1 := hb.put hn hh
 have hbk : h' b2 = some (.cells ⟨m.map byteV⟩ 5 (0, 0)) := Put.at hh
 have hsrc : SrcH Tryz.prog h' i.size 45 (vL (ad b2 0) m.length m.length) m.length (m.map byteV) := SrcH.row und45 (by simp [hk]) (row_lit hbk fun j v hj => by simpa using hj) (allOne_bytes m)
 have hbig : (16 * (n + m.length) + 16384) * i.bytes ≤ 281474976710656 := by
  have : (16 * (n + m.length) + 16384) * i.bytes ≤ (16 * (n + m.length) + 16384) * 200 := Nat.mul_le_mul_left _ hby
  omega
 refine Raw.mono (raw_append hcl hca hts und45 hi hz hx hy (by rw [hk]; exact hb1.own) hsrc (by rw [hzc, hk]) hm hbig (by omega)) ?_
 rintro v h2 ⟨b, cap, rest, rfl, rfl, hr, hcap, hor⟩
 have hnew : h0 b = none := by
  rcases hor with hor | ⟨c, hor⟩
  · cases e : h0 b with
    | none => rfl
    | some o => rw [hb1.ext _ _ e] at hor; cases hor
  · injection hor with h1; exact hb1.new b h1
 refine ⟨_, _, _, rfl, ⟨?_, .inr ⟨b, cap, rest, rfl, ?_, by rw [hr, hk], hcap⟩⟩, fun q hq => ?_, fun q o hq => ?_⟩
 · have := hb.len; simp; omega
 · rw [put_same, List.map_append]
 · injection hq with hq; injection hq with hq; subst hq; exact hnew
 · have hqb : q ≠ b := fun e => by subst e; rw [hnew] at hq; cases hq
   rw [put_ne hqb]; exact hb1.ext _ _ hq
theorem OB.bytes {h0 h : PHeap} {a : OA} {n k : Nat} {l : Bytes} (hb : OB h0 h a n k l) (hl : 1 ≤ n) : BytesAt h a n l := by
 right
 rcases hb.own.2 with ⟨_, h1⟩ | ⟨b', cap, rest, h1, h2, _⟩
 · omega
 · injection h1 with h1 h3
   subst h1
   exact ⟨b', 0, rfl, hb.len.symm, row_lit h2 fun j v hj => by
    rw [Nat.zero_add, List.getElem?_append_left (List.getElem?_eq_some_iff.1 hj).1]; exact hj⟩
theorem qcs_app : ∀ (l m : Bytes), qcs (l ++ m) = qcs l ++ qcs m
 | [], m => rfl
 | c :: l, m => by rw [List.cons_append, qcs, qcs, qcs_app l m, List.append_assoc]
theorem qcs_len4 : ∀ (l : Bytes), (qcs l).length ≤ 4 * l.length
 | [] => Nat.le_refl _
 | c :: l => by
   have h1 : (qc c).length ≤ 4 := by
    unfold qc
    repeat' split
    all_goals simp
   have := qcs_len4 l
   rw [qcs, List.length_append, List.length_cons]; omega
theorem u8_beq (c d : UInt8) : ((c.toNat : Int) == (d.toNat : Int)) = (c == d) := by
 rw [Bool.eq_iff_iff, beq_iff_eq, beq_iff_eq]
 constructor
 · intro h; exact UInt8.toNat_inj.1 (by omega)
 · rintro rfl; rfl
theorem hex_ok (c : UInt8) : (0 ≤ (Int.fdiv (c.toNat : Int) 16) ∧ ([48, 49, 50, 51, 52, 53, 54, 55, 56, 57, 97, 98, 99, 100, 101, 102] : List UInt8)[(Int.fdiv (c.toNat : Int) 16).toNat]? = some (hexD (c.toNat / 16))) ∧
 0 ≤ (IntKind.u8.wrap ((BitVec.ofInt 8 (c.toNat : Int) &&& BitVec.ofInt 8 15).toNat : Int)) ∧ ([48, 49, 50, 51, 52, 53, 54, 55, 56, 57, 97, 98, 99, 100, 101, 102] : List UInt8)[(IntKind.u8.wrap ((BitVec.ofInt 8 (c.toNat : Int) &&& BitVec.ofInt 8 15).toNat : Int)).toNat]? = some (hexD (c.toNat % 16)) := by
 have hc := c.toNat_lt
 have e1 : Int.fdiv (c.toNat : Int) 16 = ((c.toNat / 16 : Nat) : Int) := by rw [Int.fdiv_eq_ediv_of_nonneg _ (by decide)]; rfl
 have e2 := and15 ⟨c.toNat, hc⟩
 simp only at e2
 rw [e1, e2, Int.toNat_natCast, Int.toNat_natCast]
 exact ⟨⟨by omega, hexl ⟨c.toNat / 16, by omega⟩⟩, by omega, hexl ⟨c.toNat % 16, by omega⟩⟩
theorem quote_t (s : Bytes) (hl : s.length ≤ 200) (h : PHeap) : Tri Tryz.prog 109 [vS s] h fun v h' => v = vT [vS (quoteS s), vI 0] ∧ Ext h h' := by
 refine T109 ?_
 unfold R109
 refine br_neg (by simp; omega) ?_
 intro b1 hb1 h1 hh1
 have hb0 : OB h h1 (ad b1 0) 1 1 [34] := ⟨⟨rfl, .inr ⟨b1, 1, [], rfl, Put.at hh1, rfl, Nat.le_refl _⟩⟩, fun q hq => by injection hq with hq; injection hq with hq; subst hq; exact hb1, Put.ext hh1 hb1⟩
 refine ⟨fun m a n k i h' => ∃ j : Nat, i = j ∧ j + m = s.length ∧ OB h h' a n k (34 :: qcs (s.take j)), ⟨s.length, 0, rfl, by omega, hb0⟩, ?_⟩
 rintro m a n k _ h2 ⟨j, rfl, hjm, hb2⟩
 have hn := hb2.len
 have h4 := qcs_len4 (s.take j)
 rw [List.length_take] at h4
 rw [List.length_cons] at hn
 refine br_split (fun e => ?_) (fun e => ?_)
 · have hj : j < s.length := by have := of_decide_eq_true e; omega
   refine ⟨by omega, s[j], by rw [Int.toNat_natCast]; exact List.getElem?_eq_getElem hj, ?_⟩
   have htake : qcs (s.take (j + 1)) = qcs (s.take j) ++ qc s[j] := by
    rw [← List.take_append_getElem hj, qcs_app]
    simp [qcs]
   generalize s[j] = c at *
   have next : ∀ (m2 : Bytes) (x y : Operand) (cl : Call) (ρ : Operand → Value), qc c = m2 → 1 ≤ m2.length → m2.length ≤ 1000 → cl.callee = .builtin .append → cl.args = #[x, y] → cl.argTypes = #[45, 45] → ρ x = vL a n k →
    ∀ b2, h2 b2 = none → ρ y = vL (ad b2 0) m2.length m2.length → ∀ h3, h3 = h2.put b2 (.cells ⟨m2.map byteV⟩ 5 (0, 0)) →
    Raw Tryz.prog (execOp ρ (mkO (.call cl) 45)) h3 fun v_1 h_4 => ∃ (a2 : OA) (n2 k2 : Nat), v_1 = vL a2 n2 k2 ∧
     ∃ (m3 : Nat), m3 < m ∧ (∃ j' : Nat, IntKind.i64.wrap ((j : Nat) + 1) = j' ∧ j' + m3 = s.length ∧ OB h h_4 a2 n2 k2 (34 :: qcs (s.take j'))) ∧ True := by
    intro m2 x y cl ρ hq hm1 hm2 hcl hca hts hx b2 hb hy h3 hh3
    refine Raw.mono (hb2.append hb hh3 hm1 (by omega) hm2 hcl hca hts hx hy) ?_
    rintro v h4 ⟨a', n', k', rfl, hb4⟩
    refine ⟨_, _, _, rfl, m - 1, by omega, ⟨j + 1, ?_, by omega, ?_⟩, trivial⟩
    · rw [wrap64 (by omega) (by omega)]; rfl
    · rw [htake, hq]; exact hb4
   refine br_split (fun e1 => ?_) (fun e1 => ?_)
   · have e1 : c = 10 := by rw [show (10 : Int) = ((10 : UInt8).toNat : Int) from rfl, u8_beq] at e1; simpa using e1
     subst e1
     intro b2 hb h3 hh3
     exact next [92, 110] _ _ _ _ rfl (by decide) (by decide) rfl rfl rfl rfl b2 hb rfl h3 hh3
   have n10 : (c == 10) = false := by rw [show (10 : Int) = ((10 : UInt8).toNat : Int) from rfl, u8_beq] at e1; exact e1
   refine br_split (fun e2 => ?_) (fun e2 => ?_)
   · have e2 : c = 9 := by rw [show (9 : Int) = ((9 : UInt8).toNat : Int) from rfl, u8_beq] at e2; simpa using e2
     subst e2
     intro b2 hb h3 hh3
     exact next [92, 116] _ _ _ _ rfl (by decide) (by decide) rfl rfl rfl rfl b2 hb rfl h3 hh3
   have n9 : (c == 9) = false := by rw [show (9 : Int) = ((9 : UInt8).toNat : Int) from rfl, u8_beq] at e2; exact e2
   refine br_split (fun e3 => ?_) (fun e3 => ?_)
   · have e3 : c = 0 := by rw [show (0 : Int) = ((0 : UInt8).toNat : Int) from rfl, u8_beq] at e3; simpa using e3
     subst e3
     intro b2 hb h3 hh3
     exact next [92, 48] _ _ _ _ rfl (by decide) (by decide) rfl rfl rfl rfl b2 hb rfl h3 hh3
   have n0 : (c == 0) = false := by rw [show (0 : Int) = ((0 : UInt8).toNat : Int) from rfl, u8_beq] at e3; exact e3
   refine br_split (fun e4 => ?_) (fun e4 => ?_)
   · have e4 : c = 92 := by rw [show (92 : Int) = ((92 : UInt8).toNat : Int) from rfl, u8_beq] at e4; simpa using e4
     subst e4
     intro b2 hb h3 hh3
     exact next [92, 92] _ _ _ _ rfl (by decide) (by decide) rfl rfl rfl rfl b2 hb rfl h3 hh3
   have n92 : (c == 92) = false := by rw [show (92 : Int) = ((92 : UInt8).toNat : Int) from rfl, u8_beq] at e4; exact e4
   refine br_split (fun e5 => ?_) (fun e5 => ?_)
   · have e5 : c = 34 := by rw [show (34 : Int) = ((34 : UInt8).toNat : Int) from rfl, u8_beq] at e5; simpa using e5
     subst e5
     intro b2 hb h3 hh3
     exact next [92, 34] _ _ _ _ rfl (by decide) (by decide) rfl rfl rfl rfl b2 hb rfl h3 hh3
   have n34 : (c == 34) = false := by rw [show (34 : Int) = ((34 : UInt8).toNat : Int) from rfl, u8_beq] at e5; exact e5
   obtain ⟨⟨x1, x2⟩, x3, x4⟩ := hex_ok c
   have qhex : (c.toNat < 32 ∨ 126 < c.toNat) → qc c = [92, 120, hexD (c.toNat / 16), hexD (c.toNat % 16)] := by
    intro hc
    unfold qc
    rw [n10, n9, n0, n92, n34]
    simp only [Bool.or_false, Bool.false_eq_true, if_false]
    rw [if_pos (by simpa using hc)]
   refine br_split (fun e6 => ?_) (fun e6 => ?_)
   · have e6 : c.toNat < 32 := by have := of_decide_eq_true e6; omega
     refine ⟨x1, _, x2, x3, _, x4, ?_⟩
     intro b2 hb h3 hh3
     exact next [92, 120, hexD (c.toNat / 16), hexD (c.toNat % 16)] _ _ _ _ (qhex (.inl e6)) (by simp) (by simp) rfl rfl rfl rfl b2 hb rfl h3 hh3
   refine br_split (fun e7 => ?_) (fun e7 => ?_)
   · have e7 : 126 < c.toNat := by have := of_decide_eq_true e7; omega
     refine ⟨x1, _, x2, x3, _, x4, ?_⟩
     intro b2 hb h3 hh3
     exact next [92, 120, hexD (c.toNat / 16), hexD (c.toNat % 16)] _ _ _ _ (qhex (.inr e7)) (by simp) (by simp) rfl rfl rfl rfl b2 hb rfl h3 hh3
   · have e6 : 32 ≤ c.toNat := by have := of_decide_eq_false e6; omega
     have e7 : c.toNat ≤ 126 := by have := of_decide_eq_false e7; omega
     intro b2 hb h3 hh3
     refine next [c] _ _ _ _ ?_ (by simp) (by simp) rfl rfl rfl rfl b2 hb rfl h3 hh3
     unfold qc
     rw [n10, n9, n0, n92, n34]
     simp only [Bool.or_false, Bool.false_eq_true, if_false]
     rw [if_neg (by simp; omega)]
 · have hj : s.length ≤ j := by have := of_decide_eq_false e; omega
   intro b2 hb h3 hh3
   refine Raw.mono (hb2.append (m := [34]) hb hh3 (by decide) (by omega) (by decide) rfl rfl rfl rfl rfl) ?_
   rintro v h4 ⟨a', n', k', rfl, hb4⟩
   have hn4 := hb4.len
   refine ⟨_, _, _, rfl, _, hb4.bytes (by rw [hn4]; simp), ?_, hb4.ext⟩
   rw [List.take_of_length_le hj]
   rfl
end Go.Proofs.D
namespace Go.Sx
def xk : E → Nat | .mk k _ _ _ _ _ _ => k
def xo : E → Bytes | .mk _ op _ _ _ _ _ => op
def dE : E := .mk 0 [] [] 0 [] [] 0
def low (e : E) (lv : Nat) : Bool := xk e == 7 && decide (levelS (xo e) < lv)
def encB (b : Bool) (t : Bytes) : Bytes := if b then 40 :: (t ++ [41]) else t
def moreB : List Bytes → Bytes
 | [] => []
 | x :: l => 44 :: 32 :: (x ++ moreB l)
def commaB : List Bytes → Bytes
 | [] => []
 | x :: l => x ++ moreB l
mutual
def prE : E → Bytes
 | .mk k op nm v tx args _ =>
   if k = 1 then digs v else if k = 2 then quoteS tx
   else if k = 4 then nm ++ 91 :: ((prEs args).getD 0 [] ++ [93])
   else if k = 5 then nm ++ 40 :: (commaB (prEs args) ++ [41])
   else if k = 6 then op ++ encB (low (args.getD 0 dE) 11) ((prEs args).getD 0 [])
   else if k = 7 then encB (low (args.getD 0 dE) (levelS op)) ((prEs args).getD 0 []) ++ 32 :: (op ++ 32 :: encB (low (args.getD 1 dE) (levelS op + 1)) ((prEs args).getD 1 []))
   else nm
def prEs : List E → List Bytes
 | [] => []
 | e :: l => prE e :: prEs l
end
def prL (lv : Nat) (e : E) : Bytes := encB (low e lv) (prE e)
def sym (t : Bytes) : Tok := ⟨5, t, 0, [], 0⟩
def kwd (t : Bytes) : Tok := ⟨4, t, 0, [], 0⟩
def idt (t : Bytes) : Tok := ⟨1, t, 0, [], 0⟩
def numT (v : Nat) : Tok := ⟨2, digs v, v, [], 0⟩
def strT (b : Bytes) : Tok := ⟨3, quoteS b, 0, b, 0⟩
def encT (b : Bool) (t : List Tok) : List Tok := if b then sym [40] :: (t ++ [sym [41]]) else t
def moreT : List (List Tok) → List Tok
 | [] => []
 | x :: l => sym [44] :: (x ++ moreT l)
def commaT : List (List Tok) → List Tok
 | [] => []
 | x :: l => x ++ moreT l
mutual
def tkE : E → List Tok
 | .mk k op nm v tx args _ =>
   if k = 1 then [numT v] else if k = 2 then [strT tx]
   else if k = 4 then idt nm :: sym [91] :: ((tkEs args).getD 0 [] ++ [sym [93]])
   else if k = 5 then idt nm :: sym [40] :: (commaT (tkEs args) ++ [sym [41]])
   else if k = 6 then sym op :: encT (low (args.getD 0 dE) 11) ((tkEs args).getD 0 [])
   else if k = 7 then encT (low (args.getD 0 dE) (levelS op)) ((tkEs args).getD 0 []) ++ sym op :: encT (low (args.getD 1 dE) (levelS op + 1)) ((tkEs args).getD 1 [])
   else [idt nm]
def tkEs : List E → List (List Tok)
 | [] => []
 | e :: l => tkE e :: tkEs l
end
def tkL (lv : Nat) (e : E) : List Tok := encT (low e lv) (tkE e)
def nameOk (n : Bytes) : Prop := n.length ≤ 32 ∧ (∃ c l, n = c :: l ∧ isLetter c = true) ∧ n.all isAl = true ∧ words.contains n = false
inductive OkE : E → Prop where
 | num {v p : Nat} : v < 4294967296 → OkE (.mk 1 [] [] v [] [] p)
 | str {b : Bytes} {p : Nat} : b.length ≤ 200 → OkE (.mk 2 [] [] 0 b [] p)
 | var {n : Bytes} {p : Nat} : nameOk n → OkE (.mk 3 [] n 0 [] [] p)
 | elem {n : Bytes} {e : E} {p : Nat} : nameOk n → OkE e → OkE (.mk 4 [] n 0 [] [e] p)
 | call {n : Bytes} {es : List E} {p : Nat} : nameOk n → (∀ e ∈ es, OkE e) → OkE (.mk 5 [] n 0 [] es p)
 | un {op : Bytes} {e : E} {p : Nat} : op = [45] ∨ op = [33] ∨ op = [126] → OkE e → OkE (.mk 6 op [] 0 [] [e] p)
 | bin {op : Bytes} {a b : E} {p : Nat} : 1 ≤ levelS op → OkE a → OkE b → OkE (.mk 7 op [] 0 [] [a, b] p)
theorem pr_num (v p : Nat) : prE (.mk 1 [] [] v [] [] p) = digs v := by simp [prE]
theorem pr_str (b : Bytes) (p : Nat) : prE (.mk 2 [] [] 0 b [] p) = quoteS b := by simp [prE]
theorem pr_var (n : Bytes) (p : Nat) : prE (.mk 3 [] n 0 [] [] p) = n := by simp [prE]
theorem pr_elem (n : Bytes) (e : E) (p : Nat) : prE (.mk 4 [] n 0 [] [e] p) = n ++ 91 :: (prE e ++ [93]) := by simp [prE, prEs]
theorem pr_call (n : Bytes) (es : List E) (p : Nat) : prE (.mk 5 [] n 0 [] es p) = n ++ 40 :: (commaB (prEs es) ++ [41]) := by simp [prE]
theorem pr_un (op : Bytes) (e : E) (p : Nat) : prE (.mk 6 op [] 0 [] [e] p) = op ++ prL 11 e := by simp [prE, prEs, prL]
theorem pr_bin (op : Bytes) (a b : E) (p : Nat) : prE (.mk 7 op [] 0 [] [a, b] p) = prL (levelS op) a ++ 32 :: (op ++ 32 :: prL (levelS op + 1) b) := by simp [prE, prEs, prL]
theorem tk_num (v p : Nat) : tkE (.mk 1 [] [] v [] [] p) = [numT v] := by simp [tkE]
theorem tk_str (b : Bytes) (p : Nat) : tkE (.mk 2 [] [] 0 b [] p) = [strT b] := by simp [tkE]
theorem tk_var (n : Bytes) (p : Nat) : tkE (.mk 3 [] n 0 [] [] p) = [idt n] := by simp [tkE]
theorem tk_elem (n : Bytes) (e : E) (p : Nat) : tkE (.mk 4 [] n 0 [] [e] p) = idt n :: sym [91] :: (tkE e ++ [sym [93]]) := by simp [tkE, tkEs]
theorem tk_call (n : Bytes) (es : List E) (p : Nat) : tkE (.mk 5 [] n 0 [] es p) = idt n :: sym [40] :: (commaT (tkEs es) ++ [sym [41]]) := by simp [tkE]
theorem tk_un (op : Bytes) (e : E) (p : Nat) : tkE (.mk 6 op [] 0 [] [e] p) = sym op :: tkL 11 e := by simp [tkE, tkEs, tkL]
theorem tk_bin (op : Bytes) (a b : E) (p : Nat) : tkE (.mk 7 op [] 0 [] [a, b] p) = tkL (levelS op) a ++ sym op :: tkL (levelS op + 1) b := by simp [tkE, tkEs, tkL]
theorem binops {op : Bytes} (h : 1 ≤ levelS op) : op = [124, 124] ∨ op = [38, 38] ∨ op = [124] ∨ op = [94] ∨ op = [38] ∨ op = [61, 61] ∨ op = [33, 61] ∨ op = [60] ∨ op = [60, 61] ∨ op = [62] ∨ op = [62, 61] ∨ op = [60, 60] ∨ op = [62, 62] ∨ op = [43] ∨ op = [45] ∨ op = [42] ∨ op = [47] ∨ op = [37] := by
 unfold levelS at h
 repeat' split at h
 all_goals first
  | omega
  | (rename_i h0; simp only [Bool.or_eq_true, beq_iff_eq] at h0; simp [h0]; done)
  | (rename_i h0; simp only [Bool.or_eq_true, beq_iff_eq] at h0; rcases h0 with h0 | h0 <;> simp [h0]; done)
  | (rename_i h0; simp only [Bool.or_eq_true, beq_iff_eq] at h0; rcases h0 with (h0 | h0) | h0 <;> simp [h0]; done)
  | (rename_i h0; simp only [Bool.or_eq_true, beq_iff_eq] at h0; rcases h0 with ((h0 | h0) | h0) | h0 <;> simp [h0]; done)
theorem level_le (op : Bytes) : levelS op ≤ 10 := by
 unfold levelS
 repeat' split
 all_goals omega
def stop (x : Bytes) : Prop := ∀ c m, x = c :: m → isAl c = false
theorem skip0 {c : UInt8} (h : ¬isW c) (h47 : c ≠ 47) (y : Bytes) : skipN false (c :: y) = 0 := by
 have hb : (c == 10 || c == 32 || c == 9) = false := by
  rw [Bool.eq_false_iff]
  intro e
  simp only [Bool.or_eq_true, beq_iff_eq] at e
  rcases e with (e | e) | e
  · exact h (.inr (.inl e))
  · exact h (.inl e)
  · exact h (.inr (.inr e))
 cases y with
 | nil => simp [skipN, hb]
 | cons d y => simp [skipN, hb, h47]
theorem letter_w {c : UInt8} (h : isLetter c = true) : ¬isW c ∧ c ≠ 47 := ⟨fun hw => by (rcases hw with rfl | rfl | rfl <;> cases h), fun hw => by (subst hw; cases h)⟩
theorem digit_w {c : UInt8} (h : isDigit c = true) : ¬isW c ∧ c ≠ 47 := ⟨fun hw => by (rcases hw with rfl | rfl | rfl <;> cases h), fun hw => by (subst hw; cases h)⟩
theorem take_all (n x : Bytes) : (n ++ x).take n.length = n := by rw [List.take_append_of_le_length (Nat.le_refl _), List.take_length]
theorem Lx.word {n x : Bytes} {a : List Tok} (hl : n.length ≤ 32) (hc : ∃ c l, n = c :: l ∧ isLetter c = true) (ha : n.all isAl = true) (hs : stop x) (h : Lx x a) : Lx (n ++ x) (⟨if words.contains n then 4 else 1, n, 0, [], 0⟩ :: a) := by
 obtain ⟨c, l, hn, hc⟩ := hc
 have e1 := lead_all hs n ha
 have e2 := take_all n x
 refine Lx.tok ?_ ?_ h
 · generalize hy : n ++ x = y at *
   obtain ⟨y', rfl⟩ : ∃ y', y = c :: y' := ⟨_, by rw [← hy, hn, List.cons_append]⟩
   simp only [oneS, if_pos hc, e1, e2]
   rw [if_neg (by omega)]
   split <;> rfl
 · rw [hn, List.cons_append]; exact skip0 (letter_w hc).1 (letter_w hc).2 _
theorem Lx.name {n x : Bytes} {a : List Tok} (hn : nameOk n) (hs : stop x) (h : Lx x a) : Lx (n ++ x) (idt n :: a) := by
 have := Lx.word hn.1 hn.2.1 hn.2.2.1 hs h
 rw [hn.2.2.2] at this
 exact this
theorem Lx.num {v : Nat} {x : Bytes} {a : List Tok} (hv : v < 4294967296) (hs : stop x) (h : Lx x a) : Lx (digs v ++ x) (numT v :: a) := by
 obtain ⟨c, l, hn, hc⟩ := digs_head v
 have hall : (digs v).all isAl = true := by
  have := (digs_spec v).2.1
  rw [List.all_eq_true] at this ⊢
  exact fun c hc => isAl_digit (this c hc)
 have e1 := lead_all hs _ hall
 have e2 := take_all (digs v) x
 have e3 := numS_digs hv
 refine Lx.tok ?_ ?_ h
 · generalize hy : digs v ++ x = y at *
   obtain ⟨y', rfl⟩ : ∃ y', y = c :: y' := ⟨_, by rw [← hy, hn, List.cons_append]⟩
   simp only [oneS, not_letter hc, if_pos hc, e1, e2, e3]
   rfl
 · rw [hn, List.cons_append]; exact skip0 (digit_w hc).1 (digit_w hc).2 _
theorem Lx.str {b x : Bytes} {a : List Tok} (hb : b.length ≤ 200) (h : Lx x a) : Lx (quoteS b ++ x) (strT b :: a) := by
 refine Lx.tok ?_ ?_ h
 · have e : quoteS b ++ x = 34 :: (qcs b ++ 34 :: x) := by simp [quoteS]
   have e2 := strS_qcs x b ((qcs b ++ 34 :: x).length + 1) (by rw [List.length_append]; omega)
   have e3 : (quoteS b).length = (qcs b).length + 2 := by simp [quoteS]
   rw [e, e3]
   simp only [oneS]
   rw [e2]
   simp only [if_neg (show ¬ 200 < b.length by omega)]
   rfl
 · exact skip0 (fun hw => by (rcases hw with hw | hw | hw <;> cases hw)) (by decide) _
theorem mark_not {c d : UInt8} (h : c = 40 ∨ c = 41 ∨ c = 44 ∨ c = 59 ∨ c = 91 ∨ c = 93 ∨ c = 123 ∨ c = 125 ∨ c = 45 ∨ c = 126 ∨ c = 33 ∧ d ≠ 61) : marks.contains [c, d] = false := by
 rcases h with rfl | rfl | rfl | rfl | rfl | rfl | rfl | rfl | rfl | rfl | ⟨rfl, h⟩ <;> simp [marks]
 exact h
theorem Lx.solo {c : UInt8} {x : Bytes} {a : List Tok} (hc : c = 40 ∨ c = 41 ∨ c = 44 ∨ c = 59 ∨ c = 91 ∨ c = 93 ∨ c = 123 ∨ c = 125 ∨ c = 45 ∨ c = 126 ∨ c = 33 ∧ ∀ d m, x = d :: m → d ≠ 61) (h : Lx x a) : Lx (c :: x) (sym [c] :: a) := by
 have h1 : oneS (c :: x) = .ok (5, 1, 0, []) := by
  cases x with
  | nil => rcases hc with rfl | rfl | rfl | rfl | rfl | rfl | rfl | rfl | rfl | rfl | ⟨rfl, _⟩ <;> rfl
  | cons d m =>
    have hm : marks.contains [c, d] = false := mark_not (by
     rcases hc with h | h | h | h | h | h | h | h | h | h | ⟨h, h'⟩ <;> simp [h]
     exact h' d m rfl)
    have e : (c :: d :: m).take 2 = [c, d] := rfl
    have e1 : (c :: d :: m).take 1 = [c] := rfl
    simp only [oneS, e, e1, hm]
    rcases hc with rfl | rfl | rfl | rfl | rfl | rfl | rfl | rfl | rfl | rfl | ⟨rfl, _⟩ <;> rfl
 have h2 : skipN false (c :: x) = 0 := by
  refine skip0 (fun hw => ?_) (fun e => ?_) x
  · rcases hw with rfl | rfl | rfl <;> simp at hc
  · subst e; simp at hc
 exact Lx.tok (w := [c]) h1 h2 h
theorem Lx.op {op x : Bytes} {a : List Tok} (ho : 1 ≤ levelS op) (h : Lx x a) : Lx (op ++ 32 :: x) (sym op :: a) := by
 refine Lx.tok ?_ ?_ (Lx.blank (.inl rfl) h)
 · rcases binops ho with rfl | rfl | rfl | rfl | rfl | rfl | rfl | rfl | rfl | rfl | rfl | rfl | rfl | rfl | rfl | rfl | rfl | rfl <;> rfl
 · rcases binops ho with rfl | rfl | rfl | rfl | rfl | rfl | rfl | rfl | rfl | rfl | rfl | rfl | rfl | rfl | rfl | rfl | rfl | rfl <;> rfl
def okF (x : Bytes) : Prop := ∃ c m, x = c :: m ∧ (c = 93 ∨ c = 44 ∨ c = 41 ∨ c = 59 ∨ c = 32)
theorem okF.stop {x : Bytes} (h : okF x) : stop x := by
 obtain ⟨c, m, rfl, h⟩ := h
 intro d m' e
 injection e with e _
 subst e
 rcases h with rfl | rfl | rfl | rfl | rfl <;> rfl
theorem stop_c {c : UInt8} {x : Bytes} (h : isAl c = false) : stop (c :: x) := fun d m e => by injection e with e _; rw [← e]; exact h
theorem first61 {e : E} (h : OkE e) : ∀ x, ∃ c m, prE e ++ x = c :: m ∧ c ≠ 61 := by
 have key : ∀ lv e, (∀ x, ∃ c m, prE e ++ x = c :: m ∧ c ≠ 61) → ∀ x, ∃ c m, prL lv e ++ x = c :: m ∧ c ≠ 61 := by
  intro lv e ih x
  unfold prL encB
  split
  · exact ⟨40, _, rfl, by decide⟩
  · exact ih x
 induction h with
 | num hv => intro x; obtain ⟨c, l, h1, h2⟩ := digs_head _; exact ⟨c, _, by rw [pr_num, h1]; rfl, fun e => by subst e; cases h2⟩
 | str => intro x; rw [pr_str]; exact ⟨34, _, rfl, by decide⟩
 | var hn => intro x; obtain ⟨c, l, h1, h2⟩ := hn.2.1; exact ⟨c, _, by rw [pr_var, h1]; rfl, fun e => by subst e; cases h2⟩
 | elem hn => intro x; obtain ⟨c, l, h1, h2⟩ := hn.2.1; exact ⟨c, _, by rw [pr_elem, h1]; rfl, fun e => by subst e; cases h2⟩
 | call hn => intro x; obtain ⟨c, l, h1, h2⟩ := hn.2.1; exact ⟨c, _, by rw [pr_call, h1]; rfl, fun e => by subst e; cases h2⟩
 | un ho => intro x; rw [pr_un]; rcases ho with rfl | rfl | rfl <;> exact ⟨_, _, rfl, by decide⟩
 | bin _ _ _ iha _ => intro x; rw [pr_bin, List.append_assoc]; exact key _ _ iha _
theorem first61L {e : E} (h : OkE e) (lv : Nat) (x : Bytes) : ∃ c m, prL lv e ++ x = c :: m ∧ c ≠ 61 := by
 unfold prL encB
 split
 · exact ⟨40, _, rfl, by decide⟩
 · exact first61 h x
theorem lx_expr {e : E} (h : OkE e) : ∀ x a, okF x → Lx x a → Lx (prE e ++ x) (tkE e ++ a) := by
 have key : ∀ lv e, (∀ x a, okF x → Lx x a → Lx (prE e ++ x) (tkE e ++ a)) → ∀ x a, okF x → Lx x a → Lx (prL lv e ++ x) (tkL lv e ++ a) := by
  intro lv e ih x a hx ha
  unfold prL tkL encB encT
  split
  · have := ih (41 :: x) (sym [41] :: a) ⟨_, _, rfl, by simp⟩ (Lx.solo (by simp) ha)
    simpa using Lx.solo (c := 40) (by simp) this
  · exact ih x a hx ha
 induction h with
 | num hv => intro x a hx ha; rw [pr_num, tk_num]; exact Lx.num hv hx.stop ha
 | str hb => intro x a hx ha; rw [pr_str, tk_str]; exact Lx.str hb ha
 | var hn => intro x a hx ha; rw [pr_var, tk_var]; exact Lx.name hn hx.stop ha
 | elem hn _ ih =>
   intro x a hx ha
   rw [pr_elem, tk_elem]
   have := ih (93 :: x) (sym [93] :: a) ⟨_, _, rfl, by simp⟩ (Lx.solo (by simp) ha)
   have := Lx.name hn (stop_c rfl) (Lx.solo (c := 91) (by simp) this)
   simpa using this
 | @call n es p hn hes ih =>
   intro x a hx ha
   rw [pr_call, tk_call]
   have h1 : Lx (41 :: x) (sym [41] :: a) := Lx.solo (by simp) ha
   have h2 : ∀ l : List E, (∀ e ∈ l, e ∈ es) → Lx (moreB (prEs l) ++ 41 :: x) (moreT (tkEs l) ++ sym [41] :: a) ∧ okF (moreB (prEs l) ++ 41 :: x) := by
    intro l
    induction l with
    | nil => intro _; exact ⟨h1, _, _, rfl, by simp⟩
    | cons e l ihl =>
      intro hm
      obtain ⟨i1, i2⟩ := ihl (fun e he => hm e (List.mem_cons_of_mem _ he))
      have := ih e (hm e (List.mem_cons_self ..)) _ _ i2 i1
      have := Lx.solo (c := 44) (by simp) (Lx.blank (c := 32) (.inl rfl) this)
      refine ⟨by simpa [prEs, moreB, tkEs, moreT] using this, 44, 32 :: (prE e ++ (moreB (prEs l) ++ 41 :: x)), by simp [prEs, moreB], by simp⟩
   have h3 : Lx (commaB (prEs es) ++ 41 :: x) (commaT (tkEs es) ++ sym [41] :: a) := by
    cases es with
    | nil => exact h1
    | cons e l =>
      obtain ⟨i1, i2⟩ := h2 l (fun e he => List.mem_cons_of_mem _ he)
      have := ih e (List.mem_cons_self ..) _ _ i2 i1
      simpa [prEs, commaB, tkEs, commaT] using this
   have := Lx.name hn (stop_c rfl) (Lx.solo (c := 40) (by simp) h3)
   simpa using this
 | @un op e p ho he ih =>
   intro x a hx ha
   rw [pr_un, tk_un]
   have h1 := key 11 _ ih x a hx ha
   obtain ⟨c, m, h2, h3⟩ := first61L he 11 x
   rcases ho with rfl | rfl | rfl
   · simpa using Lx.solo (c := 45) (by simp) h1
   · refine Lx.solo (c := 33) (x := prL 11 e ++ x) ?_ h1
     rw [h2]
     simp only [List.cons.injEq]
     exact .inr (.inr (.inr (.inr (.inr (.inr (.inr (.inr (.inr (.inr ⟨trivial, fun d m e => e.1 ▸ h3⟩)))))))))
   · simpa using Lx.solo (c := 126) (by simp) h1
 | @bin op l r p ho _ _ ihl ihr =>
   intro x a hx ha
   rw [pr_bin, tk_bin]
   have h1 := key (levelS op + 1) _ ihr x a hx ha
   have h2 := Lx.blank (c := 32) (.inl rfl) (Lx.op ho h1)
   have h3 := key (levelS op) _ ihl _ _ ⟨32, _, rfl, by simp⟩ h2
   simpa using h3
end Go.Sx
namespace Go.Sx
def Big {α : Type} (x : Nat → R α) (r : R α) : Prop := ∃ F, ∀ f, F ≤ f → x f = r
theorem Big.step {α : Type} {x : Nat → R α} {r : R α} (h : Big (fun f => x (f + 1)) r) : Big x r := by
 obtain ⟨F, h⟩ := h
 refine ⟨F + 1, fun f hf => ?_⟩
 obtain ⟨g, rfl⟩ : ∃ g, f = g + 1 := ⟨f - 1, by omega⟩
 exact h g (by omega)
theorem Big.const {α : Type} {r : R α} : Big (fun _ => r) r := ⟨0, fun _ _ => rfl⟩
theorem Big.congr {α : Type} {x y : Nat → R α} {r : R α} (h : Big x r) (e : ∀ f, y f = x f) : Big y r := by
 obtain ⟨F, h⟩ := h
 exact ⟨F, fun f hf => (e f).trans (h f hf)⟩
theorem Big.bind {α β : Type} {x : Nat → R α} {G : Nat → α → List Tok → Int → R β} {a : α} {ts : List Tok} {d : Int} {r : R β} (h : Big x (.ok (a, ts, d))) (hG : Big (fun f => G f a ts d) r) : Big (fun f => bindR (x f) (G f)) r := by
 obtain ⟨F, h⟩ := h
 obtain ⟨F', h'⟩ := hG
 refine ⟨max F F', fun f hf => ?_⟩
 show bindR (x f) (G f) = r
 rw [h f (by omega)]
 exact h' f (by omega)
theorem Big.err {α β : Type} {x : Nat → R α} {G : Nat → α → List Tok → Int → R β} {e : Nat × Nat} (h : Big x (.error e)) : Big (fun f => bindR (x f) (G f)) (.error e) := by
 obtain ⟨F, h⟩ := h
 refine ⟨F, fun f hf => ?_⟩
 show bindR (x f) (G f) = _
 rw [h f hf]; rfl
def encN (b : Bool) (n : Nat) : Nat := if b then n + 1 else n
def maxN : List Nat → Nat
 | [] => 0
 | n :: l => max n (maxN l)
mutual
def nE : E → Nat
 | .mk k op _ _ _ args _ =>
   if k = 4 then (nEs args).getD 0 0 + 1 else if k = 5 then maxN (nEs args) + 1
   else if k = 6 then encN (low (args.getD 0 dE) 11) ((nEs args).getD 0 0)
   else if k = 7 then max (encN (low (args.getD 0 dE) (levelS op)) ((nEs args).getD 0 0)) (encN (low (args.getD 1 dE) (levelS op + 1)) ((nEs args).getD 1 0))
   else 0
def nEs : List E → List Nat
 | [] => []
 | e :: l => nE e :: nEs l
end
def nL (lv : Nat) (e : E) : Nat := encN (low e lv) (nE e)
theorem n_num (v p : Nat) : nE (.mk 1 [] [] v [] [] p) = 0 := by simp [nE]
theorem n_str (b : Bytes) (p : Nat) : nE (.mk 2 [] [] 0 b [] p) = 0 := by simp [nE]
theorem n_var (n : Bytes) (p : Nat) : nE (.mk 3 [] n 0 [] [] p) = 0 := by simp [nE]
theorem n_elem (n : Bytes) (e : E) (p : Nat) : nE (.mk 4 [] n 0 [] [e] p) = nE e + 1 := by simp [nE, nEs]
theorem n_call (n : Bytes) (es : List E) (p : Nat) : nE (.mk 5 [] n 0 [] es p) = maxN (nEs es) + 1 := by simp [nE]
theorem n_un (op : Bytes) (e : E) (p : Nat) : nE (.mk 6 op [] 0 [] [e] p) = nL 11 e := by simp [nE, nEs, nL]
theorem n_bin (op : Bytes) (a b : E) (p : Nat) : nE (.mk 7 op [] 0 [] [a, b] p) = max (nL (levelS op) a) (nL (levelS op + 1) b) := by simp [nE, nEs, nL]
def Fol (lv : Nat) (r : List Tok) : Prop := isT r [40] = false ∧ isT r [91] = false ∧ (isK r 5 = true → levelS (hd r).text ≤ lv)
theorem Fol.up {lv lv' : Nat} {r : List Tok} (h : Fol lv r) (hl : lv ≤ lv') : Fol lv' r := ⟨h.1, h.2.1, fun e => Nat.le_trans (h.2.2 e) hl⟩
theorem Fol.sym {t : Bytes} {r : List Tok} {lv : Nat} (h1 : t ≠ [40]) (h2 : t ≠ [91]) (h : levelS t ≤ lv) : Fol lv (sym t :: r) := by
 refine ⟨?_, ?_, fun _ => h⟩
 · simpa [isT, hd, Sx.sym] using h1
 · simpa [isT, hd, Sx.sym] using h2
theorem loop_end {lv : Nat} {e : E} {r : List Tok} {d : Int} (h : Fol lv r) : Big (fun f => pLoop f (lv + 1) e r d) (.ok (e, r, d)) := by
 refine Big.step ?_
 refine Big.const.congr fun f => ?_
 rw [pLoop, if_neg]
 intro hc
 simp only [Bool.and_eq_true, beq_iff_eq] at hc
 have := h.2.2 hc.1
 omega
theorem bin_lower {L : Nat} {X r : List Tok} {d : Int} {e : E} (h : Big (fun f => pBin f L X d) (.ok (e, r, d))) (hL : L ≤ 11) : ∀ (k lv : Nat) (res : R E), lv + (k + 1) = L → Fol lv r → Big (fun f => pLoop f lv e r d) res → Big (fun f => pBin f lv X d) res
 | 0, lv, res, hk, hr, hl => by
   have h' : Big (fun f => pBin f (lv + 1) X d) (.ok (e, r, d)) := by rw [show lv + 1 = L by omega]; exact h
   refine Big.step ?_
   refine (Big.bind (G := fun f => pLoop f lv) h' hl).congr fun f => ?_
   rw [pBin, if_neg (by omega)]
 | k + 1, lv, res, hk, hr, hl => by
   have ih := bin_lower h hL k (lv + 1) (.ok (e, r, d)) (by omega) (hr.up (by omega)) (loop_end hr)
   refine Big.step ?_
   refine (Big.bind (G := fun f => pLoop f lv) ih hl).congr fun f => ?_
   rw [pBin, if_neg (by omega)]
theorem bin_err {L : Nat} {X : List Tok} {d : Int} {e : Nat × Nat} (h : Big (fun f => pBin f L X d) (.error e)) (hL : L ≤ 11) : ∀ (k lv : Nat), lv + k = L → Big (fun f => pBin f lv X d) (.error e)
 | 0, lv, hk => by rw [show lv = L by omega]; exact h
 | k + 1, lv, hk => by
   have ih := bin_err h hL k (lv + 1) (by omega)
   refine Big.step ?_
   refine (Big.err (G := fun f => pLoop f lv) ih).congr fun f => ?_
   rw [pBin, if_neg (by omega)]
structure RB (X : Nat → List Tok) (n : Nat → Nat) (e : E) (c : Nat → Prop) : Prop where
 ok : ∀ (lv : Nat) (r : List Tok) (d : Int) (res : R E), 1 ≤ lv → lv ≤ 10 → c lv → Fol lv r → d + n lv ≤ 32 → Big (fun f => pLoop f lv e r d) res → Big (fun f => pBin f lv (X lv ++ r) d) res
 top : ∀ (r : List Tok) (d : Int), c 11 → Fol 10 r → d + n 11 ≤ 32 → Big (fun f => pBin f 11 (X 11 ++ r) d) (.ok (e, r, d))
 er : ∀ (lv : Nat) (r : List Tok) (d : Int), 1 ≤ lv → lv ≤ 11 → c lv → d ≤ 32 → 32 < d + n lv → Big (fun f => pBin f lv (X lv ++ r) d) (.error (9, 0))
theorem RB.of_top {X : List Tok} {n : Nat} {e : E} (h1 : ∀ (r : List Tok) (d : Int), Fol 10 r → d + n ≤ 32 → Big (fun f => pUn f (X ++ r) d) (.ok (e, r, d)))
 (h2 : ∀ (r : List Tok) (d : Int), d ≤ 32 → 32 < d + n → Big (fun f => pUn f (X ++ r) d) (.error (9, 0))) : RB (fun _ => X) (fun _ => n) e (fun _ => True) := by
 have top : ∀ (r : List Tok) (d : Int) (res : R E), Big (fun f => pUn f (X ++ r) d) res → Big (fun f => pBin f 11 (X ++ r) d) res := by
  intro r d res h
  refine Big.step ?_
  refine h.congr fun f => ?_
  rw [pBin, if_pos (by rfl)]
 refine ⟨fun lv r d res hl hl' _ hr hd hb => ?_, fun r d _ hr hd => top r d _ (h1 r d hr hd), fun lv r d hl hl' _ hd hd' => ?_⟩
 · exact bin_lower (top r d _ (h1 r d (hr.up hl') hd)) (Nat.le_refl _) (10 - lv) lv res (by omega) hr hb
 · exact bin_err (top r d _ (h2 r d hd hd')) (Nat.le_refl _) (11 - lv) lv (by omega)
theorem isT_k {k : Nat} {t : Bytes} {v : Nat} {b : Bytes} {p : Nat} {r : List Tok} (x : Bytes) (h : k ≠ 4) (h' : k ≠ 5) : isT (⟨k, t, v, b, p⟩ :: r) x = false := by
 simp [isT, hd, h, h']
theorem isT_sym (t x : Bytes) (r : List Tok) : isT (sym t :: r) x = (t == x) := by simp [isT, hd, sym]
theorem isK_c (t : Tok) (r : List Tok) (k : Nat) : isK (t :: r) k = (t.kind == k) := rfl
theorem isT_num (v : Nat) (x : Bytes) (r : List Tok) : isT (numT v :: r) x = false := isT_k x (by decide) (by decide)
theorem isT_str (v : Bytes) (x : Bytes) (r : List Tok) : isT (strT v :: r) x = false := isT_k x (by decide) (by decide)
theorem isT_idt (v : Bytes) (x : Bytes) (r : List Tok) : isT (idt v :: r) x = false := isT_k x (by decide) (by decide)
theorem un_prim {t : Tok} {r : List Tok} {d : Int} {res : R E} (h : ∀ x, x = [45] ∨ x = [33] ∨ x = [126] → isT (t :: r) x = false) (hb : Big (fun f => pPrim f (t :: r) d) res) : Big (fun f => pUn f (t :: r) d) res := by
 refine Big.step ?_
 refine hb.congr fun f => ?_
 rw [pUn, h _ (.inl rfl), h _ (.inr (.inl rfl)), h _ (.inr (.inr rfl))]
 rfl
theorem takeT_open {t : Bytes} {r : List Tok} {d : Int} (ht : opens t = true) (hd : d ≠ 32) : takeT t (sym t :: r) d = .ok ((), r, d + 1) := by
 simp [takeT, isT_sym, ht, hd]
theorem takeT_full {t : Bytes} {r : List Tok} (ht : opens t = true) : takeT t (sym t :: r) 32 = .error (9, 0) := by
 unfold takeT; rw [isT_sym]; simp [ht, hd, sym]
theorem takeT_close {t : Bytes} {r : List Tok} {d : Int} (ht : closes t = true) : takeT t (sym t :: r) d = .ok ((), r, d - 1) := by
 have : opens t = false := by
  simp only [closes, Bool.or_eq_true, beq_iff_eq] at ht
  rcases ht with (rfl | rfl) | rfl <;> rfl
 simp [takeT, isT_sym, ht, this]
theorem takeT_plain {t : Bytes} {r : List Tok} {d : Int} (ho : opens t = false) (hc : closes t = false) : takeT t (sym t :: r) d = .ok ((), r, d) := by
 simp [takeT, isT_sym, ho, hc]
theorem fol_close {t : Bytes} {r : List Tok} {lv : Nat} (h : t = [41] ∨ t = [93] ∨ t = [44] ∨ t = [59]) : Fol lv (sym t :: r) := by
 rcases h with rfl | rfl | rfl | rfl <;> exact Fol.sym (by decide) (by decide) (Nat.zero_le _)
theorem low_ok {e : E} (h : OkE e) : low e 1 = false := by
 cases h with
 | bin h => simp [low, xk, xo]; omega
 | _ => simp [low, xk]
theorem whole_ok {e : E} (ho : OkE e) (h : RB (fun _ => tkE e) (fun _ => nE e) (zE e) (fun lv => low e lv = false)) {r : List Tok} {d : Int} (hr : Fol 0 r) (hd : d + nE e ≤ 32) : Big (fun f => pBin f 1 (tkE e ++ r) d) (.ok (zE e, r, d)) :=
 h.ok 1 r d _ (Nat.le_refl _) (by decide) (low_ok ho) (hr.up (by decide)) hd (loop_end hr)
theorem whole_er {e : E} (ho : OkE e) (h : RB (fun _ => tkE e) (fun _ => nE e) (zE e) (fun lv => low e lv = false)) {r : List Tok} {d : Int} (h0 : d ≤ 32) (hd : 32 < d + nE e) : Big (fun f => pBin f 1 (tkE e ++ r) d) (.error (9, 0)) :=
 h.er 1 r d (Nat.le_refl _) (by decide) (low_ok ho) h0 hd
theorem RB.par {e : E} (ho : OkE e) (h : RB (fun _ => tkE e) (fun _ => nE e) (zE e) (fun lv => low e lv = false)) : RB (fun lv => tkL lv e) (fun lv => nL lv e) (zE e) (fun _ => True) := by
 have p : RB (fun _ => sym [40] :: (tkE e ++ [sym [41]])) (fun _ => nE e + 1) (zE e) (fun _ => True) := by
  refine RB.of_top (fun r d hr hd => ?_) (fun r d hd hd' => ?_)
  · rw [List.cons_append]
    refine un_prim (fun x hx => by rw [isT_sym]; rcases hx with rfl | rfl | rfl <;> rfl) ?_
    refine Big.step ?_
    have hw := whole_ok ho h (r := sym [41] :: r) (d := d + 1) (fol_close (.inl rfl)) (by omega)
    refine (Big.bind (G := fun f e ts d => bindR (takeT [41] ts d) fun _ ts d => .ok (e, ts, d)) hw (r := .ok (zE e, r, d)) ?_).congr fun f => ?_
    · refine Big.const.congr fun f => ?_
      rw [takeT_close rfl, bindR, show d + 1 - 1 = d by omega]
    · rw [pPrim, isK_c, isK_c, isK_c]
      simp only [sym, Nat.reduceBEq, Bool.false_eq_true, if_false]
      rw [show (⟨5, [40], 0, [], 0⟩ : Tok) = sym [40] from rfl, takeT_open rfl (by omega), bindR, List.append_assoc]
      rfl
  · rw [List.cons_append]
    refine un_prim (fun x hx => by rw [isT_sym]; rcases hx with rfl | rfl | rfl <;> rfl) ?_
    refine Big.step ?_
    by_cases h32 : d = 32
    · subst h32
      refine Big.const.congr fun f => ?_
      rw [pPrim, isK_c, isK_c, isK_c]
      simp only [sym, Nat.reduceBEq, Bool.false_eq_true, if_false]
      rw [show (⟨5, [40], 0, [], 0⟩ : Tok) = sym [40] from rfl, takeT_full rfl, bindR]
    · have hw := whole_er ho h (r := sym [41] :: r) (d := d + 1) (by omega) (by omega)
      refine (Big.err (G := fun f e ts d => bindR (takeT [41] ts d) fun _ ts d => .ok (e, ts, d)) hw).congr fun f => ?_
      rw [pPrim, isK_c, isK_c, isK_c]
      simp only [sym, Nat.reduceBEq, Bool.false_eq_true, if_false]
      rw [show (⟨5, [40], 0, [], 0⟩ : Tok) = sym [40] from rfl, takeT_open rfl h32, bindR, List.append_assoc]
      rfl
 refine ⟨fun lv r d res hl hl' _ hr hd hb => ?_, fun r d _ hr hd => ?_, fun lv r d hl hl' _ hd hd' => ?_⟩
 · cases e1 : low e lv with
   | true => rw [tkL, encT, e1, if_pos (by rfl)]; rw [nL, encN, e1, if_pos (by rfl)] at hd; exact p.ok lv r d res hl hl' trivial hr (by omega) hb
   | false => rw [tkL, encT, e1, if_neg (by simp)]; rw [nL, encN, e1, if_neg (by simp)] at hd; exact h.ok lv r d res hl hl' e1 hr hd hb
 · cases e1 : low e 11 with
   | true => rw [tkL, encT, e1, if_pos (by rfl)]; rw [nL, encN, e1, if_pos (by rfl)] at hd; exact p.top r d trivial hr (by omega)
   | false => rw [tkL, encT, e1, if_neg (by simp)]; rw [nL, encN, e1, if_neg (by simp)] at hd; exact h.top r d e1 hr hd
 · cases e1 : low e lv with
   | true => rw [tkL, encT, e1, if_pos (by rfl)]; rw [nL, encN, e1, if_pos (by rfl)] at hd'; exact p.er lv r d hl hl' trivial hd (by omega)
   | false => rw [tkL, encT, e1, if_neg (by simp)]; rw [nL, encN, e1, if_neg (by simp)] at hd'; exact h.er lv r d hl hl' e1 hd hd'
theorem RB.any {X : List Tok} {n : Nat} {e : E} {c : Nat → Prop} (h : RB (fun _ => X) (fun _ => n) e (fun _ => True)) : RB (fun _ => X) (fun _ => n) e c :=
 ⟨fun lv r d res hl hl' _ => h.ok lv r d res hl hl' trivial, fun r d _ => h.top r d trivial, fun lv r d hl hl' _ => h.er lv r d hl hl' trivial⟩
theorem head_xL {x : Bytes} (hx : x = [41] ∨ x = [59]) {e : E} (h : ∀ r, isT (tkE e ++ r) x = false) (lv : Nat) (r : List Tok) : isT (tkL lv e ++ r) x = false := by
 unfold tkL encT
 split
 · rw [List.cons_append, isT_sym]; rcases hx with rfl | rfl <;> rfl
 · exact h r
theorem head_x {x : Bytes} (hx : x = [41] ∨ x = [59]) {e : E} (h : OkE e) : ∀ r, isT (tkE e ++ r) x = false := by
 induction h with
 | num _ => intro r; rw [tk_num]; exact isT_num ..
 | str _ => intro r; rw [tk_str]; exact isT_str ..
 | var _ => intro r; rw [tk_var]; exact isT_idt ..
 | elem _ _ _ => intro r; rw [tk_elem]; exact isT_idt ..
 | call _ _ _ => intro r; rw [tk_call]; exact isT_idt ..
 | un ho _ _ => intro r; rw [tk_un, List.cons_append, isT_sym]; rcases ho with rfl | rfl | rfl <;> rcases hx with rfl | rfl <;> rfl
 | bin _ _ _ iha _ => intro r; rw [tk_bin, List.append_assoc]; exact head_xL hx iha _ _
theorem head_tk {e : E} (h : OkE e) (r : List Tok) : isT (tkE e ++ r) [41] = false := head_x (.inl rfl) h r
theorem head_semi {e : E} (h : OkE e) (r : List Tok) : isT (tkE e ++ r) [59] = false := head_x (.inr rfl) h r
theorem prim_n {k : Nat} {t : Bytes} {v : Nat} {b : Bytes} {r : List Tok} {d : Int} {f : Nat} (h2 : k ≠ 2) (h3 : k ≠ 3) (h1 : k = 1) : pPrim (f + 1) (⟨k, t, v, b, 0⟩ :: r) d = pName f (⟨k, t, v, b, 0⟩ :: r) d := by
 subst h1
 rw [pPrim, isK_c, isK_c, isK_c]
 rfl
theorem un_name {n : Bytes} {r : List Tok} {d : Int} {res : R E} (h : Big (fun f => pName f (idt n :: r) d) res) : Big (fun f => pUn f (idt n :: r) d) res := by
 refine un_prim (fun x _ => isT_idt ..) ?_
 refine Big.step ?_
 exact h.congr fun f => prim_n (by decide) (by decide) rfl
theorem more_ok {d : Int} {r : List Tok} : ∀ (es l : List E), (∀ e ∈ es, OkE e ∧ RB (fun _ => tkE e) (fun _ => nE e) (zE e) (fun lv => low e lv = false)) → d + maxN (nEs es) ≤ 32 →
 Big (fun f => pMore f l (moreT (tkEs es) ++ sym [41] :: r) d) (.ok (l ++ zEs es, sym [41] :: r, d))
 | [], l, _, _ => by
   refine Big.step ?_
   refine Big.const.congr fun f => ?_
   rw [show moreT (tkEs []) ++ sym [41] :: r = sym [41] :: r from rfl, pMore, isT_sym, if_neg (by decide)]
   simp [zEs]
 | e :: es, l, h, hd => by
   obtain ⟨ho, hb⟩ := h e (List.mem_cons_self ..)
   simp only [nEs, maxN] at hd
   have ih := more_ok (d := d) (r := r) es (l ++ [zE e]) (fun x hx => h x (List.mem_cons_of_mem _ hx)) (by omega)
   rw [List.append_assoc] at ih
   have hf : Fol 0 (moreT (tkEs es) ++ sym [41] :: r) := by
    cases es with
    | nil => exact fol_close (.inl rfl)
    | cons x es => exact fol_close (.inr (.inr (.inl rfl)))
   refine Big.step ?_
   refine (Big.bind (G := fun f e ts d => pMore f (l ++ [e]) ts d) (whole_ok ho hb hf (by omega)) ih).congr fun f => ?_
   · rw [show moreT (tkEs (e :: es)) ++ sym [41] :: r = sym [44] :: (tkE e ++ (moreT (tkEs es) ++ sym [41] :: r)) by simp [tkEs, moreT], pMore, isT_sym, if_pos (by rfl), takeT_plain rfl rfl, bindR]
theorem more_er {d : Int} (h32 : d ≤ 32) {r : List Tok} : ∀ (es l : List E), (∀ e ∈ es, OkE e ∧ RB (fun _ => tkE e) (fun _ => nE e) (zE e) (fun lv => low e lv = false)) → 32 < d + maxN (nEs es) →
 Big (fun f => pMore f l (moreT (tkEs es) ++ sym [41] :: r) d) (.error (9, 0))
 | [], l, _, hd => by simp only [nEs, maxN] at hd; omega
 | e :: es, l, h, hd => by
   obtain ⟨ho, hb⟩ := h e (List.mem_cons_self ..)
   simp only [nEs, maxN] at hd
   have hf : Fol 0 (moreT (tkEs es) ++ sym [41] :: r) := by
    cases es with
    | nil => exact fol_close (.inl rfl)
    | cons x es => exact fol_close (.inr (.inr (.inl rfl)))
   refine Big.step ?_
   by_cases h1 : 32 < d + nE e
   · refine (Big.err (G := fun f e ts d => pMore f (l ++ [e]) ts d) (whole_er ho hb (r := moreT (tkEs es) ++ sym [41] :: r) h32 h1)).congr fun f => ?_
     · rw [show moreT (tkEs (e :: es)) ++ sym [41] :: r = sym [44] :: (tkE e ++ (moreT (tkEs es) ++ sym [41] :: r)) by simp [tkEs, moreT], pMore, isT_sym, if_pos (by rfl), takeT_plain rfl rfl, bindR]
   · have ih := more_er h32 (r := r) es (l ++ [zE e]) (fun x hx => h x (List.mem_cons_of_mem _ hx)) (by omega)
     refine (Big.bind (G := fun f e ts d => pMore f (l ++ [e]) ts d) (whole_ok ho hb hf (by omega)) ih).congr fun f => ?_
     · rw [show moreT (tkEs (e :: es)) ++ sym [41] :: r = sym [44] :: (tkE e ++ (moreT (tkEs es) ++ sym [41] :: r)) by simp [tkEs, moreT], pMore, isT_sym, if_pos (by rfl), takeT_plain rfl rfl, bindR]
theorem args_ok {d : Int} {r : List Tok} {es : List E} (h : ∀ e ∈ es, OkE e ∧ RB (fun _ => tkE e) (fun _ => nE e) (zE e) (fun lv => low e lv = false)) (hd : d + maxN (nEs es) ≤ 32) :
 Big (fun f => pArgs f (commaT (tkEs es) ++ sym [41] :: r) d) (.ok (zEs es, sym [41] :: r, d)) := by
 refine Big.step ?_
 cases es with
 | nil =>
   refine Big.const.congr fun f => ?_
   rw [show commaT (tkEs []) ++ sym [41] :: r = sym [41] :: r from rfl, pArgs, isT_sym, if_pos (by rfl)]
   rfl
 | cons e es =>
   obtain ⟨ho, hb⟩ := h e (List.mem_cons_self ..)
   simp only [nEs, maxN] at hd
   have hf : Fol 0 (moreT (tkEs es) ++ sym [41] :: r) := by
    cases es with
    | nil => exact fol_close (.inl rfl)
    | cons x es => exact fol_close (.inr (.inr (.inl rfl)))
   have hm := more_ok (d := d) (r := r) es [zE e] (fun x hx => h x (List.mem_cons_of_mem _ hx)) (by omega)
   refine (Big.bind (G := fun f e ts d => pMore f [e] ts d) (whole_ok ho hb hf (by omega)) hm).congr fun f => ?_
   rw [show commaT (tkEs (e :: es)) ++ sym [41] :: r = tkE e ++ (moreT (tkEs es) ++ sym [41] :: r) by simp [tkEs, commaT], pArgs, head_tk ho, if_neg (by simp)]
theorem args_er {d : Int} (h32 : d ≤ 32) {r : List Tok} {es : List E} (h : ∀ e ∈ es, OkE e ∧ RB (fun _ => tkE e) (fun _ => nE e) (zE e) (fun lv => low e lv = false)) (hd : 32 < d + maxN (nEs es)) :
 Big (fun f => pArgs f (commaT (tkEs es) ++ sym [41] :: r) d) (.error (9, 0)) := by
 refine Big.step ?_
 cases es with
 | nil => simp only [nEs, maxN] at hd; omega
 | cons e es =>
   obtain ⟨ho, hb⟩ := h e (List.mem_cons_self ..)
   simp only [nEs, maxN] at hd
   have hf : Fol 0 (moreT (tkEs es) ++ sym [41] :: r) := by
    cases es with
    | nil => exact fol_close (.inl rfl)
    | cons x es => exact fol_close (.inr (.inr (.inl rfl)))
   have eq : ∀ f, pArgs (f + 1) (commaT (tkEs (e :: es)) ++ sym [41] :: r) d = bindR (pBin f 1 (tkE e ++ (moreT (tkEs es) ++ sym [41] :: r)) d) fun e ts d => pMore f [e] ts d := fun f => by
    rw [show commaT (tkEs (e :: es)) ++ sym [41] :: r = tkE e ++ (moreT (tkEs es) ++ sym [41] :: r) by simp [tkEs, commaT], pArgs, head_tk ho, if_neg (by simp)]
   by_cases h1 : 32 < d + nE e
   · exact (Big.err (G := fun f e ts d => pMore f [e] ts d) (whole_er ho hb (r := moreT (tkEs es) ++ sym [41] :: r) h32 h1)).congr eq
   · have hm := more_er h32 (r := r) es [zE e] (fun x hx => h x (List.mem_cons_of_mem _ hx)) (by omega)
     exact (Big.bind (G := fun f e ts d => pMore f [e] ts d) (whole_ok ho hb hf (by omega)) hm).congr eq
theorem call_ok {d : Int} {t : Tok} {r : List Tok} {es : List E} (h : ∀ e ∈ es, OkE e ∧ RB (fun _ => tkE e) (fun _ => nE e) (zE e) (fun lv => low e lv = false)) (hd : d + (maxN (nEs es) + 1 : Nat) ≤ 32) :
 Big (fun f => pCall f t (sym [40] :: (commaT (tkEs es) ++ sym [41] :: r)) d) (.ok (.mk 5 [] t.text 0 [] (zEs es) t.pos, r, d)) := by
 refine Big.step ?_
 refine (Big.bind (G := fun f l ts d => bindR (takeT [41] ts d) fun _ ts d => .ok (E.mk 5 [] t.text 0 [] l t.pos, ts, d)) (args_ok h (d := d + 1) (r := r) (by omega)) (r := .ok (E.mk 5 [] t.text 0 [] (zEs es) t.pos, r, d)) ?_).congr fun f => ?_
 · refine Big.const.congr fun f => ?_
   rw [takeT_close rfl, bindR, show d + 1 - 1 = d by omega]
 · rw [pCall, takeT_open rfl (by omega), bindR]
theorem call_er {d : Int} (h32 : d ≤ 32) {t : Tok} {r : List Tok} {es : List E} (h : ∀ e ∈ es, OkE e ∧ RB (fun _ => tkE e) (fun _ => nE e) (zE e) (fun lv => low e lv = false)) (hd : 32 < d + (maxN (nEs es) + 1 : Nat)) :
 Big (fun f => pCall f t (sym [40] :: (commaT (tkEs es) ++ sym [41] :: r)) d) (.error (9, 0)) := by
 refine Big.step ?_
 by_cases e : d = 32
 · subst e
   refine Big.const.congr fun f => ?_
   rw [pCall, takeT_full rfl, bindR]
 · refine (Big.err (G := fun f l ts d => bindR (takeT [41] ts d) fun _ ts d => .ok (E.mk 5 [] t.text 0 [] l t.pos, ts, d)) (args_er (by omega) h (d := d + 1) (r := r) (by omega))).congr fun f => ?_
   rw [pCall, takeT_open rfl e, bindR]
theorem rb {e : E} (h : OkE e) : RB (fun _ => tkE e) (fun _ => nE e) (zE e) (fun lv => low e lv = false) := by
 induction h with
 | @num v p hv =>
   refine RB.any (RB.of_top (fun r d hr hd => ?_) (fun r d hd hd' => ?_))
   · rw [tk_num, List.cons_append, List.nil_append]
     refine un_prim (fun x _ => isT_num ..) ?_
     refine Big.step ?_
     refine Big.const.congr fun f => ?_
     rw [pPrim, isK_c, if_pos (by rfl)]; rfl
   · rw [n_num] at hd'; omega
 | @str b p hb =>
   refine RB.any (RB.of_top (fun r d hr hd => ?_) (fun r d hd hd' => ?_))
   · rw [tk_str, List.cons_append, List.nil_append]
     refine un_prim (fun x _ => isT_str ..) ?_
     refine Big.step ?_
     refine Big.const.congr fun f => ?_
     rw [pPrim, isK_c, isK_c, if_neg (by intro h; cases h), if_pos (by rfl)]; rfl
   · rw [n_str] at hd'; omega
 | @var n p hn =>
   refine RB.any (RB.of_top (fun r d hr hd => ?_) (fun r d hd hd' => ?_))
   · rw [tk_var, List.cons_append, List.nil_append]
     refine un_name ?_
     refine Big.step ?_
     refine Big.const.congr fun f => ?_
     rw [pName, List.tail_cons, hr.1, hr.2.1]; rfl
   · rw [n_var] at hd'; omega
 | @elem n e p hn oe ih =>
   have eq : ∀ r d, d ≠ 32 → ∀ f, pName (f + 1) (idt n :: sym [91] :: (tkE e ++ sym [93] :: r)) d = bindR (pBin f 1 (tkE e ++ sym [93] :: r) (d + 1)) fun e ts d => bindR (takeT [93] ts d) fun _ ts d => .ok (E.mk 4 [] n 0 [] [e] 0, ts, d) := fun r d hd f => by
    rw [pName, List.tail_cons, isT_sym, isT_sym, if_neg (by decide), if_pos (by rfl), takeT_open rfl hd, bindR]
    rfl
   refine RB.any (RB.of_top (fun r d hr hd => ?_) (fun r d hd hd' => ?_))
   · rw [n_elem] at hd
     rw [tk_elem, List.cons_append, List.cons_append, List.append_assoc]
     refine un_name ?_
     refine Big.step ?_
     refine (Big.bind (whole_ok oe ih (r := sym [93] :: r) (d := d + 1) (fol_close (.inr (.inl rfl))) (by omega)) (r := .ok (zE (.mk 4 [] n 0 [] [e] p), r, d)) ?_).congr (eq r d (by omega))
     refine Big.const.congr fun f => ?_
     rw [takeT_close rfl, bindR, show d + 1 - 1 = d by omega]; rfl
   · rw [n_elem] at hd'
     rw [tk_elem, List.cons_append, List.cons_append, List.append_assoc]
     refine un_name ?_
     refine Big.step ?_
     by_cases e32 : d = 32
     · subst e32
       refine Big.const.congr fun f => ?_
       rw [pName, List.tail_cons, isT_sym, isT_sym, if_neg (by decide), if_pos (by rfl), takeT_full rfl, bindR]
     · exact (Big.err (whole_er oe ih (r := sym [93] :: r) (d := d + 1) (by omega) (by omega))).congr (eq r d e32)
 | @call n es p hn hes ih =>
   have hh : ∀ e ∈ es, OkE e ∧ RB (fun _ => tkE e) (fun _ => nE e) (zE e) (fun lv => low e lv = false) := fun e he => ⟨hes e he, ih e he⟩
   have eq : ∀ r d f, pName (f + 1) (idt n :: sym [40] :: (commaT (tkEs es) ++ sym [41] :: r)) d = pCall f (idt n) (sym [40] :: (commaT (tkEs es) ++ sym [41] :: r)) d := fun r d f => by
    rw [pName, List.tail_cons, isT_sym, if_pos (by rfl)]; rfl
   refine RB.any (RB.of_top (fun r d hr hd => ?_) (fun r d hd hd' => ?_))
   · rw [n_call] at hd
     rw [tk_call, List.cons_append, List.cons_append, List.append_assoc]
     refine un_name ?_
     refine Big.step ?_
     exact (call_ok hh hd).congr (eq r d)
   · rw [n_call] at hd'
     rw [tk_call, List.cons_append, List.cons_append, List.append_assoc]
     refine un_name ?_
     refine Big.step ?_
     exact (call_er hd hh hd').congr (eq r d)
 | @un op e p ho oe ih =>
   have hp := RB.par oe ih
   have eq : ∀ r d f, pUn (f + 1) (sym op :: (tkL 11 e ++ r)) d = bindR (pUn f (tkL 11 e ++ r) d) fun e ts' d' => .ok (E.mk 6 op [] 0 [] [e] 0, ts', d') := fun r d f => by
    rw [pUn, isT_sym, isT_sym, isT_sym, if_pos (by rcases ho with rfl | rfl | rfl <;> rfl)]; rfl
   have top : ∀ r d (res : R E), Big (fun f => pBin f 11 (tkL 11 e ++ r) d) res → Big (fun f => pUn f (tkL 11 e ++ r) d) res := by
    rintro r d res ⟨F, hF⟩
    refine ⟨F, fun f hf => ?_⟩
    have := hF (f + 1) (by omega)
    simp only [pBin, if_pos] at this
    exact this
   refine RB.any (RB.of_top (fun r d hr hd => ?_) (fun r d hd hd' => ?_))
   · rw [n_un] at hd
     rw [tk_un, List.cons_append]
     refine Big.step ?_
     exact (Big.bind (top r d _ (hp.top r d trivial hr hd)) (r := .ok (zE (.mk 6 op [] 0 [] [e] p), r, d)) Big.const).congr (eq r d)
   · rw [n_un] at hd'
     rw [tk_un, List.cons_append]
     refine Big.step ?_
     exact (Big.err (top r d _ (hp.er 11 r d (by decide) (Nat.le_refl _) trivial hd hd'))).congr (eq r d)
 | @bin op a b p ho oa ob iha ihb =>
   have pa := RB.par oa iha
   have pb := RB.par ob ihb
   have hL := level_le op
   have fo : ∀ r, Fol (levelS op) (sym op :: r) := fun r => by
    refine Fol.sym (fun e => ?_) (fun e => ?_) (Nat.le_refl _)
    · subst e; cases ho
    · subst e; cases ho
   have eq : ∀ r d f, pLoop (f + 1) (levelS op) (zE a) (sym op :: (tkL (levelS op + 1) b ++ r)) d = bindR (pBin f (levelS op + 1) (tkL (levelS op + 1) b ++ r) d) fun e' ts' d' => pLoop f (levelS op) (.mk 7 op [] 0 [] [zE a, e'] 0) ts' d' := fun r d f => by
    rw [pLoop, isK_c, if_pos (by simp [hd, sym])]; rfl
   have base : ∀ (r : List Tok) (d : Int) (res : R E), Fol (levelS op) r → d + (nE (.mk 7 op [] 0 [] [a, b] p) : Nat) ≤ 32 → Big (fun f => pLoop f (levelS op) (zE (.mk 7 op [] 0 [] [a, b] p)) r d) res → Big (fun f => pBin f (levelS op) (tkE (.mk 7 op [] 0 [] [a, b] p) ++ r) d) res := by
    intro r d res hr hd hb
    rw [n_bin] at hd
    rw [tk_bin, List.append_assoc]
    refine pa.ok _ _ d res ho hL trivial (fo _) (by omega) ?_
    refine Big.step ?_
    refine (Big.bind (G := fun f e' ts' d' => pLoop f (levelS op) (.mk 7 op [] 0 [] [zE a, e'] 0) ts' d') (a := zE b) (ts := r) (d := d) ?_ hb).congr (eq r d)
    by_cases h10 : levelS op = 10
    · rw [h10]
      rw [h10] at hr hd
      have hd' : d + (max (nL 10 a) (nL 11 b) : Nat) ≤ 32 := hd
      exact pb.top r d trivial hr (by omega)
    · exact pb.ok _ r d _ (by omega) (by omega) trivial (hr.up (by omega)) (by omega) (loop_end hr)
   have lv_le : ∀ lv, low (.mk 7 op [] 0 [] [a, b] p) lv = false → lv ≤ levelS op := by
    intro lv hlv
    simp [low, xk, xo] at hlv
    exact Nat.le_of_not_lt (of_decide_eq_false hlv)
   refine ⟨fun lv r d res hl hl' hc hr hd hb => ?_, fun r d hc hr hd => ?_, fun lv r d hl hl' hc hd hd' => ?_⟩
   · have hle := lv_le lv hc
     by_cases e : lv = levelS op
     · subst e; exact base r d res hr hd hb
     · refine bin_lower (L := levelS op) (base r d _ (hr.up hle) hd ?_) (by omega) (levelS op - lv - 1) lv res (by omega) hr hb
       have := loop_end (lv := levelS op - 1) (e := zE (.mk 7 op [] 0 [] [a, b] p)) (d := d) (hr.up (lv' := levelS op - 1) (by omega))
       rw [show levelS op - 1 + 1 = levelS op by omega] at this
       exact this
   · have := lv_le 11 hc; omega
   · have hle := lv_le lv hc
     refine bin_err (L := levelS op) ?_ (by omega) (levelS op - lv) lv (by omega)
     rw [n_bin] at hd'
     rw [tk_bin, List.append_assoc]
     by_cases h1 : 32 < d + (nL (levelS op) a : Nat)
     · exact pa.er _ _ d ho (by omega) trivial hd h1
     · refine pa.ok _ _ d _ ho hL trivial (fo _) (by omega) ?_
       refine Big.step ?_
       exact (Big.err (pb.er _ r d (by omega) (by omega) trivial hd (by omega))).congr (eq r d)
end Go.Sx
namespace Go.Sx
def kVar : Bytes := [118, 97, 114]
def kIf : Bytes := [105, 102]
def kElse : Bytes := [101, 108, 115, 101]
def kWhile : Bytes := [119, 104, 105, 108, 101]
def kRet : Bytes := [114, 101, 116, 117, 114, 110]
def kBrk : Bytes := [98, 114, 101, 97, 107]
def kCont : Bytes := [99, 111, 110, 116, 105, 110, 117, 101]
def kFunc : Bytes := [102, 117, 110, 99]
def sk : S → Nat | .mk k _ _ _ _ _ => k
def chain : List S → Bool
 | [s] => sk s == 5
 | _ => false
mutual
def tkS : S → List Tok
 | .mk k nm args body els _ =>
   if k = 1 then kwd kVar :: idt nm :: (if args.isEmpty then [sym [59]] else sym [61] :: ((tkEs args).getD 0 [] ++ [sym [59]]))
   else if k = 2 then idt nm :: sym [61] :: ((tkEs args).getD 0 [] ++ [sym [59]])
   else if k = 3 then idt nm :: sym [91] :: ((tkEs args).getD 0 [] ++ sym [93] :: sym [61] :: ((tkEs args).getD 1 [] ++ [sym [59]]))
   else if k = 4 then (tkEs args).getD 0 [] ++ [sym [59]]
   else if k = 5 then kwd kIf :: sym [40] :: ((tkEs args).getD 0 [] ++ sym [41] :: sym [123] :: (tkSs body ++ sym [125] :: (if els.isEmpty then [] else if chain els then kwd kElse :: tkSs els else kwd kElse :: sym [123] :: (tkSs els ++ [sym [125]]))))
   else if k = 6 then kwd kWhile :: sym [40] :: ((tkEs args).getD 0 [] ++ sym [41] :: sym [123] :: (tkSs body ++ [sym [125]]))
   else if k = 7 then kwd kRet :: (if args.isEmpty then [sym [59]] else (tkEs args).getD 0 [] ++ [sym [59]])
   else if k = 8 then [kwd kBrk, sym [59]] else [kwd kCont, sym [59]]
def tkSs : List S → List Tok
 | [] => []
 | s :: l => tkS s ++ tkSs l
end
mutual
def nS : S → Nat
 | .mk k _ args body els _ =>
   if k = 3 then max ((nEs args).getD 0 0 + 1) ((nEs args).getD 1 0)
   else if k = 5 then max ((nEs args).getD 0 0 + 1) (max (nSs body + 1) (if els.isEmpty then 0 else if chain els then nSs els else nSs els + 1))
   else if k = 6 then max ((nEs args).getD 0 0 + 1) (nSs body + 1)
   else (nEs args).getD 0 0
def nSs : List S → Nat
 | [] => 0
 | s :: l => max (nS s) (nSs l)
end
inductive OkS : S → Prop where
 | decl {n : Bytes} {p : Nat} : nameOk n → OkS (.mk 1 n [] [] [] p)
 | decl1 {n : Bytes} {e : E} {p : Nat} : nameOk n → OkE e → OkS (.mk 1 n [e] [] [] p)
 | asg {n : Bytes} {e : E} {p : Nat} : nameOk n → OkE e → OkS (.mk 2 n [e] [] [] p)
 | sto {n : Bytes} {i e : E} {p : Nat} : nameOk n → OkE i → OkE e → OkS (.mk 3 n [i, e] [] [] p)
 | call {n : Bytes} {es : List E} {p q : Nat} : nameOk n → (∀ e ∈ es, OkE e) → OkS (.mk 4 [] [.mk 5 [] n 0 [] es q] [] [] p)
 | ifs {e : E} {b c : List S} {p : Nat} : OkE e → (∀ s ∈ b, OkS s) → (∀ s ∈ c, OkS s) → OkS (.mk 5 [] [e] b c p)
 | whl {e : E} {b : List S} {p : Nat} : OkE e → (∀ s ∈ b, OkS s) → OkS (.mk 6 [] [e] b [] p)
 | ret {p : Nat} : OkS (.mk 7 [] [] [] [] p)
 | ret1 {e : E} {p : Nat} : OkE e → OkS (.mk 7 [] [e] [] [] p)
 | brk {p : Nat} : OkS (.mk 8 [] [] [] [] p)
 | cont {p : Nat} : OkS (.mk 9 [] [] [] [] p)
theorem ts_decl (n : Bytes) (p : Nat) : tkS (.mk 1 n [] [] [] p) = [kwd kVar, idt n, sym [59]] := by simp [tkS]
theorem ts_decl1 (n : Bytes) (e : E) (p : Nat) : tkS (.mk 1 n [e] [] [] p) = kwd kVar :: idt n :: sym [61] :: (tkE e ++ [sym [59]]) := by simp [tkS, tkEs]
theorem ts_asg (n : Bytes) (e : E) (p : Nat) : tkS (.mk 2 n [e] [] [] p) = idt n :: sym [61] :: (tkE e ++ [sym [59]]) := by simp [tkS, tkEs]
theorem ts_sto (n : Bytes) (i e : E) (p : Nat) : tkS (.mk 3 n [i, e] [] [] p) = idt n :: sym [91] :: (tkE i ++ sym [93] :: sym [61] :: (tkE e ++ [sym [59]])) := by simp [tkS, tkEs]
theorem ts_call (n : Bytes) (es : List E) (p q : Nat) : tkS (.mk 4 [] [.mk 5 [] n 0 [] es q] [] [] p) = idt n :: sym [40] :: (commaT (tkEs es) ++ [sym [41], sym [59]]) := by simp [tkS, tkEs, tkE]
def elT (c : List S) : List Tok := if c.isEmpty then [] else if chain c then kwd kElse :: tkSs c else kwd kElse :: sym [123] :: (tkSs c ++ [sym [125]])
theorem ts_if (e : E) (b c : List S) (p : Nat) : tkS (.mk 5 [] [e] b c p) = kwd kIf :: sym [40] :: (tkE e ++ sym [41] :: sym [123] :: (tkSs b ++ sym [125] :: elT c)) := by simp [tkS, tkEs, elT]
theorem ts_while (e : E) (b : List S) (p : Nat) : tkS (.mk 6 [] [e] b [] p) = kwd kWhile :: sym [40] :: (tkE e ++ sym [41] :: sym [123] :: (tkSs b ++ [sym [125]])) := by simp [tkS, tkEs]
theorem ts_ret (p : Nat) : tkS (.mk 7 [] [] [] [] p) = [kwd kRet, sym [59]] := by simp [tkS]
theorem ts_ret1 (e : E) (p : Nat) : tkS (.mk 7 [] [e] [] [] p) = kwd kRet :: (tkE e ++ [sym [59]]) := by simp [tkS, tkEs]
theorem ts_brk (p : Nat) : tkS (.mk 8 [] [] [] [] p) = [kwd kBrk, sym [59]] := by simp [tkS]
theorem ts_cont (p : Nat) : tkS (.mk 9 [] [] [] [] p) = [kwd kCont, sym [59]] := by simp [tkS]
def elN (c : List S) : Nat := if c.isEmpty then 0 else if chain c then nSs c else nSs c + 1
theorem ns_if (e : E) (b c : List S) (p : Nat) : nS (.mk 5 [] [e] b c p) = max (nE e + 1) (max (nSs b + 1) (elN c)) := by simp [nS, nEs, elN]
theorem ns_while (e : E) (b : List S) (p : Nat) : nS (.mk 6 [] [e] b [] p) = max (nE e + 1) (nSs b + 1) := by simp [nS, nEs]
theorem ns_sto (n : Bytes) (i e : E) (p : Nat) : nS (.mk 3 n [i, e] [] [] p) = max (nE i + 1) (nE e) := by simp [nS, nEs]
theorem ns_decl1 (n : Bytes) (e : E) (p : Nat) : nS (.mk 1 n [e] [] [] p) = nE e := by simp [nS, nEs]
theorem ns_asg (n : Bytes) (e : E) (p : Nat) : nS (.mk 2 n [e] [] [] p) = nE e := by simp [nS, nEs]
theorem ns_call (n : Bytes) (es : List E) (p q : Nat) : nS (.mk 4 [] [.mk 5 [] n 0 [] es q] [] [] p) = maxN (nEs es) + 1 := by simp [nS, nEs, nE]
theorem ns_ret1 (e : E) (p : Nat) : nS (.mk 7 [] [e] [] [] p) = nE e := by simp [nS, nEs]
theorem isT_kwd (t x : Bytes) (r : List Tok) : isT (kwd t :: r) x = (t == x) := by simp [isT, hd, kwd]
theorem head_ts {s : S} (h : OkS s) (r : List Tok) : isT (tkS s ++ r) [125] = false ∧ isT (tkS s ++ r) kElse = false := by
 cases h with
 | decl => rw [ts_decl]; exact ⟨by rw [List.cons_append, isT_kwd]; rfl, by rw [List.cons_append, isT_kwd]; rfl⟩
 | decl1 => rw [ts_decl1]; exact ⟨by rw [List.cons_append, isT_kwd]; rfl, by rw [List.cons_append, isT_kwd]; rfl⟩
 | asg => rw [ts_asg]; exact ⟨isT_idt .., isT_idt ..⟩
 | sto => rw [ts_sto]; exact ⟨isT_idt .., isT_idt ..⟩
 | call => rw [ts_call]; exact ⟨isT_idt .., isT_idt ..⟩
 | ifs => rw [ts_if]; exact ⟨by rw [List.cons_append, isT_kwd]; rfl, by rw [List.cons_append, isT_kwd]; rfl⟩
 | whl => rw [ts_while]; exact ⟨by rw [List.cons_append, isT_kwd]; rfl, by rw [List.cons_append, isT_kwd]; rfl⟩
 | ret => rw [ts_ret]; exact ⟨by rw [List.cons_append, isT_kwd]; rfl, by rw [List.cons_append, isT_kwd]; rfl⟩
 | ret1 => rw [ts_ret1]; exact ⟨by rw [List.cons_append, isT_kwd]; rfl, by rw [List.cons_append, isT_kwd]; rfl⟩
 | brk => rw [ts_brk]; exact ⟨by rw [List.cons_append, isT_kwd]; rfl, by rw [List.cons_append, isT_kwd]; rfl⟩
 | cont => rw [ts_cont]; exact ⟨by rw [List.cons_append, isT_kwd]; rfl, by rw [List.cons_append, isT_kwd]; rfl⟩
theorem ex_ok {e : E} (ho : OkE e) {r : List Tok} {d : Int} (hr : Fol 0 r) (h : d + nE e ≤ 32) : Big (fun f => pBin f 1 (tkE e ++ r) d) (.ok (zE e, r, d)) := whole_ok ho (rb ho) hr h
theorem cond_ok {e : E} (ho : OkE e) {r : List Tok} {d : Int} (h : d + (nE e + 1 : Nat) ≤ 32) : Big (fun f => pCond f (sym [40] :: (tkE e ++ sym [41] :: r)) d) (.ok (zE e, r, d)) := by
 refine (Big.bind (G := fun _ e ts d => bindR (takeT [41] ts d) fun _ ts d => .ok (e, ts, d)) (ex_ok ho (r := sym [41] :: r) (d := d + 1) (fol_close (.inl rfl)) (by omega)) (r := .ok (zE e, r, d)) ?_).congr fun f => ?_
 · refine Big.const.congr fun f => ?_
   rw [takeT_close rfl, bindR, show d + 1 - 1 = d by omega]
 · rw [pCond, takeT_open rfl (by omega), bindR]
def RSt (s : S) : Prop := ∀ (r : List Tok) (d : Int), isT r kElse = false → d + (nS s : Nat) ≤ 32 → Big (fun f => pStmt f (tkS s ++ r) d) (.ok (zS s, r, d)) ∧ (sk s = 5 → Big (fun f => pIf f (tkS s ++ r) d) (.ok (zS s, r, d)) ∧ isT (tkS s ++ r) kIf = true)
theorem stmts_ok {d : Int} {r : List Tok} : ∀ (l acc : List S), (∀ s ∈ l, OkS s ∧ RSt s) → d + (nSs l + 1 : Nat) ≤ 32 → Big (fun f => pStmts f acc (tkSs l ++ sym [125] :: r) (d + 1)) (.ok (acc ++ zSs l, r, d))
 | [], acc, _, _ => by
   refine Big.step ?_
   refine Big.const.congr fun f => ?_
   rw [tkSs, List.nil_append, pStmts, isT_sym, if_pos (by rfl), takeT_close rfl, bindR, show d + 1 - 1 = d by omega]
   simp [zSs]
 | s :: l, acc, h, hn => by
   obtain ⟨ho, hs⟩ := h s (List.mem_cons_self ..)
   rw [nSs] at hn
   have ih := stmts_ok (d := d) (r := r) l (acc ++ [zS s]) (fun x hx => h x (List.mem_cons_of_mem _ hx)) (by omega)
   have hf : isT (tkSs l ++ sym [125] :: r) kElse = false := by
    cases l with
    | nil => rw [tkSs, List.nil_append, isT_sym]; rfl
    | cons x l => rw [tkSs, List.append_assoc]; exact (head_ts (h x (by simp)).1 _).2
   refine Big.step ?_
   refine (Big.bind (G := fun f s ts d => pStmts f (acc ++ [s]) ts d) (hs (tkSs l ++ sym [125] :: r) (d + 1) hf (by omega)).1 (by simpa [zSs] using ih)).congr fun f => ?_
   rw [tkSs, List.append_assoc, pStmts, (head_ts ho _).1, if_neg (by simp)]
theorem block_ok {d : Int} {r : List Tok} {l : List S} (h : ∀ s ∈ l, OkS s ∧ RSt s) (hn : d + (nSs l + 1 : Nat) ≤ 32) : Big (fun f => pBlock f (sym [123] :: (tkSs l ++ sym [125] :: r)) d) (.ok (zSs l, r, d)) := by
 refine Big.step ?_
 refine (stmts_ok l [] h hn).congr fun f => ?_
 rw [pBlock, takeT_open rfl (by omega), bindR]
theorem takeT_semi {r : List Tok} {d : Int} : takeT [59] (sym [59] :: r) d = .ok ((), r, d) := takeT_plain rfl rfl
theorem takeT_eq {r : List Tok} {d : Int} : takeT [61] (sym [61] :: r) d = .ok ((), r, d) := takeT_plain rfl rfl
theorem exsemi {α : Type} {e : E} (ho : OkE e) {r : List Tok} {d : Int} (h : d + nE e ≤ 32) {g : E → α} {x : α} (hx : g (zE e) = x) : Big (fun f => bindR (pBin f 1 (tkE e ++ sym [59] :: r) d) fun e ts d => bindR (takeT [59] ts d) fun _ ts d => .ok (g e, ts, d)) (.ok (x, r, d)) := by
 refine Big.bind (G := fun _ e ts d => bindR (takeT [59] ts d) fun _ ts d => .ok (g e, ts, d)) (ex_ok ho (r := sym [59] :: r) (fol_close (.inr (.inr (.inr rfl)))) h) ?_
 refine Big.const.congr fun f => ?_
 rw [takeT_semi, bindR, hx]
theorem stmt_named {n : Bytes} {r : List Tok} {d : Int} {res : R S} (h : Big (fun f => pNamed f (idt n :: r) d) res) : Big (fun f => pStmt f (idt n :: r) d) res := by
 refine Big.step ?_
 refine h.congr fun f => ?_
 rw [pStmt, isK_c, if_pos (by rfl)]
theorem isK_kwd (t : Bytes) (r : List Tok) : isK (kwd t :: r) 1 = false := rfl
theorem tail_c (t : Tok) (r : List Tok) : (t :: r).tail = r := rfl
theorem takeK_idt (n : Bytes) (r : List Tok) (d : Int) : takeK 1 (idt n :: r) d = .ok (idt n, r, d) := by rw [takeK, isK_c]; rfl
theorem rs {s : S} (h : OkS s) : RSt s := by
 induction h with
 | @decl n p hn =>
   intro r d hr hd
   refine ⟨?_, fun e => by cases e⟩
   rw [ts_decl]
   refine Big.step ?_
   refine Big.const.congr fun f => ?_
   rw [show [kwd kVar, idt n, sym [59]] ++ r = kwd kVar :: idt n :: sym [59] :: r from rfl, pStmt, isK_kwd, if_neg (by simp), isT_kwd, if_pos (by rfl), tail_c, takeK_idt, bindR, isT_sym, if_neg (by decide), takeT_semi, bindR]
   rfl
 | @decl1 n e p hn he =>
   intro r d hr hd
   rw [ns_decl1] at hd
   refine ⟨?_, fun e => by cases e⟩
   rw [ts_decl1]
   refine Big.step ?_
   refine (exsemi he hd (g := fun e => S.mk 1 n [e] [] [] 0) (r := r) rfl).congr fun f => ?_
   rw [show kwd kVar :: idt n :: sym [61] :: (tkE e ++ [sym [59]]) ++ r = kwd kVar :: idt n :: sym [61] :: (tkE e ++ sym [59] :: r) by simp, pStmt, isK_kwd, if_neg (by simp), isT_kwd, if_pos (by rfl), tail_c, takeK_idt, bindR, isT_sym, if_pos (by rfl), takeT_eq, bindR]
   rfl
 | @asg n e p hn he =>
   intro r d hr hd
   rw [ns_asg] at hd
   refine ⟨?_, fun e => by cases e⟩
   rw [show tkS (.mk 2 n [e] [] [] p) ++ r = idt n :: sym [61] :: (tkE e ++ sym [59] :: r) by rw [ts_asg]; simp]
   refine stmt_named ?_
   refine Big.step ?_
   refine (exsemi he hd (g := fun e => S.mk 2 n [e] [] [] 0) (r := r) rfl).congr fun f => ?_
   rw [pNamed, tail_c, isT_sym, if_pos (by rfl), takeT_eq, bindR]
   rfl
 | @sto n i e p hn hi he =>
   intro r d hr hd
   rw [ns_sto] at hd
   refine ⟨?_, fun e => by cases e⟩
   rw [show tkS (.mk 3 n [i, e] [] [] p) ++ r = idt n :: sym [91] :: (tkE i ++ sym [93] :: sym [61] :: (tkE e ++ sym [59] :: r)) by rw [ts_sto]; simp]
   refine stmt_named ?_
   refine Big.step ?_
   refine (Big.bind (G := fun f i ts' d => bindR (takeT [93] ts' d) fun _ ts' d => bindR (takeT [61] ts' d) fun _ ts' d => bindR (pBin f 1 ts' d) fun e ts' d => bindR (takeT [59] ts' d) fun _ ts' d => .ok (S.mk 3 n [i, e] [] [] 0, ts', d))
    (ex_ok hi (r := sym [93] :: sym [61] :: (tkE e ++ sym [59] :: r)) (d := d + 1) (fol_close (.inr (.inl rfl))) (by omega)) (r := .ok (zS (.mk 3 n [i, e] [] [] p), r, d)) ?_).congr fun f => ?_
   · refine (exsemi he (d := d) (by omega) (g := fun e => S.mk 3 n [zE i, e] [] [] 0) (r := r) rfl).congr fun f => ?_
     rw [takeT_close rfl, bindR, show d + 1 - 1 = d by omega, takeT_eq, bindR]
   · rw [pNamed, tail_c, isT_sym, if_neg (by decide), isT_sym, if_pos (by rfl), takeT_open rfl (by omega), bindR]
     rfl
 | @call n es p q hn hes =>
   intro r d hr hd
   rw [ns_call] at hd
   refine ⟨?_, fun e => by cases e⟩
   rw [show tkS (.mk 4 [] [.mk 5 [] n 0 [] es q] [] [] p) ++ r = idt n :: sym [40] :: (commaT (tkEs es) ++ sym [41] :: sym [59] :: r) by rw [ts_call]; simp]
   refine stmt_named ?_
   refine Big.step ?_
   refine (Big.bind (G := fun f e ts' d => bindR (takeT [59] ts' d) fun _ ts' d => .ok (S.mk 4 [] [e] [] [] 0, ts', d))
    (call_ok (d := d) (t := idt n) (r := sym [59] :: r) (fun e he => ⟨hes e he, rb (hes e he)⟩) (by omega)) (r := .ok (zS (.mk 4 [] [.mk 5 [] n 0 [] es q] [] [] p), r, d)) ?_).congr fun f => ?_
   · refine Big.const.congr fun f => ?_
     rw [takeT_semi, bindR]
     rfl
   · rw [pNamed, tail_c, isT_sym, if_neg (by decide), isT_sym, if_neg (by decide)]
     rfl
 | @ifs e b c p he hb hc ihb ihc =>
   intro r d hr hd
   rw [ns_if] at hd
   have hbb : ∀ s ∈ b, OkS s ∧ RSt s := fun s hs => ⟨hb s hs, ihb s hs⟩
   have hcc : ∀ s ∈ c, OkS s ∧ RSt s := fun s hs => ⟨hc s hs, ihc s hs⟩
   have hif : Big (fun f => pIf f (kwd kIf :: sym [40] :: (tkE e ++ sym [41] :: sym [123] :: (tkSs b ++ sym [125] :: (elT c ++ r)))) d) (.ok (zS (.mk 5 [] [e] b c p), r, d)) := by
    refine Big.step ?_
    refine (Big.bind (G := fun f e ts' d => bindR (pBlock f ts' d) fun b ts' d =>
     if isT ts' kElse then
      if isT ts'.tail kIf then bindR (pIf f ts'.tail d) fun s ts' d => .ok (S.mk 5 [] [e] b [s] 0, ts', d)
      else bindR (pBlock f ts'.tail d) fun b' ts' d => .ok (S.mk 5 [] [e] b b' 0, ts', d)
     else .ok (S.mk 5 [] [e] b [] 0, ts', d)) (cond_ok he (d := d) (r := sym [123] :: (tkSs b ++ sym [125] :: (elT c ++ r))) (by omega)) (r := .ok (zS (.mk 5 [] [e] b c p), r, d)) ?_).congr fun f => ?_
    · refine Big.bind (G := fun f b ts' d =>
       if isT ts' kElse then
        if isT ts'.tail kIf then bindR (pIf f ts'.tail d) fun s ts' d => .ok (S.mk 5 [] [zE e] b [s] 0, ts', d)
        else bindR (pBlock f ts'.tail d) fun b' ts' d => .ok (S.mk 5 [] [zE e] b b' 0, ts', d)
       else .ok (S.mk 5 [] [zE e] b [] 0, ts', d)) (block_ok hbb (d := d) (r := elT c ++ r) (by omega)) ?_
      cases c with
      | nil =>
        refine Big.const.congr fun f => ?_
        rw [show elT [] ++ r = r from rfl, hr]
        rfl
      | cons s0 c0 =>
        cases hch : chain (s0 :: c0) with
        | true =>
          cases c0 with
          | cons _ _ => cases hch
          | nil =>
            have h5 : sk s0 = 5 := by simpa [chain] using hch
            have e1 : elT [s0] ++ r = kwd kElse :: (tkS s0 ++ r) := by simp [elT, hch, tkSs]
            have e2 : elN [s0] = nS s0 := by simp [elN, hch, nSs]
            rw [e2] at hd
            obtain ⟨h6, h7⟩ := (ihc s0 (List.mem_cons_self ..) r d hr (by omega)).2 h5
            refine (Big.bind (G := fun f s ts' d => .ok (S.mk 5 [] [zE e] (zSs b) [s] 0, ts', d)) h6 (r := .ok (zS (.mk 5 [] [e] b [s0] p), r, d)) Big.const).congr fun f => ?_
            rw [e1, isT_kwd, tail_c, h7]
            rfl
        | false =>
          have e1 : elT (s0 :: c0) ++ r = kwd kElse :: sym [123] :: (tkSs (s0 :: c0) ++ sym [125] :: r) := by simp [elT, hch]
          have e2 : elN (s0 :: c0) = nSs (s0 :: c0) + 1 := by simp [elN, hch]
          rw [e2] at hd
          refine (Big.bind (G := fun f b' ts' d => .ok (S.mk 5 [] [zE e] (zSs b) b' 0, ts', d)) (block_ok hcc (d := d) (r := r) (by omega)) (r := .ok (zS (.mk 5 [] [e] b (s0 :: c0) p), r, d)) Big.const).congr fun f => ?_
          rw [e1, isT_kwd, tail_c, isT_sym]
          rfl
    · rw [pIf, tail_c]; rfl
   have e0 : tkS (.mk 5 [] [e] b c p) ++ r = kwd kIf :: sym [40] :: (tkE e ++ sym [41] :: sym [123] :: (tkSs b ++ sym [125] :: (elT c ++ r))) := by rw [ts_if]; simp
   rw [e0]
   refine ⟨?_, fun _ => ⟨hif, by rw [isT_kwd]; rfl⟩⟩
   refine Big.step ?_
   refine hif.congr fun f => ?_
   rw [pStmt, isK_kwd, if_neg (by simp), isT_kwd, if_neg (by decide), isT_kwd, if_pos (by decide)]
 | @whl e b p he hb ihb =>
   intro r d hr hd
   rw [ns_while] at hd
   refine ⟨?_, fun e => by cases e⟩
   have e0 : tkS (.mk 6 [] [e] b [] p) ++ r = kwd kWhile :: sym [40] :: (tkE e ++ sym [41] :: sym [123] :: (tkSs b ++ sym [125] :: r)) := by rw [ts_while]; simp
   rw [e0]
   refine Big.step ?_
   refine (Big.bind (G := fun f e ts' d => bindR (pBlock f ts' d) fun b ts' d => .ok (S.mk 6 [] [e] b [] 0, ts', d)) (cond_ok he (d := d) (r := sym [123] :: (tkSs b ++ sym [125] :: r)) (by omega)) (r := .ok (zS (.mk 6 [] [e] b [] p), r, d)) ?_).congr fun f => ?_
   · exact Big.bind (G := fun f b ts' d => .ok (S.mk 6 [] [zE e] b [] 0, ts', d)) (block_ok (fun s hs => ⟨hb s hs, ihb s hs⟩) (d := d) (r := r) (by omega)) Big.const
   · rw [pStmt, isK_kwd, if_neg (by simp), isT_kwd, if_neg (by decide), isT_kwd, if_neg (by decide), isT_kwd, if_pos (by decide), tail_c]
     rfl
 | @ret p =>
   intro r d hr hd
   refine ⟨?_, fun e => by cases e⟩
   rw [ts_ret]
   refine Big.step ?_
   refine Big.const.congr fun f => ?_
   rw [show [kwd kRet, sym [59]] ++ r = kwd kRet :: sym [59] :: r from rfl, pStmt, isK_kwd, if_neg (by simp), isT_kwd, if_neg (by decide), isT_kwd, if_neg (by decide), isT_kwd, if_neg (by decide), isT_kwd, if_pos (by decide), tail_c, isT_sym, if_pos (by rfl), takeT_semi, bindR]
   rfl
 | @ret1 e p he =>
   intro r d hr hd
   rw [ns_ret1] at hd
   refine ⟨?_, fun e => by cases e⟩
   rw [ts_ret1]
   refine Big.step ?_
   refine (exsemi he hd (g := fun e => S.mk 7 [] [e] [] [] 0) (r := r) rfl).congr fun f => ?_
   rw [show kwd kRet :: (tkE e ++ [sym [59]]) ++ r = kwd kRet :: (tkE e ++ sym [59] :: r) by simp, pStmt, isK_kwd, if_neg (by simp), isT_kwd, if_neg (by decide), isT_kwd, if_neg (by decide), isT_kwd, if_neg (by decide), isT_kwd, if_pos (by decide), tail_c, head_semi he, if_neg (by simp)]
   rfl
 | @brk p =>
   intro r d hr hd
   refine ⟨?_, fun e => by cases e⟩
   rw [ts_brk]
   refine Big.step ?_
   refine Big.const.congr fun f => ?_
   rw [show [kwd kBrk, sym [59]] ++ r = kwd kBrk :: sym [59] :: r from rfl, pStmt, isK_kwd, if_neg (by simp), isT_kwd, if_neg (by decide), isT_kwd, if_neg (by decide), isT_kwd, if_neg (by decide), isT_kwd, if_neg (by decide), isT_kwd, if_pos (by decide), tail_c, takeT_semi, bindR]
   rfl
 | @cont p =>
   intro r d hr hd
   refine ⟨?_, fun e => by cases e⟩
   rw [ts_cont]
   refine Big.step ?_
   refine Big.const.congr fun f => ?_
   rw [show [kwd kCont, sym [59]] ++ r = kwd kCont :: sym [59] :: r from rfl, pStmt, isK_kwd, if_neg (by simp), isT_kwd, if_neg (by decide), isT_kwd, if_neg (by decide), isT_kwd, if_neg (by decide), isT_kwd, if_neg (by decide), isT_kwd, if_neg (by decide), isT_kwd, if_pos (by decide), tail_c, takeT_semi, bindR]
   rfl
end Go.Sx
namespace Go.Sx
def kMain : Bytes := [109, 97, 105, 110]
def morePs : List Bytes → List Tok
 | [] => []
 | p :: l => sym [44] :: idt p :: morePs l
def tkPs : List Bytes → List Tok
 | [] => []
 | p :: l => idt p :: morePs l
theorem takeT_kwd {t : Bytes} {r : List Tok} {d : Int} (h1 : opens t = false) (h2 : closes t = false) : takeT t (kwd t :: r) d = .ok ((), r, d) := by
 simp [takeT, isT_kwd, h1, h2]
theorem takeT_func {r : List Tok} {d : Int} : takeT [102, 117, 110, 99] (kwd kFunc :: r) d = .ok ((), r, d) := takeT_kwd (t := kFunc) rfl rfl
theorem moreP_ok {r : List Tok} {d : Int} : ∀ (l acc : List Bytes), Big (fun f => pMoreP f acc (morePs l ++ sym [41] :: r) d) (.ok (acc ++ l, sym [41] :: r, d))
 | [], acc => by
   refine Big.step ?_
   refine Big.const.congr fun f => ?_
   rw [morePs, List.nil_append, pMoreP, isT_sym, if_neg (by decide), List.append_nil]
 | p :: l, acc => by
   refine Big.step ?_
   have ih := moreP_ok (r := r) (d := d) l (acc ++ [p])
   rw [List.append_assoc] at ih
   refine Big.congr (x := fun f => pMoreP f (acc ++ [p]) (morePs l ++ sym [41] :: r) d) ih fun f => ?_
   rw [morePs, show sym [44] :: idt p :: morePs l ++ sym [41] :: r = sym [44] :: idt p :: (morePs l ++ sym [41] :: r) from rfl, pMoreP, isT_sym, if_pos (by rfl), takeT_plain rfl rfl, bindR, takeK_idt, bindR]
   rfl
theorem params_ok {r : List Tok} {d : Int} (l : List Bytes) : Big (fun f => pParams f (tkPs l ++ sym [41] :: r) d) (.ok (l, sym [41] :: r, d)) := by
 cases l with
 | nil =>
   refine Big.const.congr fun f => ?_
   rw [tkPs, List.nil_append, pParams, isT_sym, if_pos (by rfl)]
 | cons p l =>
   refine (moreP_ok l [p]).congr fun f => ?_
   rw [tkPs, List.cons_append, pParams, isT_idt, if_neg (by simp), takeK_idt, bindR]
   rfl
theorem func_big {nm : Bytes} {ps : List Bytes} {X r : List Tok} {d : Int} (hd : d ≠ 32) {res : R (List S)} (hb : Big (fun f => pBlock f (sym [123] :: X) d) res) :
 Big (fun f => pFunc f (kwd kFunc :: idt nm :: sym [40] :: (tkPs ps ++ sym [41] :: sym [123] :: X)) d) (bindR res fun b ts d => .ok (⟨nm, ps, b, 0⟩, ts, d)) := by
 have e : ∀ f, pFunc f (kwd kFunc :: idt nm :: sym [40] :: (tkPs ps ++ sym [41] :: sym [123] :: X)) d = bindR (pParams f (tkPs ps ++ sym [41] :: sym [123] :: X) (d + 1)) fun ps ts d => bindR (takeT [41] ts d) fun _ ts d => bindR (pBlock f ts d) fun b ts d => .ok (⟨nm, ps, b, 0⟩, ts, d) := fun f => by
  rw [pFunc, takeT_func, bindR, takeK_idt, bindR, takeT_open rfl hd, bindR]
  rfl
 refine (Big.bind (G := fun f ps ts d => bindR (takeT [41] ts d) fun _ ts d => bindR (pBlock f ts d) fun b ts d => .ok (⟨nm, ps, b, 0⟩, ts, d)) (params_ok ps) ?_).congr e
 have e2 : ∀ f, (bindR (takeT [41] (sym [41] :: sym [123] :: X) (d + 1)) fun _ ts d => bindR (pBlock f ts d) fun b ts d => (.ok (⟨nm, ps, b, 0⟩, ts, d) : R F)) = bindR (pBlock f (sym [123] :: X) d) fun b ts d => .ok (⟨nm, ps, b, 0⟩, ts, d) := fun f => by
  rw [takeT_close rfl, bindR, show d + 1 - 1 = d by omega]
 match res, hb with
 | .error e, hb => exact (Big.err (G := fun _ b ts d => .ok (⟨nm, ps, b, 0⟩, ts, d)) hb).congr e2
 | .ok (b, ts, d'), hb => exact (Big.bind (G := fun _ b ts d => .ok (⟨nm, ps, b, 0⟩, ts, d)) hb Big.const).congr e2
def endT : Tok := ⟨0, [], 0, [], 0⟩
mutual
theorem zE_idem : ∀ (e : E), zE (zE e) = zE e
 | .mk k o n v t a _ => by rw [zE, zE, zEs_idem a]
theorem zEs_idem : ∀ (l : List E), zEs (zEs l) = zEs l
 | [] => rfl
 | e :: l => by rw [zEs, zEs, zE_idem e, zEs_idem l]
end
mutual
theorem zS_idem : ∀ (e : S), zS (zS e) = zS e
 | .mk k n a b e _ => by rw [zS, zS, zEs_idem a, zSs_idem b, zSs_idem e]
theorem zSs_idem : ∀ (l : List S), zSs (zSs l) = zSs l
 | [] => rfl
 | e :: l => by rw [zSs, zSs, zS_idem e, zSs_idem l]
end
theorem zP_idem (p : Pg) : zP (zP p) = zP p := by
 have h1 : ∀ g, zG (zG g) = zG g := fun g => rfl
 have h2 : ∀ g, zF (zF g) = zF g := fun g => by simp only [zF, zSs_idem]
 simp [zP, List.map_map, Function.comp_def, h1, h2]
def outR : R Pg → Except Nat Pg
 | .error e => .error e.1
 | .ok (p, _, _) => .ok (zP p)
theorem parse_big {s : Bytes} {us a : List Tok} (hs : scanS s = .ok us) (ha : us.map zT = a) {res : R Pg} (h : Big (fun f => pProg f ⟨[], []⟩ a 0) res) : zX (parseS s) = outR res := by
 subst ha
 have hfn := (pProg_fn (20 * us.length + 40) ⟨[], []⟩ us 0 (by omega)).1
 obtain ⟨F, hF⟩ := h
 have h1 := pProg_z (20 * us.length + 40) ⟨[], []⟩ us 0
 have h2 := pProg_m (20 * us.length + 40) (max F (20 * us.length + 40)) ⟨[], []⟩ (us.map zT) 0 (by omega)
 have h3 : pProg (max F (20 * us.length + 40)) ⟨[], []⟩ (us.map zT) 0 = res := hF (max F (20 * us.length + 40)) (by omega)
 rw [h3, show (⟨[], []⟩ : Pg) = zP ⟨[], []⟩ from rfl, h1] at h2
 simp only [parseS, hs]
 cases e : pProg (20 * us.length + 40) ⟨[], []⟩ us 0 with
 | error x =>
   rw [e] at h2 hfn
   rcases h2 with ⟨i, h2⟩ | h2
   · exfalso
     injection h2 with h2
     have : x.1 = 0 := congrArg Prod.fst h2
     exact hfn x.2 (by rw [← this])
   · rw [← h2]; rfl
 | ok x =>
   obtain ⟨p, ts, d⟩ := x
   rw [e] at h2
   rcases h2 with ⟨i, h2⟩ | h2
   · cases h2
   · rw [← h2]
     show Except.ok (zP p) = Except.ok (zP (zP p))
     rw [zP_idem]
end Go.Sx
namespace Go.Sx
section
variable (n : Nat) (nm : Bytes) (e i : E) (es : List E) (b c : List S) (p q : Nat)
end
theorem Lx.sp {x : Bytes} {a : List Tok} (h : Lx x a) : Lx (32 :: x) a := Lx.blank (.inl rfl) h
theorem Lx.nl {x : Bytes} {a : List Tok} (h : Lx x a) : Lx (10 :: x) a := Lx.blank (.inr (.inl rfl)) h
theorem Lx.semi {x : Bytes} {a : List Tok} (h : Lx x a) : Lx (59 :: x) (sym [59] :: a) := Lx.solo (by simp) h
theorem Lx.eq {x : Bytes} {a : List Tok} (h : Lx x a) : Lx (61 :: 32 :: x) (sym [61] :: a) :=
 Lx.tok (w := [61]) (x := 32 :: x) rfl rfl (Lx.sp h)
theorem Lx.kw {t x : Bytes} {a : List Tok} (ht : words.contains t = true) (hl : t.length ≤ 32) (hc : ∃ c l, t = c :: l ∧ isLetter c = true) (ha : t.all isAl = true) (hs : stop x) (h : Lx x a) : Lx (t ++ x) (kwd t :: a) := by
 have := Lx.word hl hc ha hs h
 rw [ht] at this
 exact this
theorem okF_semi (x : Bytes) : okF (59 :: x) := ⟨_, _, rfl, by simp⟩
theorem stop_sp (x : Bytes) : stop (32 :: x) := stop_c rfl
end Go.Sx
namespace Go.Proofs.D
open Go Go.Den Go.Sx Go.Shelf
set_option maxRecDepth 100000
def layJ_ren : Go.Shelf.Ren := ⟨fun | 156 => 81 | 165 => 127 | 166 => 123 | 169 => 83 | 240 => 156 | 241 => 160 | 276 => 177 | 277 => 184 | n => n, fun | 31 => 51 | 9 => 9 | 3 => 3 | 4 => 4 | 0 => 0 | 20 => 20 | 72 => 151 | 76 => 198 | 70 => 149 | 37 => 45 | 75 => 197 | 127 => 204 | 164 => 237 | 5 => 5 | 80 => 156 | n => n, fun | n => n⟩
theorem layJ : Go.Proofs.Lays.n156 Tryz.prog layJ_ren where
 mixed := by kernel_rfl
 f156 := Tryz.func81.trans (congrArg some (by kernel_rfl))
 f165 := Tryz.func127.trans (congrArg some (by kernel_rfl))
 f166 := Tryz.func123.trans (congrArg some (by kernel_rfl))
 f169 := Tryz.func83.trans (congrArg some (by kernel_rfl))
 f240 := Tryz.func156.trans (congrArg some (by kernel_rfl))
 f241 := Tryz.func160.trans (congrArg some (by kernel_rfl))
 f276 := Tryz.func177.trans (congrArg some (by kernel_rfl))
 f277 := Tryz.func184.trans (congrArg some (by kernel_rfl))
 t0 := Tryz.underlying0
 a0 := Tryz.isAgg0
 z0 := Tryz.sizeOf0
 v0 := Tryz.zeroValue0
 t3 := Tryz.underlying3
 a3 := Tryz.isAgg3
 z3 := Tryz.sizeOf3
 v3 := Tryz.zeroValue3
 t4 := Tryz.underlying4
 a4 := Tryz.isAgg4
 z4 := Tryz.sizeOf4
 v4 := Tryz.zeroValue4
 t9 := Tryz.underlying9
 a9 := Tryz.isAgg9
 z9 := Tryz.sizeOf9
 v9 := Tryz.zeroValue9
 t20 := Tryz.underlying20
 a20 := Tryz.isAgg20
 z20 := Tryz.sizeOf20
 v20 := Tryz.zeroValue20
 t31 := Tryz.underlying51
 a31 := Tryz.isAgg51
 z31 := Tryz.sizeOf51
 v31 := Tryz.zeroValue51
 t37 := Tryz.underlying45
 a37 := Tryz.isAgg45
 z37 := Tryz.sizeOf45
 v37 := Tryz.zeroValue45
 t70 := Tryz.underlying149
 a70 := Tryz.isAgg149
 z70 := Tryz.sizeOf149
 v70 := Tryz.zeroValue149
 t72 := Tryz.underlying151
 a72 := Tryz.isAgg151
 z72 := Tryz.sizeOf151
 v72 := Tryz.zeroValue151
 t75 := Tryz.underlying197
 a75 := Tryz.isAgg197
 z75 := Tryz.sizeOf197
 v75 := Tryz.zeroValue197
 t76 := Tryz.underlying198
 a76 := Tryz.isAgg198
 z76 := Tryz.sizeOf198
 v76 := Tryz.zeroValue198
 t127 := Tryz.underlying204
 a127 := Tryz.isAgg204
 z127 := Tryz.sizeOf204
 v127 := Tryz.zeroValue204
 t164 := Tryz.underlying237
 a164 := Tryz.isAgg237
 z164 := Tryz.sizeOf237
 v164 := Tryz.zeroValue237
theorem exJ : Go.Proofs.Builder.Extra Tryz.prog layJ_ren where
 sizeBuilder := by kernel_rfl
 liesBuilder := by kernel_rfl
 t5 := Tryz.underlying5
 a5 := Tryz.isAgg5
 z5 := Tryz.sizeOf5
 v5 := Tryz.zeroValue5
 infoByte := by kernel_rfl
 cellsByte := by kernel_rfl
 sizeByte := by kernel_rfl
 neB5 := by decide
def layI_ren : Go.Shelf.Ren := ⟨fun | 171 => 80 | 243 => 126 | 246 => 159 | 283 => 180 | 284 => 181 | 285 => 182 | 286 => 183 | 129 => 196 | 317 => 195 | 318 => 197 | 319 => 198 | 320 => 199 | 337 => 203 | 338 => 204 | n => n, fun | 3 => 3 | 9 => 9 | 2 => 2 | 4 => 4 | 171 => 245 | 0 => 0 | 53 => 242 | 37 => 45 | 5 => 5 | 173 => 248 | 212 => 262 | 51 => 239 | 20 => 20 | 213 => 263 | 46 => 221 | 232 => 268 | 233 => 269 | n => n, fun | 17 => 0 | 18 => 3 | 19 => 4 | n => n⟩
theorem layI : Go.Proofs.LaysM.n171 Tryz.prog layI_ren where
 mixed := by kernel_rfl
 f129 := Tryz.func196.trans (congrArg some (by kernel_rfl))
 f171 := Tryz.func80.trans (congrArg some (by kernel_rfl))
 f243 := Tryz.func126.trans (congrArg some (by kernel_rfl))
 f246 := Tryz.func159.trans (congrArg some (by kernel_rfl))
 f283 := Tryz.func180.trans (congrArg some (by kernel_rfl))
 f284 := Tryz.func181.trans (congrArg some (by kernel_rfl))
 f285 := Tryz.func182.trans (congrArg some (by kernel_rfl))
 f286 := Tryz.func183.trans (congrArg some (by kernel_rfl))
 f317 := Tryz.func195.trans (congrArg some (by kernel_rfl))
 f318 := Tryz.func197.trans (congrArg some (by kernel_rfl))
 f319 := Tryz.func198.trans (congrArg some (by kernel_rfl))
 f320 := Tryz.func199.trans (congrArg some (by kernel_rfl))
 f337 := Tryz.func203.trans (congrArg some (by kernel_rfl))
 f338 := Tryz.func204.trans (congrArg some (by kernel_rfl))
 t0 := Tryz.underlying0
 a0 := Tryz.isAgg0
 z0 := Tryz.sizeOf0
 v0 := Tryz.zeroValue0
 t2 := Tryz.underlying2
 a2 := Tryz.isAgg2
 z2 := Tryz.sizeOf2
 v2 := Tryz.zeroValue2
 t3 := Tryz.underlying3
 a3 := Tryz.isAgg3
 z3 := Tryz.sizeOf3
 v3 := Tryz.zeroValue3
 t4 := Tryz.underlying4
 a4 := Tryz.isAgg4
 z4 := Tryz.sizeOf4
 v4 := Tryz.zeroValue4
 t5 := Tryz.underlying5
 a5 := Tryz.isAgg5
 z5 := Tryz.sizeOf5
 v5 := Tryz.zeroValue5
 t9 := Tryz.underlying9
 a9 := Tryz.isAgg9
 z9 := Tryz.sizeOf9
 v9 := Tryz.zeroValue9
 t20 := Tryz.underlying20
 a20 := Tryz.isAgg20
 z20 := Tryz.sizeOf20
 v20 := Tryz.zeroValue20
 t37 := Tryz.underlying45
 a37 := Tryz.isAgg45
 z37 := Tryz.sizeOf45
 v37 := Tryz.zeroValue45
 t46 := Tryz.underlying221
 a46 := Tryz.isAgg221
 z46 := Tryz.sizeOf221
 v46 := Tryz.zeroValue221
 t51 := Tryz.underlying239
 a51 := Tryz.isAgg239
 z51 := Tryz.sizeOf239
 v51 := Tryz.zeroValue239
 t53 := Tryz.underlying242
 a53 := Tryz.isAgg242
 z53 := Tryz.sizeOf242
 v53 := Tryz.zeroValue242
 t171 := Tryz.underlying245
 a171 := Tryz.isAgg245
 z171 := Tryz.sizeOf245
 v171 := Tryz.zeroValue245
 t173 := Tryz.underlying248
 a173 := Tryz.isAgg248
 z173 := Tryz.sizeOf248
 v173 := Tryz.zeroValue248
 t212 := Tryz.underlying262
 a212 := Tryz.isAgg262
 z212 := Tryz.sizeOf262
 v212 := Tryz.zeroValue262
 t213 := Tryz.underlying263
 a213 := Tryz.isAgg263
 z213 := Tryz.sizeOf263
 t232 := Tryz.underlying268
 a232 := Tryz.isAgg268
 z232 := Tryz.sizeOf268
 v232 := Tryz.zeroValue268
 t233 := Tryz.underlying269
 a233 := Tryz.isAgg269
 z233 := Tryz.sizeOf269
 v233 := Tryz.zeroValue269
 g17 := by kernel_rfl
 g18 := by kernel_rfl
 g19 := by kernel_rfl
 i0 := by kernel_rfl
 i2 := by kernel_rfl
 i3 := by kernel_rfl
 i4 := by kernel_rfl
 i5 := by kernel_rfl
 i9 := by kernel_rfl
 i20 := by kernel_rfl
 i37 := by kernel_rfl
 i46 := by kernel_rfl
 i51 := by kernel_rfl
 i53 := by kernel_rfl
 i171 := by kernel_rfl
 i173 := by kernel_rfl
 i212 := by kernel_rfl
 i232 := by kernel_rfl
 i233 := by kernel_rfl
 m17 := by kernel_rfl
 m18 := by kernel_rfl
 m19 := by kernel_rfl
theorem tri_calls {f : FuncId} {fn : Func} {c : Code} {args : List Value} {h : PHeap} {Q : Value → Prop} (hf : Tryz.prog.funcs[f]? = some fn) (hname : (fn.name == "runtime.NumGoroutine") = false) (hb : fn.body = some c)
 (H : ∀ w, Sub w h → Calls Tryz.prog f args.toArray w fun e w' => ∃ v, e = .returned v ∧ Q v ∧ RowKit.Below w.heap.size w w') : Tri Tryz.prog f args h fun v h' => Q v ∧ h' = h := by
 intro w hs
 unfold CallR
 rw [enters_of hf hname hb]
 refine Calls.mono (H w hs) ?_
 rintro e w' ⟨v, rfl, hq, hb⟩
 refine ⟨h, ⟨hq, rfl⟩, fun k o hk => ?_, hb.os, hb.tape, hb.output, hb.size, fun k hk hn => ⟨hn, hb.block k hk⟩⟩
 have := hs k o hk
 rw [hb.block k (Array.getElem?_eq_some_iff.1 this).1]
 exact this
theorem digs_eq (n : Nat) : Lib.decDigits n = digs n := by
 induction n using Nat.strongRecOn with
 | ind n ih =>
   rw [Lib.decDigits, digs]
   split
   · rfl
   · rw [ih (n / 10) (by omega)]
theorem joinTail_more : ∀ (l : List Bytes), Lib.joinTail [44, 32] l = moreB l
 | [] => rfl
 | x :: l => by
   have := joinTail_more l
   unfold Lib.joinTail at this ⊢
   rw [List.map_cons, List.flatten_cons, this]; rfl
theorem join_comma (l : List Bytes) : Lib.join l [44, 32] = commaB l := by
 cases l with
 | nil => rfl
 | cons x l => rw [Lib.join_cons, joinTail_more]; rfl
def PowTab (h : PHeap) : Prop := ∃ t z, h 0 = some (.cells ⟨Lib.pow10Tab.map fun z => Value.int .u64 z⟩ t z)
theorem PowTab.ext {h h' : PHeap} (x : Ext h h') (hp : PowTab h) : PowTab h' := by
 obtain ⟨t, z, hp⟩ := hp
 exact ⟨t, z, x _ _ hp⟩
theorem itoa_t2 (v : Nat) (hv : v ≤ 9223372036854775807) {h : PHeap} (hp : PowTab h) : Tri Tryz.prog 80 [vI v] h fun r h' => r = vS (digs v) ∧ h' = h := by
 refine tri_calls Tryz.func80 (by kernel_rfl) rfl fun w hs => ?_
 obtain ⟨t, z, hp⟩ := hp
 have htab : Lib.TabIs Tryz.prog w "internal/strconv.uint64pow10" .u64 Lib.pow10Tab := by
  unfold Lib.TabIs World.var?
  rw [show Tryz.prog.globalNamed "internal/strconv.uint64pow10" = some 0 by kernel_rfl]
  simp only [Option.bind_some]
  rw [hs _ _ hp]
 refine Calls.mono (Any.strconv_Itoa layI (v : Int) (by omega) (by omega) w htab) ?_
 rintro e w' ⟨rfl, k, os, rfl⟩
 refine ⟨_, rfl, ?_, Lib.below_grow _ w (Nat.le_refl _) k os⟩
 have : Lib.itoa (v : Int) = digs v := by
  unfold Lib.itoa
  rw [if_neg (by omega), Int.toNat_natCast, digs_eq]
 rw [this]
theorem join_t {h : PHeap} {a : Option Addr} {L : List Bytes} {c : Nat} (hs : StrAt h a L) (hc : L.length ≤ c) (hN : L.length ≤ 1000000) (hl : (commaB L).length ≤ 10000000) (hb : ∀ b o, a = ad b o → L ≠ [] → h b ≠ none) :
 Tri Tryz.prog 81 [vL a L.length c, vS [44, 32]] h fun r h' => r = vS (commaB L) ∧ h' = h := by
 refine tri_calls Tryz.func81 (by kernel_rfl) rfl fun w hsub => ?_
 have hmap : (L.map fun l => (⟨⟨l⟩⟩ : ByteArray)).map (fun x => x.data.toList) = L := by
  rw [List.map_map]
  exact List.map_id'' (fun _ => rfl) L
 rcases hs with rfl | ⟨b, o, rfl, hc2⟩
 · refine Calls.mono (Any.strings_Join_none layJ exJ a c ⟨⟨[44, 32]⟩⟩ w) ?_
   rintro e w' ⟨rfl, rfl⟩
   exact ⟨_, rfl, rfl, RowKit.Below.refl _ _⟩
 · by_cases hn : L = []
   · subst hn
     refine Calls.mono (Any.strings_Join_none layJ exJ (ad b o) c ⟨⟨[44, 32]⟩⟩ w) ?_
     rintro e w' ⟨rfl, rfl⟩
     exact ⟨_, rfl, rfl, RowKit.Below.refl _ _⟩
   have hbl : b < w.heap.size := by
    cases hh : h b with
    | none => exact absurd hh (hb b o rfl hn)
    | some ob => exact (Array.getElem?_eq_some_iff.1 (hsub _ _ hh)).1
   have := Any.strings_Join layJ exJ b o c (L.map fun l => (⟨⟨l⟩⟩ : ByteArray)) ⟨⟨[44, 32]⟩⟩ w (fun j x hj => by
    rw [List.getElem?_map] at hj
    cases hL : L[j]? with
    | none => rw [hL] at hj; cases hj
    | some l =>
      rw [hL] at hj
      have hj : (⟨⟨l⟩⟩ : ByteArray) = x := by simpa using hj
      subst hj
      exact hsub.cell (hc2 j l hL)) hbl (by rw [List.length_map]; omega) (by rw [List.length_map]; exact hc) (by rw [hmap]; show (Lib.join L [44, 32]).length ≤ _; rw [join_comma]; omega)
   rw [hmap, List.length_map] at this
   refine Calls.mono this ?_
   rintro e w' ⟨rfl, hbe⟩
   refine ⟨_, rfl, ?_, hbe⟩
   show vS (Lib.join L [44, 32]) = vS (commaB L)
   rw [join_comma]
end Go.Proofs.D
namespace Go.Proofs.D
open Go Go.Den
set_option maxRecDepth 100000
set_option maxHeartbeats 4000000
abbrev dzk1 : List CK := [qi, .str, .str, qi, .str, .slice, qi, qi]
noncomputable def d22 : DCode := up ⟨[(7, .l dzk1), (8, .c (.one false [.bool])), (10, .l dzk1), (11, .c (.one false [.str]))], [], []⟩ (low Tryz.prog (fun d => Nat.beq d 5) (Tryz.f22.body.getD .skip))
theorem low22 : low Tryz.prog (fun d => Nat.beq d 5) (Tryz.f22.body.getD .skip) = some (eC d22) := by kernel_rfl
def R22 (i1 : Int) (l1 : Bs) (l2 : Bs) (i2 : Int) (l3 : Bs) (a1 : OA) (n1 : Nat) (dzk1 : Nat) (i3 : Int) (i4 : Int) (h : PHeap) (Q : Value → PHeap → Prop) : Prop :=
 ∀ (b1 : Nat), h b1 = none → ∀ (h_1 : PHeap), h_1 = h.put b1 (.cells ⟨[vI 4096]⟩ 129) →
 Tri Tryz.prog 66 [vP b1 0, vA [vI i1, vS l1, vS l2, vI i2, vS l3, vL a1 n1 dzk1, vI i3, vI i4]] h_1 fun v_1 h_2 =>
 ∃ (c1 : Bool), v_1 = vB c1 ∧
 br (!c1)
 (Q (vS []) h_2)
 (Tri Tryz.prog 67 [vA [vI i1, vS l1, vS l2, vI i2, vS l3, vL a1 n1 dzk1, vI i3, vI i4]] h_2 fun v_2 h_3 =>
 ∃ (l4 : Bs), v_2 = vS l4 ∧
 Q (vS l4) h_3)
theorem T22 {i1 : Int} {l1 : Bs} {l2 : Bs} {i2 : Int} {l3 : Bs} {a1 : OA} {n1 : Nat} {dzk1 : Nat} {i3 : Int} {i4 : Int} {h : PHeap} {Q : Value → PHeap → Prop} (hR : R22 i1 l1 l2 i2 l3 a1 n1 dzk1 i3 i4 h Q) : Tri Tryz.prog 22 [vA [vI i1, vS l1, vS l2, vI i2, vS l3, vL a1 n1 dzk1, vI i3, vI i4]] h Q :=
 tri_of_dn mixed Tryz.func22 rfl (by kernel_rfl) low22 (rs := [.tmp 2]) (by kernel_rfl) rfl (Eq.mpr (by kernel_rfl : dnF Tryz.prog Tryz.f22.ntmps d22 [.tmp 2] [vA [vI i1, vS l1, vS l2, vI i2, vS l3, vL a1 n1 dzk1, vI i3, vI i4]] h Q = R22 i1 l1 l2 i2 l3 a1 n1 dzk1 i3 i4 h Q) hR)
abbrev o67_1 : Op := .call { callee := (.builtin .append), args := #[(.tmp 18), (.tmp 21)], argTypes := #[51, 51] }
noncomputable def d67 : DCode := up ⟨[(12, .l [.slice]), (17, .l dzk1), (19, .l dzk1), (20, .c (.one false [.str])), (22, .c (.one false [.slice])), (25, .l [qi]), (29, .l [qi]), (30, .c (.one false [.str])), (35, .l [.str]), (36, .c (.tup [(false, [.str]), (false, [qi])])), (43, .l [.str]), (47, .l [.str]), (53, .l [.str]), (56, .c (.one false [.str])), (62, .l [.str]), (65, .l [.str]), (67, .l [.slice]), (70, .l [qi]), (72, .c (.one false [.str])), (77, .l [.str]), (78, .c (.one false [qi])), (81, .l [.str]), (83, .l [.slice]), (86, .l [qi]), (90, .l [.slice]), (93, .l [.str]), (94, .c (.one false [qi])), (98, .c (.one false [.str])), (101, .l [.str]), (103, .l [.slice]), (106, .l [qi]), (110, .l [.slice]), (113, .l [.str]), (114, .c (.one false [qi])), (118, .c (.one false [.str])), (122, .l [.str]), (128, .l [.str])], [], [(15, 12, [(3, .slice), (14, qi)], [])]⟩ (low Tryz.prog (fun _ => false) (Tryz.f67.body.getD .skip))
theorem low67 : low Tryz.prog (fun _ => false) (Tryz.f67.body.getD .skip) = some (eC d67) := by kernel_rfl
def R67 (i1 : Int) (l1 : Bs) (l2 : Bs) (i2 : Int) (l3 : Bs) (a1 : OA) (n1 : Nat) (dzk1 : Nat) (i3 : Int) (i4 : Int) (h : PHeap) (Q : Value → PHeap → Prop) : Prop :=
 ∃ (I_1 : Nat → OA → Nat → Nat → Int → PHeap → Prop), (∃ (m2 : Nat), I_1 m2 none 0 0 (0 : Int) h) ∧
 ∀ (m1 : Nat) (a2 : OA) (n2 : Nat) (k2 : Nat) (i5 : Int) (h_1 : PHeap), I_1 m1 a2 n2 k2 i5 h_1 →
 br (decide (i5 < ((n1 : Nat) : Int)))
 (∃ (b1 o1 : Nat), a1 = some ⟨b1, o1, none⟩ ∧ (0 ≤ i5 ∧ i5 < n1) ∧
 ∃ (i6 : Int) (l4 l5 : Bs) (i7 : Int) (l6 : Bs) (a3 : OA) (n3 k3 : Nat) (i8 i9 : Int), h_1.row b1 (o1 + (i5).toNat * 8) [vI i6, vS l4, vS l5, vI i7, vS l6, vL a3 n3 k3, vI i8, vI i9] ∧
 Tri Tryz.prog 67 [vA [vI i6, vS l4, vS l5, vI i7, vS l6, vL a3 n3 k3, vI i8, vI i9]] h_1 fun v_1 h_2 =>
 ∃ (l7 : Bs), v_1 = vS l7 ∧
 ∀ (b2 : Nat), h_2 b2 = none → ∀ (h_3 : PHeap), h_3 = h_2.put b2 (.cells ⟨[vS l7]⟩ 9) →
 Raw Tryz.prog (execOp (rho [(18, vL a2 n2 k2), (21, vL (ad b2 0) 1 1)]) (mkO o67_1 51)) h_3 fun v_2 h_4 =>
 ∃ (a4 : OA) (n4 k4 : Nat), v_2 = vL a4 n4 k4 ∧
 ∃ (m3 : Nat), m3 < m1 ∧ I_1 m3 a4 n4 k4 (IntKind.i64.wrap (i5 + 1)) h_4 ∧
 tv [vI i1, vS l1, vS l2, vI i2, vS l3, vL a1 n1 dzk1, vI i3, vI i4] ∧ True)
 (br (i1 == 1)
 (Tri Tryz.prog 80 [vI i2] h_1 fun v_3 h_5 =>
 ∃ (l8 : Bs), v_3 = vS l8 ∧
 Q (vS l8) h_5)
 (br (i1 == 2)
 (Tri Tryz.prog 109 [vS l3] h_1 fun v_4 h_6 =>
 ∃ (l9 : Bs) (i10 : Int), v_4 = vT [vS l9, vI i10] ∧
 Q (vS l9) h_6)
 (br (i1 == 4)
 (l2.length + ([91] : Bs).length ≤ 9223372036854775807 ∧
 ∃ (b3 o2 : Nat), a2 = some ⟨b3, o2, none⟩ ∧ (0 ≤ (0 : Int) ∧ (0 : Int) < n2) ∧
 ∃ (l10 : Bs), h_1.cell b3 o2 = some (vS l10) ∧
 (l2 ++ ([91] : Bs)).length + l10.length ≤ 9223372036854775807 ∧
 ((l2 ++ ([91] : Bs)) ++ l10).length + ([93] : Bs).length ≤ 9223372036854775807 ∧
 Q (vS (((l2 ++ ([91] : Bs)) ++ l10) ++ ([93] : Bs))) h_1)
 (br (i1 == 5)
 (l2.length + ([40] : Bs).length ≤ 9223372036854775807 ∧
 Tri Tryz.prog 81 [vL a2 n2 k2, vS [44, 32]] h_1 fun v_5 h_7 =>
 ∃ (l11 : Bs), v_5 = vS l11 ∧
 (tv [vS l2]) ∧
 (l2 ++ ([40] : Bs)).length + l11.length ≤ 9223372036854775807 ∧
 ((l2 ++ ([40] : Bs)) ++ l11).length + ([41] : Bs).length ≤ 9223372036854775807 ∧
 Q (vS (((l2 ++ ([40] : Bs)) ++ l11) ++ ([41] : Bs))) h_7)
 (br (i1 == 6)
 (∃ (b4 o3 : Nat), a2 = some ⟨b4, o3, none⟩ ∧ (0 ≤ (0 : Int) ∧ (0 : Int) < n2) ∧
 ∃ (l12 : Bs), h_1.cell b4 o3 = some (vS l12) ∧
 ∃ (b5 o4 : Nat), a1 = some ⟨b5, o4, none⟩ ∧ (0 ≤ (0 : Int) ∧ (0 : Int) < n1) ∧
 ∃ (i11 : Int), h_1.cell b5 o4 = some (vI i11) ∧
 Tri Tryz.prog 110 [vS l12, vB (i11 == 7)] h_1 fun v_6 h_8 =>
 ∃ (l13 : Bs), v_6 = vS l13 ∧
 (h_8.cell b5 o4 = some (vI i11)) ∧
 (tv [vL a1 n1 dzk1]) ∧
 (tv [vS l1]) ∧
 l1.length + l13.length ≤ 9223372036854775807 ∧
 Q (vS (l1 ++ l13)) h_8)
 (br (i1 == 7)
 (Tri Tryz.prog 26 [vS l1] h_1 fun v_7 h_9 =>
 ∃ (i12 : Int), v_7 = vI i12 ∧
 ∃ (b6 o5 : Nat), a2 = some ⟨b6, o5, none⟩ ∧ (0 ≤ (0 : Int) ∧ (0 : Int) < n2) ∧
 ∃ (l14 : Bs), h_9.cell b6 o5 = some (vS l14) ∧
 ∃ (b7 o6 : Nat), a1 = some ⟨b7, o6, none⟩ ∧ (0 ≤ (0 : Int) ∧ (0 : Int) < n1) ∧
 ∃ (i13 : Int), h_9.cell b7 o6 = some (vI i13) ∧
 br (i13 == 7)
 (∃ (b8 o7 : Nat), a1 = some ⟨b8, o7, none⟩ ∧ (0 ≤ (0 : Int) ∧ (0 : Int) < n1) ∧
 ∃ (l15 : Bs), h_9.cell b8 (o7 + 1) = some (vS l15) ∧
 Tri Tryz.prog 26 [vS l15] h_9 fun v_8 h_10 =>
 ∃ (i14 : Int), v_8 = vI i14 ∧
 (tv [vL a1 n1 dzk1]) ∧
 (h_10.cell b7 o6 = some (vI i13)) ∧
 (tv [vL a1 n1 dzk1]) ∧
 (h_10.cell b6 o5 = some (vS l14)) ∧
 Tri Tryz.prog 110 [vS l14, vB (decide (i14 < i12))] h_10 fun v_9 h_11 =>
 ∃ (l16 : Bs), v_9 = vS l16 ∧
 (tv [vL a1 n1 dzk1]) ∧
 (h_11.cell b7 o6 = some (vI i13)) ∧
 (tv [vL a1 n1 dzk1]) ∧
 ∃ (b9 o8 : Nat), a2 = some ⟨b9, o8, none⟩ ∧ (0 ≤ (1 : Int) ∧ (1 : Int) < n2) ∧
 ∃ (l17 : Bs), h_11.cell b9 (o8 + 1) = some (vS l17) ∧
 ∃ (b10 o9 : Nat), a1 = some ⟨b10, o9, none⟩ ∧ (0 ≤ (1 : Int) ∧ (1 : Int) < n1) ∧
 ∃ (i15 : Int), h_11.cell b10 (o9 + 8) = some (vI i15) ∧
 br (i15 == 7)
 (∃ (b11 o10 : Nat), a1 = some ⟨b11, o10, none⟩ ∧ (0 ≤ (1 : Int) ∧ (1 : Int) < n1) ∧
 ∃ (l18 : Bs), h_11.cell b11 (o10 + 9) = some (vS l18) ∧
 Tri Tryz.prog 26 [vS l18] h_11 fun v_10 h_12 =>
 ∃ (i16 : Int), v_10 = vI i16 ∧
 (tv [vL a1 n1 dzk1]) ∧
 (h_12.cell b10 (o9 + 8) = some (vI i15)) ∧
 (tv [vL a1 n1 dzk1]) ∧
 (h_12.cell b9 (o8 + 1) = some (vS l17)) ∧
 Tri Tryz.prog 110 [vS l17, vB (decide (i16 ≤ i12))] h_12 fun v_11 h_13 =>
 ∃ (l19 : Bs), v_11 = vS l19 ∧
 (tv [vL a1 n1 dzk1]) ∧
 (h_13.cell b10 (o9 + 8) = some (vI i15)) ∧
 (tv [vL a1 n1 dzk1]) ∧
 l16.length + ([32] : Bs).length ≤ 9223372036854775807 ∧
 (l16 ++ ([32] : Bs)).length + l1.length ≤ 9223372036854775807 ∧
 ((l16 ++ ([32] : Bs)) ++ l1).length + ([32] : Bs).length ≤ 9223372036854775807 ∧
 (((l16 ++ ([32] : Bs)) ++ l1) ++ ([32] : Bs)).length + l19.length ≤ 9223372036854775807 ∧
 Q (vS ((((l16 ++ ([32] : Bs)) ++ l1) ++ ([32] : Bs)) ++ l19)) h_13)
 ((h_11.cell b10 (o9 + 8) = some (vI i15)) ∧
 (tv [vL a1 n1 dzk1]) ∧
 (h_11.cell b9 (o8 + 1) = some (vS l17)) ∧
 Tri Tryz.prog 110 [vS l17, vB false] h_11 fun v_12 h_14 =>
 ∃ (l20 : Bs), v_12 = vS l20 ∧
 (h_14.cell b10 (o9 + 8) = some (vI i15)) ∧
 (tv [vL a1 n1 dzk1]) ∧
 l16.length + ([32] : Bs).length ≤ 9223372036854775807 ∧
 (l16 ++ ([32] : Bs)).length + l1.length ≤ 9223372036854775807 ∧
 ((l16 ++ ([32] : Bs)) ++ l1).length + ([32] : Bs).length ≤ 9223372036854775807 ∧
 (((l16 ++ ([32] : Bs)) ++ l1) ++ ([32] : Bs)).length + l20.length ≤ 9223372036854775807 ∧
 Q (vS ((((l16 ++ ([32] : Bs)) ++ l1) ++ ([32] : Bs)) ++ l20)) h_14))
 ((h_9.cell b7 o6 = some (vI i13)) ∧
 (tv [vL a1 n1 dzk1]) ∧
 (h_9.cell b6 o5 = some (vS l14)) ∧
 Tri Tryz.prog 110 [vS l14, vB false] h_9 fun v_13 h_15 =>
 ∃ (l21 : Bs), v_13 = vS l21 ∧
 (h_15.cell b7 o6 = some (vI i13)) ∧
 (tv [vL a1 n1 dzk1]) ∧
 ∃ (b12 o11 : Nat), a2 = some ⟨b12, o11, none⟩ ∧ (0 ≤ (1 : Int) ∧ (1 : Int) < n2) ∧
 ∃ (l22 : Bs), h_15.cell b12 (o11 + 1) = some (vS l22) ∧
 ∃ (b13 o12 : Nat), a1 = some ⟨b13, o12, none⟩ ∧ (0 ≤ (1 : Int) ∧ (1 : Int) < n1) ∧
 ∃ (i17 : Int), h_15.cell b13 (o12 + 8) = some (vI i17) ∧
 br (i17 == 7)
 (∃ (b14 o13 : Nat), a1 = some ⟨b14, o13, none⟩ ∧ (0 ≤ (1 : Int) ∧ (1 : Int) < n1) ∧
 ∃ (l23 : Bs), h_15.cell b14 (o13 + 9) = some (vS l23) ∧
 Tri Tryz.prog 26 [vS l23] h_15 fun v_14 h_16 =>
 ∃ (i18 : Int), v_14 = vI i18 ∧
 (tv [vL a1 n1 dzk1]) ∧
 (h_16.cell b13 (o12 + 8) = some (vI i17)) ∧
 (tv [vL a1 n1 dzk1]) ∧
 (h_16.cell b12 (o11 + 1) = some (vS l22)) ∧
 Tri Tryz.prog 110 [vS l22, vB (decide (i18 ≤ i12))] h_16 fun v_15 h_17 =>
 ∃ (l24 : Bs), v_15 = vS l24 ∧
 (tv [vL a1 n1 dzk1]) ∧
 (h_17.cell b13 (o12 + 8) = some (vI i17)) ∧
 (tv [vL a1 n1 dzk1]) ∧
 l21.length + ([32] : Bs).length ≤ 9223372036854775807 ∧
 (l21 ++ ([32] : Bs)).length + l1.length ≤ 9223372036854775807 ∧
 ((l21 ++ ([32] : Bs)) ++ l1).length + ([32] : Bs).length ≤ 9223372036854775807 ∧
 (((l21 ++ ([32] : Bs)) ++ l1) ++ ([32] : Bs)).length + l24.length ≤ 9223372036854775807 ∧
 Q (vS ((((l21 ++ ([32] : Bs)) ++ l1) ++ ([32] : Bs)) ++ l24)) h_17)
 ((h_15.cell b13 (o12 + 8) = some (vI i17)) ∧
 (tv [vL a1 n1 dzk1]) ∧
 (h_15.cell b12 (o11 + 1) = some (vS l22)) ∧
 Tri Tryz.prog 110 [vS l22, vB false] h_15 fun v_16 h_18 =>
 ∃ (l25 : Bs), v_16 = vS l25 ∧
 (h_18.cell b13 (o12 + 8) = some (vI i17)) ∧
 (tv [vL a1 n1 dzk1]) ∧
 l21.length + ([32] : Bs).length ≤ 9223372036854775807 ∧
 (l21 ++ ([32] : Bs)).length + l1.length ≤ 9223372036854775807 ∧
 ((l21 ++ ([32] : Bs)) ++ l1).length + ([32] : Bs).length ≤ 9223372036854775807 ∧
 (((l21 ++ ([32] : Bs)) ++ l1) ++ ([32] : Bs)).length + l25.length ≤ 9223372036854775807 ∧
 Q (vS ((((l21 ++ ([32] : Bs)) ++ l1) ++ ([32] : Bs)) ++ l25)) h_18)))
 (Q (vS l2) h_1)))))))
theorem T67 {i1 : Int} {l1 : Bs} {l2 : Bs} {i2 : Int} {l3 : Bs} {a1 : OA} {n1 : Nat} {dzk1 : Nat} {i3 : Int} {i4 : Int} {h : PHeap} {Q : Value → PHeap → Prop} (hR : R67 i1 l1 l2 i2 l3 a1 n1 dzk1 i3 i4 h Q) : Tri Tryz.prog 67 [vA [vI i1, vS l1, vS l2, vI i2, vS l3, vL a1 n1 dzk1, vI i3, vI i4]] h Q :=
 tri_of_dn mixed Tryz.func67 rfl (by kernel_rfl) low67 (rs := [.tmp 2]) (by kernel_rfl) rfl (Eq.mpr (by kernel_rfl : dnF Tryz.prog Tryz.f67.ntmps d67 [.tmp 2] [vA [vI i1, vS l1, vS l2, vI i2, vS l3, vL a1 n1 dzk1, vI i3, vI i4]] h Q = R67 i1 l1 l2 i2 l3 a1 n1 dzk1 i3 i4 h Q) hR)
noncomputable def d80 : DCode := up ⟨[(4, .c (.one false [.str]))], [], []⟩ (low Tryz.prog (fun _ => false) (Tryz.f80.body.getD .skip))
theorem low80 : low Tryz.prog (fun _ => false) (Tryz.f80.body.getD .skip) = some (eC d80) := by kernel_rfl
def R80 (i1 : Int) (h : PHeap) (Q : Value → PHeap → Prop) : Prop :=
 Tri Tryz.prog 126 [vI i1] h fun v_1 h_1 =>
 ∃ (l1 : Bs), v_1 = vS l1 ∧
 Q (vS l1) h_1
theorem T80 {i1 : Int} {h : PHeap} {Q : Value → PHeap → Prop} (hR : R80 i1 h Q) : Tri Tryz.prog 80 [vI i1] h Q :=
 tri_of_dn mixed Tryz.func80 rfl (by kernel_rfl) low80 (rs := [.tmp 2]) (by kernel_rfl) rfl (Eq.mpr (by kernel_rfl : dnF Tryz.prog Tryz.f80.ntmps d80 [.tmp 2] [vI i1] h Q = R80 i1 h Q) hR)
noncomputable def d110 : DCode := up ⟨[], [], []⟩ (low Tryz.prog (fun _ => false) (Tryz.f110.body.getD .skip))
theorem low110 : low Tryz.prog (fun _ => false) (Tryz.f110.body.getD .skip) = some (eC d110) := by kernel_rfl
def R110 (l1 : Bs) (c1 : Bool) (h : PHeap) (Q : Value → PHeap → Prop) : Prop :=
 br c1
 (([40] : Bs).length + l1.length ≤ 9223372036854775807 ∧
 (([40] : Bs) ++ l1).length + ([41] : Bs).length ≤ 9223372036854775807 ∧
 Q (vS ((([40] : Bs) ++ l1) ++ ([41] : Bs))) h)
 (Q (vS l1) h)
theorem T110 {l1 : Bs} {c1 : Bool} {h : PHeap} {Q : Value → PHeap → Prop} (hR : R110 l1 c1 h Q) : Tri Tryz.prog 110 [vS l1, vB c1] h Q :=
 tri_of_dn mixed Tryz.func110 rfl (by kernel_rfl) low110 (rs := [.tmp 4]) (by kernel_rfl) rfl (Eq.mpr (by kernel_rfl : dnF Tryz.prog Tryz.f110.ntmps d110 [.tmp 4] [vS l1, vB c1] h Q = R110 l1 c1 h Q) hR)
noncomputable def d126 : DCode := up ⟨[(4, .c (.one false [.str]))], [], []⟩ (low Tryz.prog (fun _ => false) (Tryz.f126.body.getD .skip))
theorem low126 : low Tryz.prog (fun _ => false) (Tryz.f126.body.getD .skip) = some (eC d126) := by kernel_rfl
def R126 (i1 : Int) (h : PHeap) (Q : Value → PHeap → Prop) : Prop :=
 Tri Tryz.prog 159 [vI i1, vI 10] h fun v_1 h_1 =>
 ∃ (l1 : Bs), v_1 = vS l1 ∧
 Q (vS l1) h_1
theorem T126 {i1 : Int} {h : PHeap} {Q : Value → PHeap → Prop} (hR : R126 i1 h Q) : Tri Tryz.prog 126 [vI i1] h Q :=
 tri_of_dn mixed Tryz.func126 rfl (by kernel_rfl) low126 (rs := [.tmp 2]) (by kernel_rfl) rfl (Eq.mpr (by kernel_rfl : dnF Tryz.prog Tryz.f126.ntmps d126 [.tmp 2] [vI i1] h Q = R126 i1 h Q) hR)
abbrev o159_6 : Op := .slice 245 (.tmp 5) (some (.const (vI 1))) (some (.tmp 29)) none
abbrev o159_9 : Op := .slice 245 (.tmp 5) none (some (.tmp 37)) none
abbrev o159_11 : Op := .slice 245 (.tmp 5) (some (.const (vI 1))) (some (.tmp 41)) none
noncomputable def d159 : DCode := up ⟨[(19, .c (.one false [.str])), (27, .c (.one false [qi])), (30, .c (.one false [.slice])), (32, .c (.tup [])), (38, .c (.one false [.slice])), (42, .c (.one false [.slice])), (50, .c (.tup [(false, [.slice]), (false, [.str])]))], [35], []⟩ (low Tryz.prog (fun d => Nat.beq d 5) (Tryz.f159.body.getD .skip))
theorem low159 : low Tryz.prog (fun d => Nat.beq d 5) (Tryz.f159.body.getD .skip) = some (eC d159) := by kernel_rfl
def R159 (i1 : Int) (i2 : Int) (h : PHeap) (Q : Value → PHeap → Prop) : Prop :=
 br (i2 == 10)
 (br (decide (0 ≤ i1))
 (br (decide (i1 < 100))
 (Tri Tryz.prog 180 [vI i1] h fun v_1 h_1 =>
 ∃ (l1 : Bs), v_1 = vS l1 ∧
 Q (vS l1) h_1)
 (∀ (b1 : Nat), h b1 = none → ∀ (h_2 : PHeap), h_2 = h.put b1 (.cells ⟨[vU 0, vU 0, vU 0, vU 0, vU 0, vU 0, vU 0, vU 0, vU 0, vU 0, vU 0, vU 0, vU 0, vU 0, vU 0, vU 0, vU 0, vU 0, vU 0, vU 0, vU 0, vU 0, vU 0, vU 0]⟩ 245) →
 br (decide (i1 < 0))
 (Tri Tryz.prog 181 [.int .u64 (IntKind.u64.wrap (0 - (IntKind.u64.wrap (i1))))] h_2 fun v_2 h_3 =>
 ∃ (i3 : Int), v_2 = vI i3 ∧
 ∃ (a1 : OA) (n1 dzk1 : Nat), PureRun Tryz.prog (execOp (rho [(5, vP b1 0), (29, vI (IntKind.i64.wrap (1 + i3)))]) (mkO o159_6 45)) (vL a1 n1 dzk1) ∧
 Tri Tryz.prog 182 [vL a1 n1 dzk1, .int .u64 (IntKind.u64.wrap (0 - (IntKind.u64.wrap (i1))))] h_3 fun v_3 h_4 =>
 v_3 = vT [] ∧
 br (decide (i1 < 0))
 ((0 ≤ (0 : Int) ∧ (0 : Int) < 24) ∧
 ∃ (l2 : List Value) (t1 : TypeId) (z1 : Nat × Nat), h_4 b1 = some (.cells ⟨l2⟩ t1 z1) ∧ (0 + 1 ≤ l2.length ∧ z1.2 ≤ 0) ∧
 ∀ (h_5 : PHeap), h_5 = h_4.put b1 (.cells ⟨splice l2 0 [vU 45]⟩ t1 z1) →
 ∃ (a2 : OA) (n2 k2 : Nat), PureRun Tryz.prog (execOp (rho [(5, vP b1 0), (37, vI (IntKind.i64.wrap (1 + i3)))]) (mkO o159_9 45)) (vL a2 n2 k2) ∧
 ∃ (l3 : Bs), BytesAt h_5 a2 n2 l3 ∧
 Q (vS l3) h_5)
 (∃ (a3 : OA) (n3 k3 : Nat), PureRun Tryz.prog (execOp (rho [(5, vP b1 0), (41, vI (IntKind.i64.wrap (1 + i3)))]) (mkO o159_11 45)) (vL a3 n3 k3) ∧
 ∃ (l4 : Bs), BytesAt h_4 a3 n3 l4 ∧
 Q (vS l4) h_4))
 (Tri Tryz.prog 181 [.int .u64 (IntKind.u64.wrap (i1))] h_2 fun v_4 h_6 =>
 ∃ (i4 : Int), v_4 = vI i4 ∧
 ∃ (a4 : OA) (n4 k4 : Nat), PureRun Tryz.prog (execOp (rho [(5, vP b1 0), (29, vI (IntKind.i64.wrap (1 + i4)))]) (mkO o159_6 45)) (vL a4 n4 k4) ∧
 Tri Tryz.prog 182 [vL a4 n4 k4, .int .u64 (IntKind.u64.wrap (i1))] h_6 fun v_5 h_7 =>
 v_5 = vT [] ∧
 br (decide (i1 < 0))
 ((0 ≤ (0 : Int) ∧ (0 : Int) < 24) ∧
 ∃ (l5 : List Value) (t2 : TypeId) (z2 : Nat × Nat), h_7 b1 = some (.cells ⟨l5⟩ t2 z2) ∧ (0 + 1 ≤ l5.length ∧ z2.2 ≤ 0) ∧
 ∀ (h_8 : PHeap), h_8 = h_7.put b1 (.cells ⟨splice l5 0 [vU 45]⟩ t2 z2) →
 ∃ (a5 : OA) (n5 k5 : Nat), PureRun Tryz.prog (execOp (rho [(5, vP b1 0), (37, vI (IntKind.i64.wrap (1 + i4)))]) (mkO o159_9 45)) (vL a5 n5 k5) ∧
 ∃ (l6 : Bs), BytesAt h_8 a5 n5 l6 ∧
 Q (vS l6) h_8)
 (∃ (a6 : OA) (n6 k6 : Nat), PureRun Tryz.prog (execOp (rho [(5, vP b1 0), (41, vI (IntKind.i64.wrap (1 + i4)))]) (mkO o159_11 45)) (vL a6 n6 k6) ∧
 ∃ (l7 : Bs), BytesAt h_7 a6 n6 l7 ∧
 Q (vS l7) h_7))))
 (∀ (b2 : Nat), h b2 = none → ∀ (h_9 : PHeap), h_9 = h.put b2 (.cells ⟨[vU 0, vU 0, vU 0, vU 0, vU 0, vU 0, vU 0, vU 0, vU 0, vU 0, vU 0, vU 0, vU 0, vU 0, vU 0, vU 0, vU 0, vU 0, vU 0, vU 0, vU 0, vU 0, vU 0, vU 0]⟩ 245) →
 br (decide (i1 < 0))
 (Tri Tryz.prog 181 [.int .u64 (IntKind.u64.wrap (0 - (IntKind.u64.wrap (i1))))] h_9 fun v_6 h_10 =>
 ∃ (i5 : Int), v_6 = vI i5 ∧
 ∃ (a7 : OA) (n7 k7 : Nat), PureRun Tryz.prog (execOp (rho [(5, vP b2 0), (29, vI (IntKind.i64.wrap (1 + i5)))]) (mkO o159_6 45)) (vL a7 n7 k7) ∧
 Tri Tryz.prog 182 [vL a7 n7 k7, .int .u64 (IntKind.u64.wrap (0 - (IntKind.u64.wrap (i1))))] h_10 fun v_7 h_11 =>
 v_7 = vT [] ∧
 br (decide (i1 < 0))
 ((0 ≤ (0 : Int) ∧ (0 : Int) < 24) ∧
 ∃ (l8 : List Value) (t3 : TypeId) (z3 : Nat × Nat), h_11 b2 = some (.cells ⟨l8⟩ t3 z3) ∧ (0 + 1 ≤ l8.length ∧ z3.2 ≤ 0) ∧
 ∀ (h_12 : PHeap), h_12 = h_11.put b2 (.cells ⟨splice l8 0 [vU 45]⟩ t3 z3) →
 ∃ (a8 : OA) (n8 k8 : Nat), PureRun Tryz.prog (execOp (rho [(5, vP b2 0), (37, vI (IntKind.i64.wrap (1 + i5)))]) (mkO o159_9 45)) (vL a8 n8 k8) ∧
 ∃ (l9 : Bs), BytesAt h_12 a8 n8 l9 ∧
 Q (vS l9) h_12)
 (∃ (a9 : OA) (n9 k9 : Nat), PureRun Tryz.prog (execOp (rho [(5, vP b2 0), (41, vI (IntKind.i64.wrap (1 + i5)))]) (mkO o159_11 45)) (vL a9 n9 k9) ∧
 ∃ (l10 : Bs), BytesAt h_11 a9 n9 l10 ∧
 Q (vS l10) h_11))
 (Tri Tryz.prog 181 [.int .u64 (IntKind.u64.wrap (i1))] h_9 fun v_8 h_13 =>
 ∃ (i6 : Int), v_8 = vI i6 ∧
 ∃ (a10 : OA) (n10 k10 : Nat), PureRun Tryz.prog (execOp (rho [(5, vP b2 0), (29, vI (IntKind.i64.wrap (1 + i6)))]) (mkO o159_6 45)) (vL a10 n10 k10) ∧
 Tri Tryz.prog 182 [vL a10 n10 k10, .int .u64 (IntKind.u64.wrap (i1))] h_13 fun v_9 h_14 =>
 v_9 = vT [] ∧
 br (decide (i1 < 0))
 ((0 ≤ (0 : Int) ∧ (0 : Int) < 24) ∧
 ∃ (l11 : List Value) (t4 : TypeId) (z4 : Nat × Nat), h_14 b2 = some (.cells ⟨l11⟩ t4 z4) ∧ (0 + 1 ≤ l11.length ∧ z4.2 ≤ 0) ∧
 ∀ (h_15 : PHeap), h_15 = h_14.put b2 (.cells ⟨splice l11 0 [vU 45]⟩ t4 z4) →
 ∃ (a11 : OA) (n11 k11 : Nat), PureRun Tryz.prog (execOp (rho [(5, vP b2 0), (37, vI (IntKind.i64.wrap (1 + i6)))]) (mkO o159_9 45)) (vL a11 n11 k11) ∧
 ∃ (l12 : Bs), BytesAt h_15 a11 n11 l12 ∧
 Q (vS l12) h_15)
 (∃ (a12 : OA) (n12 k12 : Nat), PureRun Tryz.prog (execOp (rho [(5, vP b2 0), (41, vI (IntKind.i64.wrap (1 + i6)))]) (mkO o159_11 45)) (vL a12 n12 k12) ∧
 ∃ (l13 : Bs), BytesAt h_14 a12 n12 l13 ∧
 Q (vS l13) h_14))))
 (Tri Tryz.prog 183 [vL none 0 0, .int .u64 (IntKind.u64.wrap (i1)), vI i2, vB (decide (i1 < 0)), vB false] h fun v_10 h_16 =>
 ∃ (a13 : OA) (n13 k13 : Nat) (l14 : Bs), v_10 = vT [vL a13 n13 k13, vS l14] ∧
 Q (vS l14) h_16)
theorem T159 {i1 : Int} {i2 : Int} {h : PHeap} {Q : Value → PHeap → Prop} (hR : R159 i1 i2 h Q) : Tri Tryz.prog 159 [vI i1, vI i2] h Q :=
 tri_of_dn mixed Tryz.func159 rfl (by kernel_rfl) low159 (rs := [.tmp 4]) (by kernel_rfl) rfl (Eq.mpr (by kernel_rfl : dnF Tryz.prog Tryz.f159.ntmps d159 [.tmp 4] [vI i1, vI i2] h Q = R159 i1 i2 h Q) hR)
noncomputable def d180 : DCode := up ⟨[], [], []⟩ (low Tryz.prog (fun _ => false) (Tryz.f180.body.getD .skip))
theorem low180 : low Tryz.prog (fun _ => false) (Tryz.f180.body.getD .skip) = some (eC d180) := by kernel_rfl
def R180 (i1 : Int) (h : PHeap) (Q : Value → PHeap → Prop) : Prop :=
 br (decide (i1 < 10))
 ((0 ≤ i1 ∧ i1 ≤ (IntKind.i64.wrap (i1 + 1)) ∧ (IntKind.i64.wrap (i1 + 1)) ≤ (36 : Int)) ∧
 Q (vS ((([48, 49, 50, 51, 52, 53, 54, 55, 56, 57, 97, 98, 99, 100, 101, 102, 103, 104, 105, 106, 107, 108, 109, 110, 111, 112, 113, 114, 115, 116, 117, 118, 119, 120, 121, 122] : Bs).drop (i1).toNat).take ((IntKind.i64.wrap (i1 + 1)).toNat - (i1).toNat))) h)
 ((0 ≤ (IntKind.i64.wrap (i1 * 2)) ∧ (IntKind.i64.wrap (i1 * 2)) ≤ (IntKind.i64.wrap ((IntKind.i64.wrap (i1 * 2)) + 2)) ∧ (IntKind.i64.wrap ((IntKind.i64.wrap (i1 * 2)) + 2)) ≤ (200 : Int)) ∧
 Q (vS ((([48, 48, 48, 49, 48, 50, 48, 51, 48, 52, 48, 53, 48, 54, 48, 55, 48, 56, 48, 57, 49, 48, 49, 49, 49, 50, 49, 51, 49, 52, 49, 53, 49, 54, 49, 55, 49, 56, 49, 57, 50, 48, 50, 49, 50, 50, 50, 51, 50, 52, 50, 53, 50, 54, 50, 55, 50, 56, 50, 57, 51, 48, 51, 49, 51, 50, 51, 51, 51, 52, 51, 53, 51, 54, 51, 55, 51, 56, 51, 57, 52, 48, 52, 49, 52, 50, 52, 51, 52, 52, 52, 53, 52, 54, 52, 55, 52, 56, 52, 57, 53, 48, 53, 49, 53, 50, 53, 51, 53, 52, 53, 53, 53, 54, 53, 55, 53, 56, 53, 57, 54, 48, 54, 49, 54, 50, 54, 51, 54, 52, 54, 53, 54, 54, 54, 55, 54, 56, 54, 57, 55, 48, 55, 49, 55, 50, 55, 51, 55, 52, 55, 53, 55, 54, 55, 55, 55, 56, 55, 57, 56, 48, 56, 49, 56, 50, 56, 51, 56, 52, 56, 53, 56, 54, 56, 55, 56, 56, 56, 57, 57, 48, 57, 49, 57, 50, 57, 51, 57, 52, 57, 53, 57, 54, 57, 55, 57, 56, 57, 57] : Bs).drop (IntKind.i64.wrap (i1 * 2)).toNat).take ((IntKind.i64.wrap ((IntKind.i64.wrap (i1 * 2)) + 2)).toNat - (IntKind.i64.wrap (i1 * 2)).toNat))) h)
theorem T180 {i1 : Int} {h : PHeap} {Q : Value → PHeap → Prop} (hR : R180 i1 h Q) : Tri Tryz.prog 180 [vI i1] h Q :=
 tri_of_dn mixed Tryz.func180 rfl (by kernel_rfl) low180 (rs := [.tmp 2]) (by kernel_rfl) rfl (Eq.mpr (by kernel_rfl : dnF Tryz.prog Tryz.f180.ntmps d180 [.tmp 2] [vI i1] h Q = R180 i1 h Q) hR)
end Go.Proofs.D
namespace Go.Sx
abbrev Er := Option (Nat × Option Nat)
def failC (b : Bool) (pos : Option Nat) (code : Nat) (e : Er) : Er :=
 match e with
 | some x => some x
 | none => if b then some (code, pos) else none
def builtinS (n : Bytes) : Option (Nat × Nat) :=
 if n == [112, 101, 101, 107] then some (1, 1) else if n == [112, 111, 107, 101] then some (2, 2) else if n == [107, 101, 114, 110, 101, 108] then some (1, 5) else none
abbrev Tab := List (Bytes × Nat)
def getT (t : Tab) (n : Bytes) : Option Nat :=
 match t with
 | [] => none
 | (k, v) :: t => if n == k then some v else getT t n
def varC (gl : Tab) (vis : List Bytes) (name : Bytes) (array : Bool) (pos : Nat) (e : Er) : Er :=
 if vis.contains name then failC (array != false) (some pos) 31 e
 else failC (array != ((getT gl name).getD 0 != 0)) (some pos) 31 (failC (getT gl name).isNone (some pos) 37 e)
def callC (fn : Tab) (name : Bytes) (n pos : Nat) (e : Er) : Er :=
 match builtinS name with
 | some (low, high) => failC (decide (n < low) || decide (high < n)) (some pos) 31 e
 | none => failC (decide (n < (getT fn name).getD 0) || decide ((getT fn name).getD 0 < n)) (some pos) 31 (failC (getT fn name).isNone (some pos) 37 e)
mutual
def ckE (gl fn : Tab) (vis : List Bytes) : E → Er → Er
 | .mk k _ nm _ _ args pos, e => ckEs gl fn vis args (if k = 3 ∨ k = 4 then varC gl vis nm (k == 4) pos e else if k = 5 then callC fn nm args.length pos e else e)
def ckEs (gl fn : Tab) (vis : List Bytes) : List E → Er → Er
 | [], e => e
 | x :: xs, e => ckEs gl fn vis xs (ckE gl fn vis x e)
end
structure CS where
 err : Er
 vis : List Bytes
 cnt : Nat
mutual
def ckS (gl fn : Tab) (loop : Bool) : S → CS → CS
 | .mk k nm args body els pos, c =>
   let e0 := if k = 2 ∨ k = 3 then varC gl c.vis nm (k == 3) pos c.err else if k = 8 ∨ k = 9 then failC (!loop) (some pos) 10 c.err else c.err
   let e1 := ckEs gl fn c.vis args e0
   if k = 1 then ⟨failC (decide (32 ≤ c.cnt)) (some pos) 9 (failC (c.vis.contains nm) (some pos) 7 e1), c.vis ++ [nm], c.cnt + 1⟩
   else if k = 5 then
    let r := ckSs gl fn loop body ⟨e1, c.vis, c.cnt⟩
    let q := ckSs gl fn loop els ⟨r.err, c.vis, r.cnt⟩
    ⟨q.err, c.vis, q.cnt⟩
   else if k = 6 then
    let r := ckSs gl fn true body ⟨e1, c.vis, c.cnt⟩
    ⟨r.err, c.vis, r.cnt⟩
   else ⟨e1, c.vis, c.cnt⟩
def ckSs (gl fn : Tab) (loop : Bool) : List S → CS → CS
 | [], c => c
 | s :: ss, c => ckSs gl fn loop ss (ckS gl fn loop s c)
end
def ckL (gl fn : Tab) (loop : Bool) (l : List S) (c : CS) : CS := let r := ckSs gl fn loop l c; ⟨r.err, c.vis, r.cnt⟩
def ckG (i : Nat) (gl : Tab) (g : G) (e : Er) : Er :=
 failC (decide (256 < g.size)) (some g.pos) 2 (failC ((getT gl g.name).isSome || (builtinS g.name).isSome) (some g.pos) 7 (failC (decide (64 ≤ i)) (some g.pos) 9 e))
def ckGs : Nat → List G → Tab → Er → Tab × Er
 | _, [], gl, e => (gl, e)
 | i, g :: gs, gl, e => ckGs (i + 1) gs ((g.name, g.size) :: gl) (ckG i gl g e)
def ckPs (pos : Nat) : List Bytes → List Bytes → Er → Er
 | _, [], e => e
 | seen, q :: qs, e => ckPs pos (seen ++ [q]) qs (failC (seen.contains q) (some pos) 7 e)
def ckF (i : Nat) (gl fn : Tab) (f : F) (e : Er) : Er :=
 ckPs f.pos [] f.params (failC (decide (6 < f.params.length)) (some f.pos) 9 (failC ((getT gl f.name).isSome || (getT fn f.name).isSome || (builtinS f.name).isSome) (some f.pos) 7 (failC (decide (64 ≤ i)) (some f.pos) 9 e)))
def ckFs (gl : Tab) : Nat → List F → Tab → Er → Tab × Er
 | _, [], fn, e => (fn, e)
 | i, f :: fs, fn, e => ckFs gl (i + 1) fs ((f.name, f.params.length) :: fn) (ckF i gl fn f e)
def ckB (gl fn : Tab) : List F → Er → Er
 | [], e => e
 | f :: fs, e => ckB gl fn fs (ckL gl fn false f.body ⟨e, f.params, f.params.length⟩).err
def mainS : Bytes := [109, 97, 105, 110]
def checkS (p : Pg) : Er :=
 let g := ckGs 0 p.globals [] none
 let f := ckFs g.1 0 p.funcs [] g.2
 ckB g.1 f.1 p.funcs (failC ((getT f.1 mainS).isNone || ((getT f.1 mainS).getD 0 != 0)) none 8 f.2)
end Go.Sx
namespace Go.Proofs.D
open Go Go.Den Go.Sx
set_option maxRecDepth 100000
attribute [local irreducible] IntKind.wrap Tri parseS
def erp (s : Bytes) : Er → Int × Int × Int
 | none => (0, 0, 0)
 | some (c, none) => (1, 1, c)
 | some (c, some n) => ((place s n).1, (place s n).2, c)
def pls (s : Bytes) : Option Nat → Int × Int
 | none => (1, 1)
 | some n => ((place s n).1, (place s n).2)
def MG (h : PHeap) (m : Nat) (gl : Tab) : Prop := ∃ L ck, h m = some (.map ⟨ents L⟩ ck) ∧ ∀ n, match getT gl n with
 | none => mapGet L n = none
 | some z => ∃ l i j k, mapGet L n = some (vA [vS l, vI z, vI i, vI j, vI k])
def MF (h : PHeap) (m : Nat) (fn : Tab) : Prop := ∃ L ck, h m = some (.map ⟨ents L⟩ ck) ∧ ∀ n, mapGet L n = (getT fn n).map fun (k : Nat) => vI k
def KV (g : PHeap) (cb m1 m2 : Nat) (h : PHeap) (a : OA) (k : Nat) (vis : List Bytes) : Prop :=
 Own h 9 1 (vL a vis.length k) vis.length (vis.map fun l => vS l) ∧ ∀ b, a = ad b 0 → b ≠ cb ∧ b ≠ m1 ∧ b ≠ m2 ∧ g b = none
structure KB (g : PHeap) (cb m1 m2 : Nat) (gl fn : Tab) (h : PHeap) : Prop where
 ext : Ext g h
 f0 : g cb = none
 f1 : g m1 = none
 f2 : g m2 = none
 n1 : m1 ≠ cb
 n2 : m2 ≠ cb
 n3 : m1 ≠ m2
 mg : MG h m1 gl
 mf : MF h m2 fn
structure KS (s : Bytes) (g : PHeap) (cb m1 m2 : Nat) (gl fn : Tab) (c : CS) (h : PHeap) : Prop extends KB g cb m1 m2 gl fn h where
 er : ∀ x, c.err = some x → x.1 ≠ 0
 len : c.vis.length ≤ c.cnt
 bl : ∃ a k, h cb = some (.cells ⟨[vM m1, vM m2, vL a c.vis.length k, vI c.cnt, vI (erp s c.err).1, vI (erp s c.err).2.1, vI (erp s c.err).2.2]⟩ 114) ∧ KV g cb m1 m2 h a k c.vis
section
variable {s : Bytes} {g : PHeap} {cb m1 m2 : Nat} {gl fn : Tab} {c : CS} {h h' : PHeap}
theorem KB.chg (hk : KB g cb m1 m2 gl fn h) (x : Chg cb h h') : KB g cb m1 m2 gl fn h' where
 ext := ext_away hk.f0 hk.ext x.away
 f0 := hk.f0
 f1 := hk.f1
 f2 := hk.f2
 n1 := hk.n1
 n2 := hk.n2
 n3 := hk.n3
 mg := let ⟨L, ck, h1, h2⟩ := hk.mg; ⟨L, ck, by rw [x _ hk.n1]; exact h1, h2⟩
 mf := let ⟨L, ck, h1, h2⟩ := hk.mf; ⟨L, ck, by rw [x _ hk.n2]; exact h1, h2⟩
theorem KV.chg {a : OA} {k : Nat} {vis : List Bytes} (hk : KV g cb m1 m2 h a k vis) (x : Chg cb h h') : KV g cb m1 m2 h' a k vis :=
 ⟨Own.keep (fun b hb => x b (hk.2 b hb).1) hk.1, hk.2⟩
theorem KV.str {a : OA} {k : Nat} {vis : List Bytes} (hk : KV g cb m1 m2 h a k vis) : StrAt h a vis := by
 rcases hk.1.2 with ⟨_, h1⟩ | ⟨b, cap, rest, h1, h2, _, _⟩
 · exact .inl (List.eq_nil_of_length_eq_zero h1)
 · injection h1 with h1 _ _
   refine .inr ⟨b, 0, h1, fun j l hj => ?_⟩
   rw [cell_of h2]
   have : j < vis.length := (List.getElem?_eq_some_iff.1 hj).1
   rw [List.getElem?_append_left (by simpa using this)]
   simp [hj]
theorem fail_t (hk : KS s g cb m1 m2 gl fn c h) (b : Bool) (pos : Option Nat) (code : Nat) (hc : code ≠ 0) :
 Tri Tryz.prog 59 [vP cb 0, vB b, vI (pls s pos).1, vI (pls s pos).2, vI code] h fun v h' => v = vT [] ∧ KS s g cb m1 m2 gl fn { c with err := failC b pos code c.err } h' := by
 refine T59 ?_
 unfold R59
 obtain ⟨a, k, hb, hv⟩ := hk.bl
 refine br_split (fun e => ?_) (fun e => ?_)
 · subst e
   refine ⟨_, cell_of hb (0 + 6), ?_⟩
   cases hce : c.err with
   | none =>
     rw [hce] at hb
     refine br_pos rfl ⟨_, _, _, hb, ⟨by simp, Nat.zero_le _⟩, ?_⟩
     intro h1 hh1
     refine ⟨_, _, _, Put.at hh1, ⟨by simp [splice], Nat.zero_le _⟩, ?_⟩
     intro h2 hh2
     refine ⟨_, _, _, Put.at hh2, ⟨by simp [splice], Nat.zero_le _⟩, ?_⟩
     intro h3 hh3
     have hx := ((Put.chg hh1).trans (Put.chg hh2)).trans (Put.chg hh3)
     refine ⟨rfl, hk.toKB.chg hx, ?_, hk.len, a, k, ?_, hv.chg hx⟩
     · intro x hx; simp [failC] at hx; subst hx; exact hc
     · have := Put.at hh3
       cases pos <;> exact this
   | some x =>
     have hx := hk.er x hce
     have : (erp s (some x)).2.2 = x.1 := by
      obtain ⟨c, p⟩ := x
      cases p <;> rfl
     refine br_neg (by rw [this]; simpa using hx) ⟨rfl, ?_⟩
     show KS s g cb m1 m2 gl fn { c with err := failC true pos code (some x) } h
     rw [show failC true pos code (some x) = c.err from hce.symm]; exact hk
 · subst e
   refine ⟨rfl, ?_⟩
   have : failC false pos code c.err = c.err := by unfold failC; split <;> simp_all
   rw [this]; exact hk
theorem builtin_t (l : Bytes) (h : PHeap) : Tri Tryz.prog 24 [vS l] h fun v h' => v = (match builtinS l with | some (a, b) => vT [vI a, vI b, vB true] | none => vT [vI 0, vI 0, vB false]) ∧ h' = h := by
 refine T24 ?_
 unfold R24
 unfold builtinS
 refine br_split (fun e => ?_) (fun e => ?_)
 · rw [if_pos e]; exact ⟨rfl, rfl⟩
 rw [if_neg (by rw [e]; decide)]
 refine br_split (fun e => ?_) (fun e => ?_)
 · rw [if_pos e]; exact ⟨rfl, rfl⟩
 rw [if_neg (by rw [e]; decide)]
 refine br_split (fun e => ?_) (fun e => ?_)
 · rw [if_pos e]; exact ⟨rfl, rfl⟩
 rw [if_neg (by rw [e]; decide)]
 exact ⟨rfl, rfl⟩
theorem isBuiltin_t (l : Bytes) (h : PHeap) : Tri Tryz.prog 101 [vS l] h fun v h' => v = vB (builtinS l).isSome ∧ h' = h := by
 refine T101 ?_
 unfold R101
 refine Tri.mono (builtin_t l h) ?_
 rintro _ h ⟨rfl, rfl⟩
 cases builtinS l with
 | none => exact ⟨_, _, _, rfl, rfl, rfl⟩
 | some x => exact ⟨_, _, _, rfl, rfl, rfl⟩
theorem und111 : Tryz.prog.underlying 111 = some (.map 9 86) := rfl
theorem und112 : Tryz.prog.underlying 112 = some (.map 9 3) := rfl
theorem lookG (hk : KB g cb m1 m2 gl fn h) {ρ : Operand → Value} {m k : Operand} {l : Bytes} (hm : ρ m = vM m1) (hl : ρ k = vS l) (ty : TypeId) :
 Raw Tryz.prog (execOp ρ (mkO (.lookup 111 m k true) ty)) h fun v h' => h' = h ∧ ∃ nm i j k, v = vT [vA [vS nm, vI ((getT gl l).getD 0 : Nat), vI i, vI j, vI k], vB (getT gl l).isSome] := by
 obtain ⟨L, ck, h1, h2⟩ := hk.mg
 refine Raw.mono (raw_lookupS (z := vA [vS [], vI 0, vI 0, vI 0, vI 0]) und111 rfl rfl hm hl h1) ?_
 rintro _ h' ⟨rfl, rfl⟩
 refine ⟨rfl, ?_⟩
 have := h2 l
 cases hg : getT gl l with
 | none => rw [hg] at this; simp only at this; rw [this]; exact ⟨_, _, _, _, rfl⟩
 | some z => rw [hg] at this; obtain ⟨a, b, c, d, this⟩ := this; rw [this]; exact ⟨_, _, _, _, rfl⟩
theorem lookF (hk : KB g cb m1 m2 gl fn h) {ρ : Operand → Value} {m k : Operand} {l : Bytes} (hm : ρ m = vM m2) (hl : ρ k = vS l) (ty : TypeId) :
 Raw Tryz.prog (execOp ρ (mkO (.lookup 112 m k true) ty)) h fun v h' => h' = h ∧ v = vT [vI ((getT fn l).getD 0 : Nat), vB (getT fn l).isSome] := by
 obtain ⟨L, ck, h1, h2⟩ := hk.mf
 refine Raw.mono (raw_lookupS (z := vI 0) und112 rfl rfl hm hl h1) ?_
 rintro _ h' ⟨rfl, rfl⟩
 refine ⟨rfl, ?_⟩
 have := h2 l
 cases hg : getT fn l with
 | none => rw [hg] at this; simp only [Option.map_none] at this; rw [this]; rfl
 | some z => rw [hg] at this; simp only [Option.map_some] at this; rw [this]; rfl
theorem bne_cast (n : Nat) : (((n : Nat) : Int) != 0) = (n != 0) := by
 rw [Bool.eq_iff_iff]; simp
theorem KS.to {e e' : Er} (hk : KS s g cb m1 m2 gl fn { c with err := e } h) (he : e = e') : KS s g cb m1 m2 gl fn { c with err := e' } h := he ▸ hk
theorem var_t (hk : KS s g cb m1 m2 gl fn c h) (hl : c.vis.length ≤ 1000000) (nm : Bytes) (arr : Bool) (pos : Nat) :
 Tri Tryz.prog 150 [vP cb 0, vS nm, vB arr, vI (place s pos).1, vI (place s pos).2] h fun v h' => v = vT [] ∧ KS s g cb m1 m2 gl fn { c with err := varC gl c.vis nm arr pos c.err } h' := by
 refine T150 ?_
 unfold R150
 obtain ⟨a, k, hb, hv⟩ := hk.bl
 refine ⟨_, _, _, cell_of hb (0 + 2), ?_⟩
 refine Tri.mono (contains_tri nm hv.str hl) ?_
 rintro _ h ⟨rfl, rfl⟩
 refine ⟨_, rfl, br_split (fun e => ?_) (fun e => ?_)⟩
 · have e : c.vis.contains nm = false := by simpa using e
   refine ⟨_, cell_of hb 0, ?_⟩
   refine Raw.mono (lookG hk.toKB rfl rfl 181) ?_
   rintro _ h ⟨rfl, _, _, _, _, rfl⟩
   refine ⟨_, _, _, _, _, _, rfl, ?_⟩
   refine Tri.mono (fail_t hk _ (some pos) 37 (by decide)) ?_
   rintro _ h1 ⟨rfl, hk1⟩
   refine ⟨rfl, ?_⟩
   refine Tri.mono (fail_t hk1 _ (some pos) 31 (by decide)) ?_
   rintro _ h2 ⟨rfl, hk2⟩
   refine ⟨rfl, rfl, KS.to hk2 ?_⟩
   simp only [varC, e, bne_cast]
   cases getT gl nm <;> rfl
 · have e : c.vis.contains nm = true := by simpa using e
   refine Tri.mono (fail_t hk _ (some pos) 31 (by decide)) ?_
   rintro _ h1 ⟨rfl, hk1⟩
   refine ⟨rfl, rfl, KS.to hk1 ?_⟩
   simp only [varC, e]; rfl
theorem ckEs_drop {vis : List Bytes} {es : List E} {j : Nat} (hj : j < es.length) (e : Er) : ckEs gl fn vis (es.drop j) e = ckEs gl fn vis (es.drop (j + 1)) (ckE gl fn vis es[j] e) := by rw [List.drop_eq_getElem_cons hj]; rfl
def XE (s : Bytes) (g : PHeap) (cb m1 m2 : Nat) (gl fn : Tab) (e : E) : Prop := ∀ cs c h, RE (plP s) 8 g e cs → KS s g cb m1 m2 gl fn c h → c.vis.length ≤ 1000000 →
 Tri Tryz.prog 151 [vP cb 0, vA cs] h fun v h' => v = vT [] ∧ KS s g cb m1 m2 gl fn { c with err := ckE gl fn c.vis e c.err } h'
theorem loopE {args : List E} (hih : ∀ e ∈ args, XE s g cb m1 m2 gl fn e) (hlen : args.length ≤ 1000000) {a : OA} (hA : At 8 (RE (plP s) 8) g a args) {Q : PHeap → Prop} {T : Prop} (hT : T) {e0 : Er} (hQ : ∀ h, KS s g cb m1 m2 gl fn { c with err := ckEs gl fn c.vis args e0 } h → Q h)
 (hl : c.vis.length ≤ 1000000) (hk : KS s g cb m1 m2 gl fn { c with err := e0 } h) :
 ∃ (I : Nat → Int → PHeap → Prop), (∃ (m2 : Nat), I m2 (0 : Int) h) ∧ ∀ (m1 : Nat) (i : Int) (h_2 : PHeap), I m1 i h_2 →
   br (decide (i < ((args.length : Nat) : Int)))
    (∃ (b1 o2 : Nat), a = some ⟨b1, o2, none⟩ ∧ (0 ≤ i ∧ i < args.length) ∧
     ∃ (i6 : Int) (l4 l5 : Bs) (i7 : Int) (l6 : Bs) (a2 : OA) (n2 k2 : Nat) (i8 i9 : Int), h_2.row b1 (o2 + (i).toNat * 8) [vI i6, vS l4, vS l5, vI i7, vS l6, vL a2 n2 k2, vI i8, vI i9] ∧
       Tri Tryz.prog 151 [vP cb 0, vA [vI i6, vS l4, vS l5, vI i7, vS l6, vL a2 n2 k2, vI i8, vI i9]] h_2 fun v_2 h_3 => v_2 = vT [] ∧ ∃ (m3 : Nat), m3 < m1 ∧ I m3 (IntKind.i64.wrap (i + 1)) h_3 ∧ T ∧ True)
    (Q h_2) := by
 refine ⟨fun m i h' => ∃ (j : Nat) (e : Er), i = j ∧ j + m = args.length ∧ KS s g cb m1 m2 gl fn { c with err := e } h' ∧ ckEs gl fn c.vis (args.drop j) e = ckEs gl fn c.vis args e0, ⟨args.length, 0, e0, rfl, by omega, hk, rfl⟩, ?_⟩
 rintro m _ h1 ⟨j, e, rfl, hjm, hk1, he⟩
 refine br_split (fun e2 => ?_) (fun e2 => ?_)
 · have hj : j < args.length := by
    have := of_decide_eq_true e2
    omega
   obtain ⟨b, o, cs, rfl, hr, hrel⟩ := hA.get hj
   have ihj := hih _ (List.getElem_mem hj) _ _ _ hrel hk1 hl
   have hr := row_ext (fun ob => hk1.ext b ob) hr
   rw [ckEs_drop hj] at he
   generalize args[j] = x at *
   match x, hrel with
   | .mk kd op nm vl tx args' pos, hrel =>
   obtain ⟨a1, c1, rfl, hA1⟩ := RE_iff.1 hrel
   refine ⟨b, o, rfl, ⟨by omega, by omega⟩, _, _, _, _, _, _, _, _, _, _, hr, ?_⟩
   refine Tri.mono ihj ?_
   rintro _ h2 ⟨rfl, hk2⟩
   refine ⟨rfl, m - 1, by omega, ⟨j + 1, _, ?_, by omega, hk2, he⟩, hT, trivial⟩
   rw [wrap64 (by omega) (by omega)]; rfl
 · have : args.length ≤ j := by
    have := of_decide_eq_false e2
    omega
   rw [List.drop_eq_nil_of_le this] at he
   exact hQ _ (KS.to hk1 he)
theorem expr_t : ∀ k e, cntE e ≤ k → k ≤ 1000000 → XE s g cb m1 m2 gl fn e := by
 intro k
 induction k with
 | zero => intro e he; have := cntE_pos e; omega
 | succ k ih =>
   intro e he hk5 cs c h hrel hk hl
   match e, he, hrel with
   | .mk kd op nm vl tx args pos, he, hrel =>
   obtain ⟨a1, c1, rfl, hA1⟩ := RE_iff.1 hrel
   simp only [cntE] at he
   have hlen := cntEs_len args
   have hih : ∀ e ∈ args, XE s g cb m1 m2 gl fn e := fun e hm => ih e (by have := cntEs_mem hm; omega) (by omega)
   refine T151 ?_
   unfold R151
   have loop := fun {T : Prop} (hT : T) {h1 : PHeap} {e0 : Er} (hk1 : KS s g cb m1 m2 gl fn { c with err := e0 } h1) (he0 : e0 = if kd = 3 ∨ kd = 4 then varC gl c.vis nm (kd == 4) pos c.err else if kd = 5 then callC fn nm args.length pos c.err else c.err) =>
    loopE (Q := fun h => vT [] = vT [] ∧ KS s g cb m1 m2 gl fn { c with err := ckE gl fn c.vis (.mk kd op nm vl tx args pos) c.err } h) hih (by omega) hA1 hT (fun h hq => ⟨rfl, KS.to hq (by rw [ckE, he0])⟩) hl hk1
   refine br_split (fun e => ?_) (fun e3 => ?_)
   · have e : kd = 3 := by have := beq_iff_eq.1 e; omega
     subst e
     refine Tri.mono (var_t hk hl nm _ pos) ?_
     rintro _ h1 ⟨rfl, hk1⟩
     exact ⟨rfl, loop rfl hk1 rfl⟩
   refine br_split (fun e => ?_) (fun e4 => ?_)
   · have e : kd = 4 := by have := beq_iff_eq.1 e; omega
     subst e
     refine Tri.mono (var_t hk hl nm _ pos) ?_
     rintro _ h1 ⟨rfl, hk1⟩
     exact ⟨rfl, loop rfl hk1 rfl⟩
   have e3 : kd ≠ 3 := fun e => by subst e; cases e3
   have e4 : kd ≠ 4 := fun e => by subst e; cases e4
   rw [if_neg (by omega)] at loop
   refine br_split (fun e => ?_) (fun e5 => ?_)
   · have e : kd = 5 := by have := beq_iff_eq.1 e; omega
     subst e
     rw [if_pos rfl] at loop
     refine Tri.mono (builtin_t nm h) ?_
     rintro _ h ⟨rfl, rfl⟩
     unfold callC at loop
     cases hbu : builtinS nm with
     | none =>
       rw [hbu] at loop
       refine ⟨_, _, _, rfl, br_pos rfl ?_⟩
       obtain ⟨a, k, hb, hv⟩ := hk.bl
       refine ⟨_, cell_of hb (0 + 1), ?_⟩
       refine Raw.mono (lookF hk.toKB rfl rfl 117) ?_
       rintro _ h ⟨rfl, rfl⟩
       refine ⟨_, _, rfl, ?_⟩
       refine Tri.mono (fail_t hk _ (some pos) 37 (by decide)) ?_
       rintro _ h1 ⟨rfl, hk1⟩
       refine ⟨rfl, br_split (fun e => ?_) (fun e => ?_)⟩
       · have e : args.length < (getT fn nm).getD 0 := by have := of_decide_eq_true e; omega
         refine Tri.mono (fail_t hk1 _ (some pos) 31 (by decide)) ?_
         rintro _ h2 ⟨rfl, hk2⟩
         refine ⟨rfl, loop rfl hk2 ?_⟩
         simp only [e, decide_true, Bool.true_or]
         cases getT fn nm <;> rfl
       · have e : ¬ args.length < (getT fn nm).getD 0 := by have := of_decide_eq_false e; omega
         refine Tri.mono (fail_t hk1 _ (some pos) 31 (by decide)) ?_
         rintro _ h2 ⟨rfl, hk2⟩
         refine ⟨rfl, loop rfl hk2 ?_⟩
         simp only [e, decide_false, Bool.false_or]
         congr 1
         · simp
         · cases getT fn nm <;> rfl
     | some x =>
       obtain ⟨lo, hi⟩ := x
       rw [hbu] at loop
       refine ⟨_, _, _, rfl, br_neg rfl ?_⟩
       refine Tri.mono (fail_t hk _ (some pos) 37 (by decide)) ?_
       rintro _ h1 ⟨rfl, hk1⟩
       have hk1 := KS.to (e' := c.err) hk1 (by unfold failC; split <;> simp_all)
       refine ⟨rfl, br_split (fun e => ?_) (fun e => ?_)⟩
       · have e : args.length < lo := by have := of_decide_eq_true e; omega
         refine Tri.mono (fail_t hk1 _ (some pos) 31 (by decide)) ?_
         rintro _ h2 ⟨rfl, hk2⟩
         refine ⟨rfl, loop rfl hk2 ?_⟩
         simp only [e, decide_true, Bool.true_or]
       · have e : ¬ args.length < lo := by have := of_decide_eq_false e; omega
         refine Tri.mono (fail_t hk1 _ (some pos) 31 (by decide)) ?_
         rintro _ h2 ⟨rfl, hk2⟩
         refine ⟨rfl, loop rfl hk2 ?_⟩
         simp only [e, decide_false, Bool.false_or]
         congr 1
         simp
   · have e5 : kd ≠ 5 := fun e => by subst e; cases e5
     rw [if_neg e5] at loop
     exact loop rfl hk rfl
end
end Go.Proofs.D
namespace Go.Sx
def Gr (n : Nat) (c c' : CS) : Prop := c.cnt ≤ c'.cnt ∧ c'.cnt ≤ c.cnt + n ∧ ∃ t, c'.vis = c.vis ++ t
theorem Gr.refl (n : Nat) (c : CS) : Gr n c c := ⟨Nat.le_refl _, Nat.le_add_right _ _, [], by simp⟩
theorem Gr.trans {n m : Nat} {c c' c'' : CS} (h : Gr n c c') (h' : Gr m c' c'') : Gr (n + m) c c'' := by
 obtain ⟨h1, h2, t, h3⟩ := h
 obtain ⟨k1, k2, u, k3⟩ := h'
 exact ⟨by omega, by omega, t ++ u, by rw [k3, h3, List.append_assoc]⟩
theorem Gr.le {n m : Nat} {c c' : CS} (h : Gr n c c') (hn : n ≤ m) : Gr m c c' := ⟨h.1, by have := h.2.1; omega, h.2.2⟩
theorem Gr.list {n : Nat} {c c' : CS} (h : Gr n c c') : Gr n c ⟨c'.err, c.vis, c'.cnt⟩ := ⟨h.1, h.2.1, [], by simp⟩
theorem Gr.err {n : Nat} {c c' : CS} {e : Er} (h : Gr n ⟨e, c.vis, c.cnt⟩ c') : Gr n c c' := h
mutual
theorem ckS_gr (gl fn : Tab) : ∀ (lp : Bool) (s : S) (c : CS), Gr (cntS s) c (ckS gl fn lp s c)
 | lp, .mk k nm args body els pos, c => by
   simp only [ckS, cntS]
   generalize ckEs gl fn c.vis args _ = e1
   split
   · exact ⟨by simp, by simp, [nm], rfl⟩
   · split
     · have h1 := ckSs_gr gl fn lp body ⟨e1, c.vis, c.cnt⟩
       have h2 := ckSs_gr gl fn lp els ⟨(ckSs gl fn lp body ⟨e1, c.vis, c.cnt⟩).err, c.vis, (ckSs gl fn lp body ⟨e1, c.vis, c.cnt⟩).cnt⟩
       exact (h1.list.trans h2.list).err.le (by omega)
     · split
       · exact (ckSs_gr gl fn true body ⟨e1, c.vis, c.cnt⟩).list.err.le (by omega)
       · exact Gr.refl _ _
theorem ckSs_gr (gl fn : Tab) : ∀ (lp : Bool) (l : List S) (c : CS), Gr (cntSs l) c (ckSs gl fn lp l c)
 | _, [], c => Gr.refl _ c
 | lp, s :: ss, c => (ckS_gr gl fn lp s c).trans (ckSs_gr gl fn lp ss _)
end
end Go.Sx
namespace Go.Proofs.D
open Go Go.Den Go.Sx
set_option maxRecDepth 100000
attribute [local irreducible] IntKind.wrap Tri parseS
section
variable {s : Bytes} {g : PHeap} {cb m1 m2 : Nat} {gl fn : Tab} {c : CS} {h h' : PHeap}
theorem KB.of (hk : KB g cb m1 m2 gl fn h) (hx : Ext g h') (h1 : h' m1 = h m1) (h2 : h' m2 = h m2) : KB g cb m1 m2 gl fn h' where
 ext := hx
 f0 := hk.f0
 f1 := hk.f1
 f2 := hk.f2
 n1 := hk.n1
 n2 := hk.n2
 n3 := hk.n3
 mg := let ⟨L, ck, g1, g2⟩ := hk.mg; ⟨L, ck, by rw [h1]; exact g1, g2⟩
 mf := let ⟨L, ck, g1, g2⟩ := hk.mf; ⟨L, ck, by rw [h2]; exact g1, g2⟩
def XT (s : Bytes) (g : PHeap) (cb m1 m2 : Nat) (gl fn : Tab) (e : S) : Prop := ∀ cs c h lp, RS (plP s) 8 7 g e cs → KS s g cb m1 m2 gl fn c h → c.cnt + cntS e ≤ 1000000 →
 Tri Tryz.prog 103 [vP cb 0, vA cs, vB lp] h fun v h' => v = vT [] ∧ KS s g cb m1 m2 gl fn (ckS gl fn lp e c) h'
theorem ckSs_drop {lp : Bool} {es : List S} {j : Nat} (hj : j < es.length) (c : CS) : ckSs gl fn lp (es.drop j) c = ckSs gl fn lp (es.drop (j + 1)) (ckS gl fn lp es[j] c) := by rw [List.drop_eq_getElem_cons hj]; rfl
theorem KV.cut {a a' : OA} {k : Nat} {vis t : List Bytes} (hv : KV g cb m1 m2 h a k (vis ++ t)) (hs : SlA a a' 0 k 1) : KV g cb m1 m2 h a' (k - 0) vis := by
 obtain ⟨⟨h1, h2⟩, h3⟩ := hv
 rcases h2 with ⟨h2, h4⟩ | ⟨b, cap, rest, h2, h4, h5, h6⟩
 · injection h2 with e1 e2 e3
   have hv0 : vis = [] := List.eq_nil_of_length_eq_zero (by simp at h4; have := h4.1; simp [this])
   subst hv0
   have := hs.2 e1
   subst this; subst e3
   exact ⟨⟨by simp, .inl ⟨rfl, rfl⟩⟩, fun b hb => by cases hb⟩
 · injection h2 with e1 e2 e3
   subst e3
   obtain ⟨o', e4, e5⟩ := hs.1 b 0 e1
   have := e5 (.inr rfl)
   subst this; subst e4
   refine ⟨⟨by simp, .inr ⟨b, k, t.map (fun l => vS l) ++ rest, rfl, ?_, ?_, ?_⟩⟩, fun b' hb' => h3 b' (e1.trans (by simpa using hb'))⟩
   · rw [h4]; simp
   · simp only [List.length_append, List.length_map] at h5 h6 ⊢; omega
   · simp at h6; omega
theorem list_t {es : List S} (ih : ∀ e ∈ es, XT s g cb m1 m2 gl fn e) {a : OA} {cc : Nat} (hA : At 7 (RS (plP s) 8 7) g a es) (lp : Bool) (hk : KS s g cb m1 m2 gl fn c h) (hc : c.cnt + cntSs es ≤ 1000000) :
 Tri Tryz.prog 61 [vP cb 0, vL a es.length cc, vB lp] h fun v h' => v = vT [] ∧ KS s g cb m1 m2 gl fn (ckL gl fn lp es c) h' := by
 refine T61 ?_
 unfold R61
 obtain ⟨a0, k0, hb0, hv0⟩ := hk.bl
 have hlen := cntSs_len es
 refine ⟨_, _, _, cell_of hb0 (0 + 2), ?_⟩
 refine ⟨fun m i h' => ∃ (j : Nat) (c' : CS), i = j ∧ j + m = es.length ∧ KS s g cb m1 m2 gl fn c' h' ∧ c'.cnt + cntSs (es.drop j) ≤ 1000000 ∧ ckSs gl fn lp (es.drop j) c' = ckSs gl fn lp es c, ⟨es.length, 0, c, rfl, by omega, hk, hc, rfl⟩, ?_⟩
 rintro m _ h1 ⟨j, c', rfl, hjm, hk1, hc1, he⟩
 refine br_split (fun e2 => ?_) (fun e2 => ?_)
 · have hj : j < es.length := by
    have := of_decide_eq_true e2
    omega
   obtain ⟨b, o, cs, rfl, hr, hrel⟩ := hA.get hj
   rw [cntSs_drop hj] at hc1
   have ihj := ih _ (List.getElem_mem hj) _ _ _ lp hrel hk1 (by omega)
   have hr := row_ext (fun ob => hk1.ext b ob) hr
   have hgr := (ckS_gr gl fn lp es[j] c').2.1
   rw [ckSs_drop hj] at he
   generalize es[j] = x at *
   match x, hrel with
   | .mk kd nm args body els pos, hrel =>
   obtain ⟨a1, c1, a2, c2, a3, c3, rfl, hA1, hA2, hA3⟩ := RS_iff.1 hrel
   refine ⟨b, o, rfl, ⟨by omega, by omega⟩, _, _, _, _, _, _, _, _, _, _, _, _, _, hr, ?_⟩
   refine Tri.mono ihj ?_
   rintro _ h2 ⟨rfl, hk2⟩
   refine ⟨rfl, m - 1, by omega, ⟨j + 1, _, ?_, by omega, hk2, by omega, he⟩, trivial⟩
   rw [wrap64 (by omega) (by omega)]; rfl
 · have : es.length ≤ j := by
    have := of_decide_eq_false e2
    omega
   rw [List.drop_eq_nil_of_le this] at he
   have he : c' = ckSs gl fn lp es c := he
   obtain ⟨g1, g2, t, g3⟩ := ckSs_gr gl fn lp es c
   rw [← he] at g1 g2 g3
   obtain ⟨a4, k4, hb4, hv4⟩ := hk1.bl
   have hcap : c.vis.length ≤ k4 ∧ okA a4 c'.vis.length k4 := by
    rcases hv4.1.2 with ⟨k1, k2⟩ | ⟨b, cap, rest, k1, k2, k3, k5⟩
    · injection k1 with k1 k3 k6
      have : c.vis.length = 0 := by rw [g3] at k2; simp at k2; simp [k2.1]
      exact ⟨by omega, .inr ⟨k1, k2, k6⟩⟩
    · injection k1 with k1 k3 k6
      refine ⟨?_, .inl ⟨b, 0, k1⟩⟩
      rw [g3, List.length_append] at k5; omega
   refine ⟨_, _, _, cell_of hb4 (0 + 2), ⟨hcap.2, by omega, by omega, by omega⟩, ?_⟩
   intro a7 ha7
   refine ⟨_, _, _, hb4, ⟨by simp, Nat.zero_le _⟩, ?_⟩
   intro h3 hh3
   have hx := Put.chg hh3
   rw [g3] at hv4
   refine ⟨rfl, ?_⟩
   rw [ckL, ← he]
   exact ⟨hk1.toKB.chg hx, hk1.er, by have := hk.len; show c.vis.length ≤ c'.cnt; omega, a7, k4 - 0, Put.at hh3, (hv4.cut ha7).chg hx⟩
theorem tail_t {kd : Nat} {nm : Bytes} {body els : List S} {pos : Nat} {e1 : Er} (hih2 : ∀ e ∈ body, XT s g cb m1 m2 gl fn e) (hih3 : ∀ e ∈ els, XT s g cb m1 m2 gl fn e) {a2 a3 : OA} {c2 c3 : Nat} (hA2 : At 7 (RS (plP s) 8 7) g a2 body) (hA3 : At 7 (RS (plP s) 8 7) g a3 els) {lp : Bool}
 (hk : KS s g cb m1 m2 gl fn ⟨e1, c.vis, c.cnt⟩ h) (hc : c.cnt + (cntSs body + cntSs els + 1) ≤ 1000000) {Q : PHeap → Prop}
 (hQ : ∀ h, KS s g cb m1 m2 gl fn (if kd = 1 then ⟨failC (decide (32 ≤ c.cnt)) (some pos) 9 (failC (c.vis.contains nm) (some pos) 7 e1), c.vis ++ [nm], c.cnt + 1⟩
     else if kd = 5 then ckL gl fn lp els (ckL gl fn lp body ⟨e1, c.vis, c.cnt⟩) else if kd = 6 then ckL gl fn true body ⟨e1, c.vis, c.cnt⟩ else ⟨e1, c.vis, c.cnt⟩) h → Q h) :
 br (((kd : Nat) : Int) == 1)
  (∃ (a5 : OA) (n5 k5 : Nat), h.cell cb (0 + 2) = some (vL a5 n5 k5) ∧
   Tri Tryz.prog 102 [vL a5 n5 k5, vS nm] h fun v_3 h_4 => ∃ (c2 : Bool), v_3 = vB c2 ∧ (tv [vI ((place s pos).2 : Nat)]) ∧ (tv [vI ((place s pos).1 : Nat)]) ∧
    Tri Tryz.prog 59 [vP cb 0, vB c2, vI ((place s pos).1 : Nat), vI ((place s pos).2 : Nat), vI 7] h_4 fun v_4 h_5 => v_4 = vT [] ∧ ∃ (i9 : Int), h_5.cell cb (0 + 3) = some (vI i9) ∧
     Tri Tryz.prog 59 [vP cb 0, vB (decide (i9 ≥ 32)), vI ((place s pos).1 : Nat), vI ((place s pos).2 : Nat), vI 9] h_5 fun v_5 h_6 => v_5 = vT [] ∧ (h_6.cell cb (0 + 3) = some (vI i9)) ∧
      ∃ (a6 : OA) (n6 k6 : Nat), h_6.cell cb (0 + 2) = some (vL a6 n6 k6) ∧ ∀ (b2 : Nat), h_6 b2 = none → ∀ (h_7 : PHeap), h_7 = h_6.put b2 (.cells ⟨[vS nm]⟩ 9) → (h_7.cell cb (0 + 2) = some (vL a6 n6 k6)) ∧
        Raw Tryz.prog (execOp (rho [(78, vL a6 n6 k6), (81, vL (ad b2 0) 1 1)]) (mkO o103_10 51)) h_7 fun v_6 h_8 => ∃ (a7 : OA) (n7 k7 : Nat), v_6 = vL a7 n7 k7 ∧
         ∃ (l5 : List Value) (t1 : TypeId) (z1 : Nat × Nat), h_8 cb = some (.cells ⟨l5⟩ t1 z1) ∧ ((0 + 2) + 1 ≤ l5.length ∧ z1.2 ≤ (0 + 2)) ∧ ∀ (h_9 : PHeap), h_9 = h_8.put cb (.cells ⟨splice l5 (0 + 2) [vL a7 n7 k7]⟩ t1 z1) →
           ∃ (i10 : Int), h_9.cell cb (0 + 3) = some (vI i10) ∧ ∃ (l6 : List Value) (t2 : TypeId) (z2 : Nat × Nat), h_9 cb = some (.cells ⟨l6⟩ t2 z2) ∧ ((0 + 3) + 1 ≤ l6.length ∧ z2.2 ≤ (0 + 3)) ∧
             ∀ (h_10 : PHeap), h_10 = h_9.put cb (.cells ⟨splice l6 (0 + 3) [vI (IntKind.i64.wrap (i10 + 1))]⟩ t2 z2) → Q h_10)
  (br (((kd : Nat) : Int) == 5)
   (Tri Tryz.prog 61 [vP cb 0, vL a2 body.length c2, vB lp] h fun v_7 h_11 => v_7 = vT [] ∧ Tri Tryz.prog 61 [vP cb 0, vL a3 els.length c3, vB lp] h_11 fun v_8 h_12 => v_8 = vT [] ∧ Q h_12)
   (br (((kd : Nat) : Int) == 6)
    (Tri Tryz.prog 61 [vP cb 0, vL a2 body.length c2, vB true] h fun v_9 h_13 => v_9 = vT [] ∧ Q h_13)
    (Q h))) := by
 refine br_split (fun e => ?_) (fun n1 => br_split (fun e => ?_) (fun n5 => br_split (fun e => ?_) (fun n6 => ?_)))
 · have e : kd = 1 := by have := beq_iff_eq.1 e; omega
   subst e
   rw [if_pos rfl] at hQ
   obtain ⟨a, k, hb, hv⟩ := hk.bl
   have hl : c.vis.length ≤ c.cnt := hk.len
   refine ⟨_, _, _, cell_of hb (0 + 2), ?_⟩
   refine Tri.mono (contains_tri nm hv.str (by show c.vis.length ≤ _; omega)) ?_
   rintro _ h ⟨rfl, rfl⟩
   refine ⟨_, rfl, rfl, rfl, ?_⟩
   refine Tri.mono (fail_t hk _ (some pos) 7 (by decide)) ?_
   rintro _ h1 ⟨rfl, hk1⟩
   obtain ⟨a1, k1, hb1, hv1⟩ := hk1.bl
   refine ⟨rfl, _, cell_of hb1 (0 + 3), ?_⟩
   refine Tri.mono (fail_t hk1 _ (some pos) 9 (by decide)) ?_
   rintro _ h2 ⟨rfl, hk2⟩
   have hk2 := KS.to (c := c) (e' := failC (decide (32 ≤ c.cnt)) (some pos) 9 (failC (c.vis.contains nm) (some pos) 7 e1)) hk2 (by
    have : decide (((c.cnt : Nat) : Int) ≥ 32) = decide (32 ≤ c.cnt) := by rw [Bool.eq_iff_iff]; simp; omega
    rw [← this])
   generalize hE : failC (decide (32 ≤ c.cnt)) (some pos) 9 (failC (c.vis.contains nm) (some pos) 7 e1) = e2 at *
   obtain ⟨a2, k2, hb2, hv2⟩ := hk2.bl
   refine ⟨rfl, cell_of hb2 (0 + 3), _, _, _, cell_of hb2 (0 + 2), ?_⟩
   intro b3 hb3 h3 hh3
   have hx3 := Put.ext hh3 hb3
   refine ⟨cell_of (hx3 _ _ hb2) (0 + 2), ?_⟩
   have ho : Own h3 9 1 (vL a2 c.vis.length k2) c.vis.length (c.vis.map fun l => vS l) := Own.keep (fun b hb => Put.chg hh3 b fun e => by
    subst e
    rcases hv2.1.2 with ⟨q, _⟩ | ⟨b', cap, rest, q, q', _⟩
    · injection q with q; rw [hb] at q; cases q
    · injection q with q; rw [hb] at q; injection q with q; injection q with q; subst q; rw [hb3] at q'; cases q') hv2.1
   refine Raw.mono (append_one und51 elem9 rfl rfl rfl rfl rfl ho (Put.at hh3) rfl rfl (by omega)) ?_
   rintro _ h4 ⟨b4, cap, rfl, ho4, hor, hx4⟩
   have hin : ∀ {q o}, h2 q = some o → h3 q = some o := fun {q o} hq => hx3 q o hq
   obtain ⟨L1, ck1, hm1, _⟩ := hk2.mg
   obtain ⟨L2, ck2, hm2, _⟩ := hk2.mf
   have hq4 : b4 ≠ cb ∧ b4 ≠ m1 ∧ b4 ≠ m2 ∧ g b4 = none := by
    rcases hor with hor | hor
    · refine ⟨fun e => ?_, fun e => ?_, fun e => ?_, ?_⟩
      · subst e; rw [hin hb2] at hor; cases hor
      · subst e; rw [hin hm1] at hor; cases hor
      · subst e; rw [hin hm2] at hor; cases hor
      · cases hg : g b4 with
        | none => rfl
        | some o => rw [hin (hk2.ext _ _ hg)] at hor; cases hor
    · exact hv2.2 _ hor
   have hB4 : KB g cb m1 m2 gl fn h4 := hk2.toKB.of (fun k o hk => by
    rw [hx4 k (fun e => by subst e; rw [hq4.2.2.2] at hk; cases hk)]; exact hin (hk2.ext _ _ hk))
    (by rw [hx4 _ hq4.2.1.symm, hin hm1, hm1]) (by rw [hx4 _ hq4.2.2.1.symm, hin hm2, hm2])
   have hb4 := (hx4 _ hq4.1.symm).trans (hin hb2)
   refine ⟨_, _, _, rfl, _, _, _, hb4, ⟨by simp, Nat.zero_le _⟩, ?_⟩
   intro h5 hh5
   refine ⟨_, cell_of (Put.at hh5) (0 + 3), _, _, _, Put.at hh5, ⟨by simp [splice], Nat.zero_le _⟩, ?_⟩
   intro h6 hh6
   have hx := (Put.chg hh5).trans (Put.chg hh6)
   refine hQ _ ⟨hB4.chg hx, hk2.er, by simp; omega, ad b4 0, cap, ?_, KV.chg (h := h4) ⟨?_, fun b hb => ?_⟩ hx⟩
   · have := Put.at hh6
     rw [wrap64 (by show (-9223372036854775808 : Int) ≤ (c.cnt : Int) + 1; omega) (by show (c.cnt : Int) + 1 ≤ _; omega)] at this
     rw [this, List.length_append]; rfl
   · rw [List.length_append, List.map_append]; exact ho4
   · injection hb with hb; injection hb with hb; subst hb; exact hq4
 · have e : kd = 5 := by have := beq_iff_eq.1 e; omega
   subst e
   rw [if_neg (by decide), if_pos rfl] at hQ
   refine Tri.mono (list_t hih2 hA2 lp hk (by show c.cnt + _ ≤ _; omega)) ?_
   rintro _ h1 ⟨rfl, hk1⟩
   have hg := (ckSs_gr gl fn lp body ⟨e1, c.vis, c.cnt⟩).2.1
   refine ⟨rfl, ?_⟩
   refine Tri.mono (list_t hih3 hA3 lp hk1 (by show (ckSs gl fn lp body ⟨e1, c.vis, c.cnt⟩).cnt + _ ≤ _; simp only at hg; omega)) ?_
   rintro _ h2 ⟨rfl, hk2⟩
   exact ⟨rfl, hQ _ hk2⟩
 · have e : kd = 6 := by have := beq_iff_eq.1 e; omega
   subst e
   rw [if_neg (by decide), if_neg (by decide), if_pos rfl] at hQ
   refine Tri.mono (list_t hih2 hA2 true hk (by show c.cnt + _ ≤ _; omega)) ?_
   rintro _ h1 ⟨rfl, hk1⟩
   exact ⟨rfl, hQ _ hk1⟩
 · have n1 : kd ≠ 1 := fun e => by subst e; cases n1
   have n5 : kd ≠ 5 := fun e => by subst e; cases n5
   have n6 : kd ≠ 6 := fun e => by subst e; cases n6
   rw [if_neg n1, if_neg n5, if_neg n6] at hQ
   exact hQ _ hk
theorem stmt_t : ∀ k e, cntS e ≤ k → XT s g cb m1 m2 gl fn e := by
 intro k
 induction k with
 | zero => intro e he; have := cntS_pos e; omega
 | succ k ih =>
   intro e he cs c h lp hrel hk hc
   match e, he, hrel, hc with
   | .mk kd nm args body els pos, he, hrel, hc =>
   obtain ⟨a1, c1, a2, c2, a3, c3, rfl, hA1, hA2, hA3⟩ := RS_iff.1 hrel
   simp only [cntS] at he hc
   have hlen := cntEs_len args
   have hvl := hk.len
   have hih : ∀ e ∈ args, XE s g cb m1 m2 gl fn e := fun e hm => expr_t _ e (Nat.le_refl _) (by have := cntEs_mem hm; omega)
   have hih2 : ∀ e ∈ body, XT s g cb m1 m2 gl fn e := fun e hm => ih e (by have := cntSs_mem hm; omega)
   have hih3 : ∀ e ∈ els, XT s g cb m1 m2 gl fn e := fun e hm => ih e (by have := cntSs_mem hm; omega)
   refine T103 ?_
   unfold R103
   obtain ⟨pre, hpre⟩ : ∃ pre, pre = if kd = 2 ∨ kd = 3 then varC gl c.vis nm (kd == 3) pos c.err else if kd = 8 ∨ kd = 9 then failC (!lp) (some pos) 10 c.err else c.err := ⟨_, rfl⟩
   have hck : ckS gl fn lp (.mk kd nm args body els pos) c = if kd = 1 then ⟨failC (decide (32 ≤ c.cnt)) (some pos) 9 (failC (c.vis.contains nm) (some pos) 7 (ckEs gl fn c.vis args pre)), c.vis ++ [nm], c.cnt + 1⟩
    else if kd = 5 then ckL gl fn lp els (ckL gl fn lp body ⟨ckEs gl fn c.vis args pre, c.vis, c.cnt⟩) else if kd = 6 then ckL gl fn true body ⟨ckEs gl fn c.vis args pre, c.vis, c.cnt⟩ else ⟨ckEs gl fn c.vis args pre, c.vis, c.cnt⟩ := by
    rw [hpre]; rfl
   rw [hck]
   clear hck
   have hl : c.vis.length ≤ 1000000 := by omega
   refine br_split (fun e => ?_) (fun n2 => br_split (fun e => ?_) (fun n3 => br_split (fun e => ?_) (fun n8 => br_split (fun e => ?_) (fun n9 => ?_))))
   · have e : kd = 2 := by have := beq_iff_eq.1 e; omega
     refine Tri.mono (var_t hk hl nm _ pos) ?_
     rintro _ h1 ⟨rfl, hk1⟩
     refine ⟨rfl, loopE hih (by omega) hA1 rfl (fun h2 hq => ?_) hl (KS.to (e' := pre) hk1 (by rw [hpre, e]; rfl))⟩
     exact tail_t hih2 hih3 hA2 hA3 hq (by omega) fun h hq => ⟨rfl, hq⟩
   · have e : kd = 3 := by have := beq_iff_eq.1 e; omega
     refine Tri.mono (var_t hk hl nm _ pos) ?_
     rintro _ h1 ⟨rfl, hk1⟩
     refine ⟨rfl, loopE hih (by omega) hA1 rfl (fun h2 hq => ?_) hl (KS.to (e' := pre) hk1 (by rw [hpre, e]; rfl))⟩
     exact tail_t hih2 hih3 hA2 hA3 hq (by omega) fun h hq => ⟨rfl, hq⟩
   · have e : kd = 8 := by have := beq_iff_eq.1 e; omega
     refine Tri.mono (fail_t hk _ (some pos) 10 (by decide)) ?_
     rintro _ h1 ⟨rfl, hk1⟩
     refine ⟨rfl, loopE hih (by omega) hA1 rfl (fun h2 hq => ?_) hl (KS.to (e' := pre) hk1 (by rw [hpre, e]; rfl))⟩
     exact tail_t hih2 hih3 hA2 hA3 hq (by omega) fun h hq => ⟨rfl, hq⟩
   · have e : kd = 9 := by have := beq_iff_eq.1 e; omega
     refine Tri.mono (fail_t hk _ (some pos) 10 (by decide)) ?_
     rintro _ h1 ⟨rfl, hk1⟩
     refine ⟨rfl, loopE hih (by omega) hA1 rfl (fun h2 hq => ?_) hl (KS.to (e' := pre) hk1 (by rw [hpre, e]; rfl))⟩
     exact tail_t hih2 hih3 hA2 hA3 hq (by omega) fun h hq => ⟨rfl, hq⟩
   · have n2 : kd ≠ 2 := fun e => by subst e; cases n2
     have n3 : kd ≠ 3 := fun e => by subst e; cases n3
     have n8 : kd ≠ 8 := fun e => by subst e; cases n8
     have n9 : kd ≠ 9 := fun e => by subst e; cases n9
     refine loopE hih (by omega) hA1 rfl (fun h2 hq => ?_) hl (KS.to (e' := pre) hk (by rw [hpre, if_neg (by omega), if_neg (by omega)]))
     exact tail_t hih2 hih3 hA2 hA3 hq (by omega) fun h hq => ⟨rfl, hq⟩
end
end Go.Proofs.D
namespace Go.Proofs.D
open Go Go.Den Go.Sx
set_option maxRecDepth 100000
attribute [local irreducible] IntKind.wrap Tri parseS
section
variable {s : Bytes} {g : PHeap} {cb m1 m2 : Nat} {gl fn : Tab} {c : CS} {h h' : PHeap}
theorem KV.away {a : OA} {k q : Nat} {vis : List Bytes} (hk : KV g cb m1 m2 h a k vis) (hq : q = m1 ∨ q = m2) (x : Chg q h h') : KV g cb m1 m2 h' a k vis :=
 ⟨Own.keep (fun b hb => x b (by have := hk.2 b hb; rcases hq with rfl | rfl; exact this.2.1; exact this.2.2.1)) hk.1, hk.2⟩
theorem updG (hk : KS s g cb m1 m2 gl fn c h) {ρ : Operand → Value} {m k v : Operand} {l nm : Bytes} {z : Nat} {i1 i2 i3 : Int} (hm : ρ m = vM m1) (hl : ρ k = vS l) (hv : ρ v = vA [vS nm, vI z, vI i1, vI i2, vI i3]) (ty : TypeId) :
 Raw Tryz.prog (execOp ρ (mkO (.mapUpdate 111 m k v) ty)) h fun v h' => v = vT [] ∧ KS s g cb m1 m2 ((l, z) :: gl) fn c h' := by
 obtain ⟨L, ck, h1, h2⟩ := hk.mg
 refine Raw.mono (raw_updS (.inl rfl) und111 rfl hm hl hv h1) ?_
 rintro _ h' ⟨rfl, ck', rfl, _⟩
 have hx := Chg.put m1 h (.map ⟨ents (mapSet l (vA [vS nm, vI z, vI i1, vI i2, vI i3]) ck L)⟩ ck')
 obtain ⟨a, k, hb, hv⟩ := hk.bl
 refine ⟨rfl, ⟨⟨ext_away hk.f1 hk.ext hx.away, hk.f0, hk.f1, hk.f2, hk.n1, hk.n2, hk.n3, ⟨_, _, put_same _ _ _, fun n => ?_⟩, ?_⟩, hk.er, hk.len, a, k, ?_, hv.away (.inl rfl) hx⟩⟩
 · simp only [getT, mapGet_set]
   have := h2 n
   by_cases e : (n == l) = true
   · rw [if_pos e, if_pos e]; exact ⟨_, _, _, _, rfl⟩
   · rw [if_neg e, if_neg e]; exact this
 · obtain ⟨L2, ck2, g1, g2⟩ := hk.mf
   exact ⟨L2, ck2, by rw [hx _ hk.n3.symm]; exact g1, g2⟩
 · rw [hx _ hk.n1.symm]; exact hb
theorem updF (hk : KS s g cb m1 m2 gl fn c h) {ρ : Operand → Value} {m k v : Operand} {l : Bytes} {z : Nat} (hm : ρ m = vM m2) (hl : ρ k = vS l) (hv : ρ v = vI z) (ty : TypeId) :
 Raw Tryz.prog (execOp ρ (mkO (.mapUpdate 112 m k v) ty)) h fun v h' => v = vT [] ∧ KS s g cb m1 m2 gl ((l, z) :: fn) c h' := by
 obtain ⟨L, ck, h1, h2⟩ := hk.mf
 refine Raw.mono (raw_updS (.inl rfl) und112 rfl hm hl hv h1) ?_
 rintro _ h' ⟨rfl, ck', rfl, _⟩
 have hx := Chg.put m2 h (.map ⟨ents (mapSet l (vI z) ck L)⟩ ck')
 obtain ⟨a, k, hb, hv⟩ := hk.bl
 refine ⟨rfl, ⟨⟨ext_away hk.f2 hk.ext hx.away, hk.f0, hk.f1, hk.f2, hk.n1, hk.n2, hk.n3, ?_, ⟨_, _, put_same _ _ _, fun n => ?_⟩⟩, hk.er, hk.len, a, k, ?_, hv.away (.inr rfl) hx⟩⟩
 · obtain ⟨L2, ck2, g1, g2⟩ := hk.mg
   exact ⟨L2, ck2, by rw [hx _ hk.n3]; exact g1, g2⟩
 · simp only [getT, mapGet_set]
   have := h2 n
   by_cases e : (n == l) = true
   · rw [if_pos e, if_pos e]; rfl
   · rw [if_neg e, if_neg e]; exact this
 · rw [hx _ hk.n2.symm]; exact hb
theorem ge_cast (i n : Nat) : decide (((i : Nat) : Int) ≥ (n : Nat)) = decide (n ≤ i) := by rw [Bool.eq_iff_iff]; simp
theorem gt_cast (i n : Nat) : decide (((i : Nat) : Int) > (n : Nat)) = decide (n < i) := by rw [Bool.eq_iff_iff]; simp
theorem global_t (hk : KS s g cb m1 m2 gl fn c h) (i : Nat) (x : G) : Tri Tryz.prog 57 [vP cb 0, vI i, vA [vS x.name, vI x.size, vI x.value, vI (place s x.pos).1, vI (place s x.pos).2]] h
 fun v h' => v = vT [] ∧ KS s g cb m1 m2 ((x.name, x.size) :: gl) fn { c with err := ckG i gl x c.err } h' := by
 refine T57 ?_
 unfold R57
 obtain ⟨a, k, hb, hv⟩ := hk.bl
 refine ⟨_, cell_of hb 0, ?_, rfl, cell_of hb 0, ?_⟩
 all_goals
  refine Raw.mono (lookG hk.toKB rfl rfl 181) ?_
  rintro _ h ⟨rfl, _, _, _, _, rfl⟩
  refine ⟨_, _, _, _, _, _, rfl, ?_⟩
  refine Tri.mono (fail_t hk _ (some x.pos) 9 (by decide)) ?_
  rintro _ h1 ⟨rfl, hk1⟩
  refine ⟨rfl, br_split (fun e => ?_) (fun e => ?_)⟩
  · refine ⟨rfl, rfl, ?_⟩
    refine Tri.mono (fail_t hk1 _ (some x.pos) 7 (by decide)) ?_
    rintro _ h2 ⟨rfl, hk2⟩
    refine ⟨rfl, br_neg (by simp) ?_⟩
    refine Tri.mono (fail_t hk2 _ (some x.pos) 2 (by decide)) ?_
    rintro _ h3 ⟨rfl, hk3⟩
    obtain ⟨a3, k3, hb3, hv3⟩ := hk3.bl
    refine ⟨rfl, _, cell_of hb3 0, ?_⟩
    refine Raw.mono (updG hk3 rfl rfl rfl 0) ?_
    rintro _ h4 ⟨rfl, hk4⟩
    refine ⟨rfl, rfl, KS.to hk4 ?_⟩
    simp only [ckG, e, Bool.true_or]
    rw [← ge_cast, ← gt_cast]; rfl
  · refine Tri.mono (isBuiltin_t x.name h1) ?_
    rintro _ h1 ⟨rfl, rfl⟩
    refine ⟨_, rfl, rfl, rfl, ?_⟩
    refine Tri.mono (fail_t hk1 _ (some x.pos) 7 (by decide)) ?_
    rintro _ h2 ⟨rfl, hk2⟩
    refine ⟨rfl, br_neg (by simp) ?_⟩
    refine Tri.mono (fail_t hk2 _ (some x.pos) 2 (by decide)) ?_
    rintro _ h3 ⟨rfl, hk3⟩
    obtain ⟨a3, k3, hb3, hv3⟩ := hk3.bl
    refine ⟨rfl, _, cell_of hb3 0, ?_⟩
    refine Raw.mono (updG hk3 rfl rfl rfl 0) ?_
    rintro _ h4 ⟨rfl, hk4⟩
    refine ⟨rfl, rfl, KS.to hk4 ?_⟩
    simp only [ckG, e, Bool.false_or]
    rw [← ge_cast, ← gt_cast]; rfl
theorem loopP {ps : List Bytes} {a : OA} {ac pos : Nat} (hA : At 1 RStr g a ps) (hok : okN a ps.length ac) (hlen : ps.length ≤ 1000000) {Q : PHeap → Prop} {T1 T2 T3 T4 T5 : Prop} (t1 : T1) (t2 : T2) (t3 : T3) (t4 : T4) (t5 : T5) {e0 : Er}
 (hQ : ∀ h, KS s g cb m1 m2 gl fn { c with err := ckPs pos [] ps e0 } h → Q h) (hk : KS s g cb m1 m2 gl fn { c with err := e0 } h) :
 ∃ (I : Nat → Int → PHeap → Prop), (∃ (m2 : Nat), I m2 (0 : Int) h) ∧ ∀ (m1 : Nat) (i : Int) (h_6 : PHeap), I m1 i h_6 →
   br (decide (i < ((ps.length : Nat) : Int)))
    (∃ (b1 o2 : Nat), a = some ⟨b1, o2, none⟩ ∧ (0 ≤ i ∧ i < ps.length) ∧ ∃ (l3 : Bs), h_6.cell b1 (o2 + (i).toNat * 1) = some (vS l3) ∧
     (okA a ps.length ac ∧ 0 ≤ (0 : Int) ∧ (0 : Int) ≤ i ∧ i ≤ ac) ∧ ∀ (a3 : OA), SlA a a3 0 ac 1 →
     Tri Tryz.prog 102 [vL a3 ((i).toNat - 0) (ac - 0), vS l3] h_6 fun v_6 h_7 => ∃ (c3 : Bool), v_6 = vB c3 ∧ T1 ∧ T2 ∧ T3 ∧
      Tri Tryz.prog 59 [vP cb 0, vB c3, vI ((place s pos).1 : Nat), vI ((place s pos).2 : Nat), vI 7] h_7 fun v_7 h_8 => v_7 = vT [] ∧ T3 ∧ ∃ (m5 : Nat), m5 < m1 ∧ I m5 (IntKind.i64.wrap (i + 1)) h_8 ∧ T4 ∧ T5 ∧ True)
    (Q h_6) := by
 refine ⟨fun m i h' => ∃ (j : Nat) (e : Er), i = j ∧ j + m = ps.length ∧ KS s g cb m1 m2 gl fn { c with err := e } h' ∧ ckPs pos (ps.take j) (ps.drop j) e = ckPs pos [] ps e0, ⟨ps.length, 0, e0, rfl, by omega, hk, rfl⟩, ?_⟩
 rintro m _ h1 ⟨j, e, rfl, hjm, hk1, he⟩
 refine br_split (fun e2 => ?_) (fun e2 => ?_)
 · have hj : j < ps.length := by
    have := of_decide_eq_true e2
    omega
   rcases hA with hA | ⟨b, o, rfl, hA⟩
   · subst hA; simp at hj
   have hcell : ∀ q l, ps[q]? = some l → h1.cell b (o + q) = some (vS l) := fun q l hq => by
    obtain ⟨cs, g1, g2⟩ := hA q l hq
    have g2 : cs = [vS l] := g2
    subst g2
    have : h1.cell b (o + q * 1) = some (vS l) := row_ext (fun ob => hk1.ext b ob) g1
    rwa [Nat.mul_one] at this
   refine ⟨b, o, rfl, ⟨by omega, by omega⟩, ps[j], ?_, ⟨.inl ⟨b, o, rfl⟩, by omega, by omega, by have := hok.1; omega⟩, ?_⟩
   · have := hcell j _ (List.getElem?_eq_getElem hj)
     simpa using this
   intro a3 ha3
   obtain ⟨o', rfl, ho'⟩ := ha3.1 b o rfl
   have ho' := ho' (.inr rfl)
   have hstr : StrAt h1 (ad b o') (ps.take j) := .inr ⟨b, o', rfl, fun q l hq => by
    have hq' : q < j := by
     have := (List.getElem?_eq_some_iff.1 hq).1
     simp at this; omega
    rw [ho', Nat.zero_mul, Nat.add_zero]
    rw [List.getElem?_take_of_lt hq'] at hq
    exact hcell q l hq⟩
   have hct := contains_tri (c := ac - 0) ps[j] hstr (by simp; omega)
   rw [show (ps.take j).length = (((j : Nat) : Int)).toNat - 0 by simp; omega] at hct
   refine Tri.mono hct ?_
   rintro _ h1 ⟨rfl, rfl⟩
   refine ⟨_, rfl, t1, t2, t3, ?_⟩
   refine Tri.mono (fail_t hk1 _ (some pos) 7 (by decide)) ?_
   rintro _ h2 ⟨rfl, hk2⟩
   refine ⟨rfl, t3, m - 1, by omega, ⟨j + 1, _, ?_, by omega, hk2, ?_⟩, t4, t5, trivial⟩
   · rw [wrap64 (by omega) (by omega)]; rfl
   · rw [← he, List.drop_eq_getElem_cons hj, ckPs, ← List.take_append_getElem hj]
 · have : ps.length ≤ j := by
    have := of_decide_eq_false e2
    omega
   rw [List.drop_eq_nil_of_le this] at he
   exact hQ _ (KS.to hk1 he)
theorem function_t (hk : KS s g cb m1 m2 gl fn c h) (i : Nat) (x : F) {a a2 : OA} {ac c2 : Nat} (hA : At 1 RStr g a x.params) (hok : okN a x.params.length ac) (hlen : x.params.length ≤ 1000000) :
 Tri Tryz.prog 58 [vP cb 0, vI i, vA [vS x.name, vL a x.params.length ac, vL a2 x.body.length c2, vI (place s x.pos).1, vI (place s x.pos).2]] h
 fun v h' => v = vT [] ∧ KS s g cb m1 m2 gl ((x.name, x.params.length) :: fn) { c with err := ckF i gl fn x c.err } h' := by
 refine T58 ?_
 unfold R58
 obtain ⟨a0, k0, hb, hv⟩ := hk.bl
 have fin : ∀ {h : PHeap}, KS s g cb m1 m2 gl fn { c with err := ckF i gl fn x c.err } h → ∃ (m6 : Nat), h.cell cb (0 + 1) = some (vM m6) ∧
  Raw Tryz.prog (execOp (rho [(89, vM m6), (91, vS x.name), (94, vI ((x.params.length : Nat) : Int))]) (mkO o58_10 0)) h fun v_8 h_9 => v_8 = vT [] ∧ vT [] = vT [] ∧ KS s g cb m1 m2 gl ((x.name, x.params.length) :: fn) { c with err := ckF i gl fn x c.err } h_9 := fun {h} hk => by
  obtain ⟨a3, k3, hb3, hv3⟩ := hk.bl
  refine ⟨_, cell_of hb3 (0 + 1), ?_⟩
  refine Raw.mono (updF hk rfl rfl rfl 0) ?_
  rintro _ h4 ⟨rfl, hk4⟩
  exact ⟨rfl, rfl, hk4⟩
 refine ⟨_, cell_of hb 0, ?_, rfl, cell_of hb 0, ?_⟩
 all_goals
  refine Raw.mono (lookG hk.toKB rfl rfl 181) ?_
  rintro _ h ⟨rfl, _, _, _, _, rfl⟩
  refine ⟨_, _, _, _, _, _, rfl, _, cell_of hb (0 + 1), ?_⟩
  refine Raw.mono (lookF hk.toKB rfl rfl 117) ?_
  rintro _ h ⟨rfl, rfl⟩
  refine ⟨_, _, rfl, ?_⟩
  refine Tri.mono (fail_t hk _ (some x.pos) 9 (by decide)) ?_
  rintro _ h1 ⟨rfl, hk1⟩
  refine ⟨rfl, br_split (fun e => ?_) (fun e => br_split (fun e' => ?_) (fun e' => ?_))⟩
  · refine ⟨rfl, rfl, ?_⟩
    refine Tri.mono (fail_t hk1 _ (some x.pos) 7 (by decide)) ?_
    rintro _ h2 ⟨rfl, hk2⟩
    refine ⟨rfl, ?_⟩
    refine Tri.mono (fail_t hk2 _ (some x.pos) 9 (by decide)) ?_
    rintro _ h3 ⟨rfl, hk3⟩
    refine ⟨rfl, loopP (pos := x.pos) hA hok hlen rfl rfl rfl rfl rfl (fun h hq => fin (KS.to hq ?_)) hk3⟩
    simp only [ckF, e, Bool.true_or]
    rw [← ge_cast, ← gt_cast]; rfl
  · refine ⟨rfl, rfl, ?_⟩
    refine Tri.mono (fail_t hk1 _ (some x.pos) 7 (by decide)) ?_
    rintro _ h2 ⟨rfl, hk2⟩
    refine ⟨rfl, ?_⟩
    refine Tri.mono (fail_t hk2 _ (some x.pos) 9 (by decide)) ?_
    rintro _ h3 ⟨rfl, hk3⟩
    refine ⟨rfl, loopP (pos := x.pos) hA hok hlen rfl rfl rfl rfl rfl (fun h hq => fin (KS.to hq ?_)) hk3⟩
    simp only [ckF, e, e', Bool.true_or, Bool.or_true]
    rw [← ge_cast, ← gt_cast]; rfl
  · refine Tri.mono (isBuiltin_t x.name h1) ?_
    rintro _ h1 ⟨rfl, rfl⟩
    refine ⟨_, rfl, rfl, rfl, ?_⟩
    refine Tri.mono (fail_t hk1 _ (some x.pos) 7 (by decide)) ?_
    rintro _ h2 ⟨rfl, hk2⟩
    refine ⟨rfl, ?_⟩
    refine Tri.mono (fail_t hk2 _ (some x.pos) 9 (by decide)) ?_
    rintro _ h3 ⟨rfl, hk3⟩
    refine ⟨rfl, loopP (pos := x.pos) hA hok hlen rfl rfl rfl rfl rfl (fun h hq => fin (KS.to hq ?_)) hk3⟩
    simp only [ckF, e, e', Bool.false_or]
    rw [← ge_cast, ← gt_cast]; rfl
theorem clone_t {L : List Bytes} {a : OA} {ac : Nat} (hs : StrAt h a L) (hok : okN a L.length ac) (hl : L.length ≤ 1000000) :
 Tri Tryz.prog 60 [vL a L.length ac] h fun v h' => ∃ a' k', v = vL a' L.length k' ∧ Own h' 9 1 (vL a' L.length k') L.length (L.map fun l => vS l) ∧ Ext h h' ∧ ∀ b, a' = ad b 0 → h b = none := by
 by_cases h0 : L.length = 0
 · obtain ⟨rfl, rfl⟩ := hok.2 h0
   obtain rfl := List.eq_nil_of_length_eq_zero h0
   refine T60n ?_
   unfold R60n
   exact ⟨none, 0, rfl, ⟨by simp, .inl ⟨rfl, rfl⟩⟩, Ext.refl _, fun b hb => by cases hb⟩
 rcases hs with hs | ⟨b, o, rfl, hs⟩
 · subst hs; simp at h0
 refine T60p ?_
 unfold R60p
 intro b2 hb2 h1 hh1
 have hx1 := Put.ext hh1 hb2
 have hrow : h1.row b o (L.map fun l => vS l) := Go.Den.row_of _ _ fun j v hj => by
  rw [List.getElem?_map] at hj
  cases hL : L[j]? with
  | none => rw [hL] at hj; cases hj
  | some l => rw [hL] at hj; cases hj; exact cell_ext (fun ob => hx1 b ob) (hs j l hL)
 have hone : allOne (L.map fun l => vS l) = true := by
  clear hs h0 hok hl hrow
  induction L with
  | nil => rfl
  | cons x L ih => exact ih
 refine Raw.mono (raw_append (i := Tryz.t9) rfl rfl rfl und51 rfl rfl rfl rfl (n := 0) (xs := []) ⟨by simp, .inr ⟨b2, 0, [], rfl, Put.at hh1, by simp, by omega⟩⟩ (SrcH.row und51 (by rw [List.length_map]; show L.length = L.length * 1; omega) hrow hone) rfl (by omega) (by show (16 * (0 + L.length) + 16384) * 16 ≤ _; omega) (by omega)) ?_
 rintro _ h2 ⟨b', cap, rest, rfl, rfl, hr, hcap, hb'⟩
 have hn : h b' = none := by
  rcases hb' with hb' | ⟨_, hb'⟩
  · cases hh : h b' with
    | none => rfl
    | some o => rw [hx1 _ _ hh] at hb'; cases hb'
  · injection hb' with hb'; injection hb' with hb'; injection hb' with hb'; subst hb'; exact hb2
 refine ⟨_, _, _, rfl, _, _, by rw [Nat.zero_add], ⟨by simp, .inr ⟨b', cap, rest, rfl, by rw [put_same]; rfl, ?_, by omega⟩⟩, ?_, fun q hq => ?_⟩
 · rw [hr, Nat.zero_add]; rfl
 · intro k o hk
   rw [put_ne (fun e => by subst e; rw [hn] at hk; cases hk)]
   exact hx1 _ _ hk
 · injection hq with hq; injection hq with hq; subst hq; exact hn
end
end Go.Proofs.D
namespace Go.Proofs.D
open Go Go.Den Go.Sx
set_option maxRecDepth 100000
attribute [local irreducible] IntKind.wrap Tri parseS
section
variable {s : Bytes} {g : PHeap} {cb m1 m2 : Nat} {gl fn : Tab} {c : CS} {h h' : PHeap}
theorem RStr_str {h : PHeap} {a : OA} {L : List Bytes} (hA : At 1 RStr h a L) : StrAt h a L := by
 rcases hA with hA | ⟨b, o, ha, hA⟩
 · exact .inl hA
 · refine .inr ⟨b, o, ha, fun j l hj => ?_⟩
   obtain ⟨cs, g1, g2⟩ := hA j l hj
   have g2 : cs = [vS l] := g2
   subst g2
   have : h.cell b (o + j * 1) = some (vS l) := g1
   rwa [Nat.mul_one] at this
theorem loopB {fs : List F} (hc : cntFs fs ≤ 10000) {fa : OA} (hF : At 5 (RF (plP s) 8 7) g fa fs) {Q : PHeap → Prop} {T : Prop} (hT : T)
 (hk : KS s g cb m1 m2 gl fn c h) (hQ : ∀ h c', KS s g cb m1 m2 gl fn c' h → c'.err = ckB gl fn fs c.err → Q h) :
 ∃ (I_3 : Nat → Int → PHeap → Prop), (∃ (m11 : Nat), I_3 m11 (0 : Int) h) ∧ ∀ (m10 : Nat) (i10 : Int) (h_11 : PHeap), I_3 m10 i10 h_11 →
   br (decide (i10 < ((fs.length : Nat) : Int)))
    (∃ (b4 o3 : Nat), fa = some ⟨b4, o3, none⟩ ∧ (0 ≤ i10 ∧ i10 < fs.length) ∧
     ∃ (l3 : Bs) (a5 : OA) (n5 k5 : Nat) (a6 : OA) (n6 k6 : Nat) (i11 i12 : Int), h_11.row b4 (o3 + (i10).toNat * 5) [vS l3, vL a5 n5 k5, vL a6 n6 k6, vI i11, vI i12] ∧
     Tri Tryz.prog 60 [vL a5 n5 k5] h_11 fun v_8 h_12 => ∃ (a7 : OA) (n7 k7 : Nat), v_8 = vL a7 n7 k7 ∧
      ∃ (l4 : List Value) (t1 : TypeId) (z1 : Nat × Nat), h_12 cb = some (.cells ⟨l4⟩ t1 z1) ∧ (2 + 1 ≤ l4.length ∧ z1.2 ≤ 2) ∧ ∀ (h_13 : PHeap), h_13 = h_12.put cb (.cells ⟨splice l4 2 [vL a7 n7 k7]⟩ t1 z1) →
        ∃ (l5 : List Value) (t2 : TypeId) (z2 : Nat × Nat), h_13 cb = some (.cells ⟨l5⟩ t2 z2) ∧ (3 + 1 ≤ l5.length ∧ z2.2 ≤ 3) ∧ ∀ (h_14 : PHeap), h_14 = h_13.put cb (.cells ⟨splice l5 3 [vI ((n5 : Nat) : Int)]⟩ t2 z2) →
          Tri Tryz.prog 61 [vP cb 0, vL a6 n6 k6, vB false] h_14 fun v_9 h_15 => v_9 = vT [] ∧ ∃ (m12 : Nat), m12 < m10 ∧ I_3 m12 (IntKind.i64.wrap (i10 + 1)) h_15 ∧ T ∧ True)
    (Q h_11) := by
 have hlen := cntFs_len fs
 refine ⟨fun m i h' => ∃ (j : Nat) (c' : CS), i = j ∧ j + m = fs.length ∧ KS s g cb m1 m2 gl fn c' h' ∧ ckB gl fn (fs.drop j) c'.err = ckB gl fn fs c.err, ⟨fs.length, 0, c, rfl, by omega, hk, rfl⟩, ?_⟩
 rintro m _ h1 ⟨j, c', rfl, hjm, hk1, he⟩
 refine br_split (fun e2 => ?_) (fun e2 => ?_)
 · have hj : j < fs.length := by
    have := of_decide_eq_true e2
    omega
   obtain ⟨b, o, cs, rfl, hr, hrel⟩ := hF.get hj
   have hcj := cntFs_mem (List.getElem_mem hj)
   rw [List.drop_eq_getElem_cons hj, ckB] at he
   generalize fs[j] = x at *
   obtain ⟨a1, c1, a2, c2, rfl, hP, hB, hok⟩ := hrel
   simp only [cntF] at hcj
   refine ⟨b, o, rfl, ⟨by omega, by omega⟩, _, _, _, _, _, _, _, _, _, row_ext (fun ob => hk1.ext b ob) hr, ?_⟩
   refine Tri.mono (clone_t ((RStr_str hP).ext hk1.ext) hok (by omega)) ?_
   rintro _ h2 ⟨a', k', rfl, ho2, hx2, hf2⟩
   obtain ⟨a0, k0, hb0, hv0⟩ := hk1.bl
   refine ⟨_, _, _, rfl, _, _, _, hx2 _ _ hb0, ⟨by simp, Nat.zero_le _⟩, ?_⟩
   intro h3 hh3
   refine ⟨_, _, _, Put.at hh3, ⟨by simp [splice], Nat.zero_le _⟩, ?_⟩
   intro h4 hh4
   have hx4 := (Put.chg hh3).trans (Put.chg hh4)
   obtain ⟨L1, ck1, hm1, _⟩ := hk1.mg
   obtain ⟨L2, ck2, hm2, _⟩ := hk1.mf
   have hB2 : KB g cb m1 m2 gl fn h2 := hk1.toKB.of (hk1.ext.trans hx2) (by rw [hx2 _ _ hm1, hm1]) (by rw [hx2 _ _ hm2, hm2])
   have hv2 : KV g cb m1 m2 h2 a' k' x.params := ⟨ho2, fun q hq => by
    have hn := hf2 q hq
    refine ⟨fun e => ?_, fun e => ?_, fun e => ?_, ?_⟩
    · subst e; rw [hb0] at hn; cases hn
    · subst e; rw [hm1] at hn; cases hn
    · subst e; rw [hm2] at hn; cases hn
    · cases hg : g q with
      | none => rfl
      | some o => rw [hk1.ext _ _ hg] at hn; cases hn⟩
   have hk4 : KS s g cb m1 m2 gl fn ⟨c'.err, x.params, x.params.length⟩ h4 := ⟨hB2.chg hx4, hk1.er, Nat.le_refl _, a', k', Put.at hh4, hv2.chg hx4⟩
   refine Tri.mono (list_t (fun e _ => stmt_t _ e (Nat.le_refl _)) hB false hk4 (by show x.params.length + cntSs x.body ≤ _; omega)) ?_
   rintro _ h5 ⟨rfl, hk5⟩
   refine ⟨rfl, m - 1, by omega, ⟨j + 1, _, ?_, by omega, hk5, he⟩, hT, trivial⟩
   rw [wrap64 (by omega) (by omega)]; rfl
 · have : fs.length ≤ j := by
    have := of_decide_eq_false e2
    omega
   rw [List.drop_eq_nil_of_le this] at he
   exact hQ _ _ hk1 he
theorem check_tri {p : Pg} (hw : ∀ f ∈ p.funcs, wfSs f.body) (hc : cntP p ≤ 4097) {ga fa : OA} {gc fc : Nat} (hG : At 5 (RG (plP s)) h ga p.globals) (hF : At 5 (RF (plP s) 8 7) h fa p.funcs) :
 Tri Tryz.prog 19 [vA [vL ga p.globals.length gc, vL fa p.funcs.length fc]] h fun v h' => v = vT [vI (erp s (checkS p)).1, vI (erp s (checkS p)).2.1, vI (erp s (checkS p)).2.2] ∧ Ext h h' := by
 refine T19 ?_
 unfold R19
 refine Tri.mono (tree_tri hw hc hF) ?_
 rintro _ h1 ⟨rfl, hx1⟩
 have hG := hG.ext (RG_mono _) hx1
 have hF := hF.ext (RF_mono _ _ _) hx1
 refine ⟨_, rfl, br_neg rfl ?_⟩
 refine raw_makeMap fun m1 hm1 => ⟨m1, rfl, ?_⟩
 refine raw_makeMap fun m2 hm2 => ⟨m2, rfl, ?_⟩
 intro cb hcb h4 hh4
 simp only [cntP] at hc
 have hlen := cntFs_len p.funcs
 have hn21 : m2 ≠ m1 := fun e => by subst e; rw [put_same] at hm2; cases hm2
 have hm2' : h1 m2 = none := by rwa [put_ne hn21] at hm2
 have hnc2 : cb ≠ m2 := fun e => by subst e; rw [put_same] at hcb; cases hcb
 rw [put_ne hnc2] at hcb
 have hnc1 : cb ≠ m1 := fun e => by subst e; rw [put_same] at hcb; cases hcb
 rw [put_ne hnc1] at hcb
 have hk4 : KS s h1 cb m1 m2 [] [] ⟨none, [], 0⟩ h4 := by
  refine ⟨⟨fun k o hk => ?_, hcb, hm1, hm2', hnc1.symm, hnc2.symm, hn21.symm, ⟨[], 0, ?_, fun n => rfl⟩, ⟨[], 0, ?_, fun n => rfl⟩⟩, (fun x hx => by cases hx), Nat.le_refl _, none, 0, Put.at hh4, ⟨by simp, .inl ⟨rfl, rfl⟩⟩, fun b hb => by cases hb⟩
  · rw [hh4, put_ne (fun e => by subst e; rw [hcb] at hk; cases hk), put_ne (fun e => by subst e; rw [hm2'] at hk; cases hk), put_ne (fun e => by subst e; rw [hm1] at hk; cases hk)]
    exact hk
  · rw [hh4, put_ne hnc1.symm, put_ne hn21.symm, put_same]; rfl
  · rw [hh4, put_ne hnc2.symm, put_same]; rfl
 clear hh4 hcb hm1 hm2 hn21 hm2' hnc1 hnc2
 refine ⟨fun m i h' => ∃ (j : Nat) (gl : Tab) (e : Er), i = j ∧ j + m = p.globals.length ∧ KS s h1 cb m1 m2 gl [] ⟨e, [], 0⟩ h' ∧ ckGs j (p.globals.drop j) gl e = ckGs 0 p.globals [] none, ⟨p.globals.length, 0, [], none, rfl, by omega, hk4, rfl⟩, ?_⟩
 clear hk4
 rintro m _ h5 ⟨j, gl, e, rfl, hjm, hk5, he⟩
 refine br_split (fun e2 => ?_) (fun e2 => ?_)
 · have hj : j < p.globals.length := by
    have := of_decide_eq_true e2
    omega
   obtain ⟨b, o, cs, rfl, hr, hrel⟩ := hG.get hj
   rw [List.drop_eq_getElem_cons hj, ckGs] at he
   generalize p.globals[j] = x at *
   have hrel : cs = [vS x.name, vI x.size, vI x.value] ++ plP s x.pos := hrel
   subst hrel
   refine ⟨b, o, rfl, ⟨by omega, by omega⟩, _, _, _, _, _, row_ext (fun ob => hk5.ext b ob) hr, ?_⟩
   refine Tri.mono (global_t hk5 j x) ?_
   rintro _ h6 ⟨rfl, hk6⟩
   refine ⟨rfl, m - 1, by omega, ⟨j + 1, _, _, ?_, by omega, hk6, he⟩, rfl, trivial⟩
   rw [wrap64 (by omega) (by omega)]; rfl
 have : p.globals.length ≤ j := by
  have := of_decide_eq_false e2
  omega
 rw [List.drop_eq_nil_of_le this] at he
 have he1 : gl = (ckGs 0 p.globals [] none).1 := (congrArg Prod.fst he)
 have he2 : e = (ckGs 0 p.globals [] none).2 := (congrArg Prod.snd he)
 clear e2 this he hjm
 refine ⟨fun m i h' => ∃ (j : Nat) (fn : Tab) (e' : Er), i = j ∧ j + m = p.funcs.length ∧ KS s h1 cb m1 m2 gl fn ⟨e', [], 0⟩ h' ∧ ckFs gl j (p.funcs.drop j) fn e' = ckFs gl 0 p.funcs [] e, ⟨p.funcs.length, 0, [], e, rfl, by omega, hk5, rfl⟩, ?_⟩
 rintro m _ h7 ⟨j, fn, e', rfl, hjm, hk7, he⟩
 refine br_split (fun e3 => ?_) (fun e3 => ?_)
 · have hj : j < p.funcs.length := by
    have := of_decide_eq_true e3
    omega
   obtain ⟨b, o, cs, rfl, hr, hrel⟩ := hF.get hj
   have hcj := cntFs_mem (List.getElem_mem hj)
   rw [List.drop_eq_getElem_cons hj, ckFs] at he
   generalize p.funcs[j] = x at *
   obtain ⟨a1, c1, a2, c2, rfl, hP, hB, hok⟩ := hrel
   simp only [cntF] at hcj
   refine ⟨b, o, rfl, ⟨by omega, by omega⟩, _, _, _, _, _, _, _, _, _, row_ext (fun ob => hk7.ext b ob) hr, ?_⟩
   refine Tri.mono (function_t hk7 j x hP hok (by omega)) ?_
   rintro _ h8 ⟨rfl, hk8⟩
   refine ⟨rfl, m - 1, by omega, ⟨j + 1, _, _, ?_, by omega, hk8, he⟩, rfl, trivial⟩
   rw [wrap64 (by omega) (by omega)]; rfl
 have : p.funcs.length ≤ j := by
  have := of_decide_eq_false e3
  omega
 rw [List.drop_eq_nil_of_le this] at he
 have he3 : fn = (ckFs gl 0 p.funcs [] e).1 := (congrArg Prod.fst he)
 have he4 : e' = (ckFs gl 0 p.funcs [] e).2 := (congrArg Prod.snd he)
 clear e3 this he hjm
 obtain ⟨a7, k7, hb7, hv7⟩ := hk7.bl
 refine ⟨_, cell_of hb7 1, ?_⟩
 refine Raw.mono (lookF (l := mainS) hk7.toKB rfl rfl 117) ?_
 rintro _ h7 ⟨rfl, rfl⟩
 have hck : checkS p = ckB gl fn p.funcs (failC ((getT fn mainS).isNone || ((getT fn mainS).getD 0 != 0)) none 8 e') := by
  rw [checkS, he4, he3, he2, he1]
 have fin : ∀ (h9 : PHeap) (c' : CS), KS s h1 cb m1 m2 gl fn c' h9 → c'.err = ckB gl fn p.funcs (failC ((getT fn mainS).isNone || ((getT fn mainS).getD 0 != 0)) none 8 e') →
  ∃ (i13 : Int), h9.cell cb 4 = some (vI i13) ∧ ∃ (i14 : Int), h9.cell cb 5 = some (vI i14) ∧ ∃ (i15 : Int), h9.cell cb 6 = some (vI i15) ∧
    vT [vI i13, vI i14, vI i15] = vT [vI (erp s (checkS p)).1, vI (erp s (checkS p)).2.1, vI (erp s (checkS p)).2.2] ∧ Ext h h9 := fun h9 c' hk9 he9 => by
  obtain ⟨a9, k9, hb9, hv9⟩ := hk9.bl
  refine ⟨_, cell_of hb9 4, _, cell_of hb9 5, _, cell_of hb9 6, ?_, hx1.trans hk9.ext⟩
  rw [he9, ← hck]
 refine ⟨_, _, rfl, br_split (fun e5 => ?_) (fun e5 => ?_)⟩
 · have e5 : (getT fn mainS).isNone = true := by cases hq : getT fn mainS with
    | none => rfl
    | some x => rw [hq] at e5; cases e5
   refine Tri.mono (fail_t hk7 _ none 8 (by decide)) ?_
   rintro _ h8 ⟨rfl, hk8⟩
   refine ⟨rfl, loopB (by omega) hF rfl hk8 fun h9 c' hk9 he9 => fin h9 c' hk9 ?_⟩
   rw [he9, e5, Bool.true_or]
 · have e5 : (getT fn mainS).isNone = false := by cases hq : getT fn mainS with
    | none => rw [hq] at e5; cases e5
    | some x => rfl
   refine Tri.mono (fail_t hk7 _ none 8 (by decide)) ?_
   rintro _ h8 ⟨rfl, hk8⟩
   refine ⟨rfl, loopB (by omega) hF rfl hk8 fun h9 c' hk9 he9 => fin h9 c' hk9 ?_⟩
   rw [he9, e5, Bool.false_or, bne_cast]
end
end Go.Proofs.D
namespace Go.Sx
def encl (b : Bool) (s : Bytes) : Bytes := if b then [40] ++ s ++ [41] else s
def kd : E → Nat
 | .mk k _ _ _ _ _ _ => k
def opE : E → Bytes
 | .mk _ op _ _ _ _ _ => op
mutual
def txE : E → Bytes
 | .mk k op nm v _ args _ =>
   if k = 1 then [UInt8.ofNat (48 + v)]
   else if k = 7 then
    let t := txEs args
    encl (decide (kd (args.getD 0 (.mk 0 [] [] 0 [] [] 0)) = 7 ∧ levelS (opE (args.getD 0 (.mk 0 [] [] 0 [] [] 0))) < levelS op)) (t.getD 0 []) ++ [32] ++ op ++ [32] ++
     encl (decide (kd (args.getD 1 (.mk 0 [] [] 0 [] [] 0)) = 7 ∧ levelS (opE (args.getD 1 (.mk 0 [] [] 0 [] [] 0))) ≤ levelS op)) (t.getD 1 [])
   else nm
def txEs : List E → List Bytes
 | [] => []
 | e :: es => txE e :: txEs es
end
mutual
def smE : E → Bool
 | .mk k _ _ v _ args _ => (k == 1 && decide (v < 10) && args.isEmpty || k == 3 && args.isEmpty || k == 7 && args.length == 2) && smEs args
def smEs : List E → Bool
 | [] => true
 | e :: es => smE e && smEs es
end
theorem encl_len (b : Bool) (s : Bytes) : s.length ≤ (encl b s).length := by unfold encl; split <;> simp; omega
end Go.Sx
namespace Go.Proofs.D
open Go Go.Den Go.Sx
set_option maxRecDepth 100000
attribute [local irreducible] IntKind.wrap Tri parseS
section
variable {s : Bytes} {h h' : PHeap}
theorem Own.str {a : OA} {n k : Nat} {L : List Bytes} (hn : n = L.length) (ho : Own h 9 1 (vL a n k) n (L.map fun l => vS l)) : StrAt h a L := by
 subst hn
 rcases ho.2 with ⟨_, h1⟩ | ⟨b, cap, rest, h1, h2, _, _⟩
 · exact .inl (List.eq_nil_of_length_eq_zero h1)
 · injection h1 with h1 _ _
   refine .inr ⟨b, 0, h1, fun j l hj => ?_⟩
   rw [cell_of h2]
   have : j < L.length := (List.getElem?_eq_some_iff.1 hj).1
   rw [List.getElem?_append_left (by simpa using this)]
   simp [hj]
theorem encl_t (b : Bool) (l : Bytes) (hl : l.length ≤ 1000000) (h : PHeap) : Tri Tryz.prog 110 [vS l, vB b] h fun v h' => v = vS (encl b l) ∧ h' = h := by
 refine T110 ?_
 unfold R110
 refine br_split (fun e => ?_) (fun e => ?_)
 · subst e
   refine ⟨by simp; omega, by simp; omega, rfl, rfl⟩
 · subst e; exact ⟨rfl, rfl⟩
theorem itoa_t (v : Nat) (hv : v < 10) (h : PHeap) : Tri Tryz.prog 80 [vI v] h fun r h' => r = vS [UInt8.ofNat (48 + v)] ∧ h' = h := by
 refine T80 ?_
 unfold R80
 suffices hs : Tri Tryz.prog 126 [vI v] h fun r h' => r = vS [UInt8.ofNat (48 + v)] ∧ h' = h by
  refine Tri.mono hs ?_
  rintro _ h ⟨rfl, rfl⟩
  exact ⟨_, rfl, rfl, rfl⟩
 refine T126 ?_
 unfold R126
 suffices hs : Tri Tryz.prog 159 [vI v, vI 10] h fun r h' => r = vS [UInt8.ofNat (48 + v)] ∧ h' = h by
  refine Tri.mono hs ?_
  rintro _ h ⟨rfl, rfl⟩
  exact ⟨_, rfl, rfl, rfl⟩
 refine T159 ?_
 unfold R159
 refine br_pos rfl (br_pos (by simp) (br_pos (by simp; omega) ?_))
 suffices hs : Tri Tryz.prog 180 [vI v] h fun r h' => r = vS [UInt8.ofNat (48 + v)] ∧ h' = h by
  refine Tri.mono hs ?_
  rintro _ h ⟨rfl, rfl⟩
  exact ⟨_, rfl, rfl, rfl⟩
 refine T180 ?_
 unfold R180
 refine br_pos (by simp; omega) ?_
 rw [wrap64 (by omega) (by omega)]
 refine ⟨⟨by omega, by omega, by omega⟩, ?_, rfl⟩
 rw [show (((v : Nat) : Int) + 1).toNat - ((v : Nat) : Int).toNat = 1 by omega, Int.toNat_natCast]
 have : ∀ v, v < 10 → ((([48, 49, 50, 51, 52, 53, 54, 55, 56, 57, 97, 98, 99, 100, 101, 102, 103, 104, 105, 106, 107, 108, 109, 110, 111, 112, 113, 114, 115, 116, 117, 118, 119, 120, 121, 122] : Bytes).drop v).take 1) = [UInt8.ofNat (48 + v)] := by decide
 rw [this v hv]
theorem flat_vS : ∀ (l : List E), (l.map fun e => [vS (txE e)]).flatten = (l.map txE).map fun l => vS l
 | [] => rfl
 | x :: l => by rw [List.map_cons, List.flatten_cons, flat_vS l]; rfl
theorem smEs_iff : ∀ {l : List E}, smEs l = true ↔ ∀ e ∈ l, smE e = true
 | [] => by simp [smEs]
 | e :: l => by simp [smEs, smEs_iff (l := l)]
theorem exp_t : ∀ k e, cntE e ≤ k → k ≤ 100000 → smE e = true → (txE e).length ≤ 1000000 → ∀ cs h, RE (plP s) 8 h e cs → Tri Tryz.prog 67 [vA cs] h fun v h' => v = vS (txE e) ∧ Ext h h' := by
 intro k
 induction k with
 | zero => intro e he; have := cntE_pos e; omega
 | succ k ih =>
   intro e he hk5 hsm hle cs h hrel
   match e, he, hsm, hle, hrel with
   | .mk kd op nm vl tx args pos, he, hsm, hle, hrel =>
   obtain ⟨a1, c1, rfl, hA1⟩ := RE_iff.1 hrel
   simp only [cntE] at he
   have hlen := cntEs_len args
   simp only [smE, Bool.and_eq_true] at hsm
   obtain ⟨hsm1, hsm2⟩ := hsm
   have hsub : ∀ e ∈ args, (txE e).length ≤ 1000000 := fun e hm => by
    simp only [Bool.or_eq_true, Bool.and_eq_true, beq_iff_eq, decide_eq_true_eq] at hsm1
    rcases hsm1 with (⟨_, hn⟩ | ⟨_, hn⟩) | ⟨rfl, h2⟩
    · simp at hn; subst hn; cases hm
    · simp at hn; subst hn; cases hm
    · obtain ⟨x, y, rfl⟩ : ∃ x y, args = [x, y] := match args, h2 with | [x, y], _ => ⟨x, y, rfl⟩
      simp only [txE, txEs, List.getD_cons_zero, List.getD_cons_succ, if_neg (show ¬ (7 : Nat) = 1 by decide), if_true, List.length_append] at hle
      simp only [List.mem_cons, List.not_mem_nil, or_false] at hm
      rcases hm with rfl | rfl
      · have := encl_len (decide (Go.Sx.kd e = 7 ∧ levelS (opE e) < levelS op)) (txE e); omega
      · have := encl_len (decide (Go.Sx.kd e = 7 ∧ levelS (opE e) ≤ levelS op)) (txE e); omega
   refine T67 ?_
   unfold R67
   refine ⟨fun m a n k i h' => ∃ j : Nat, i = j ∧ j + m = args.length ∧ n = j ∧ Ext h h' ∧ LM 9 1 h h' a n k ((args.take j).map fun e => [vS (txE e)]), ⟨args.length, 0, rfl, by omega, rfl, Ext.refl _, LM.nil⟩, ?_⟩
   rintro m a2 n2 k2 _ h1 ⟨j, rfl, hjm, rfl, hx1, hM1⟩
   refine br_split (fun e2 => ?_) (fun e2 => ?_)
   · have hj : n2 < args.length := by
      have := of_decide_eq_true e2
      omega
     obtain ⟨b, o, cs, rfl, hr, hrel⟩ := hA1.get hj
     have hmem := List.getElem_mem hj
     have ihj := ih _ (by have := cntEs_mem hmem; omega) (by omega) (smEs_iff.1 hsm2 _ hmem) (hsub _ hmem) cs h1 (hrel.ext hx1)
     have htake := List.take_append_getElem hj
     generalize args[n2] = x at *
     match x, hrel with
     | .mk kd' op' nm' vl' tx' args' pos', hrel =>
     obtain ⟨a3, c3, rfl, hA3⟩ := RE_iff.1 hrel
     refine ⟨b, o, rfl, ⟨by omega, by omega⟩, _, _, _, _, _, _, _, _, _, _, row_ext (fun ob => hx1 b ob) hr, ?_⟩
     refine Tri.mono ihj ?_
     rintro _ h2 ⟨rfl, hx2⟩
     refine ⟨_, rfl, ?_⟩
     intro b2 hb2 h3 hh3
     refine Raw.mono (LM.append (h0 := h) (cs := [vS _]) und51 elem9 rfl rfl rfl rfl rfl (hM1.ext hx2) hb2 hh3 rfl rfl (by omega) (hx1.trans hx2).dom) ?_
     rintro _ h4 ⟨b4, cap4, rfl, hk4, hd4, hn4, hq4, hM4, hR4⟩
     refine ⟨_, _, _, rfl, m - 1, by omega, ⟨n2 + 1, ?_, by omega, rfl, fun q o hq => hk4 q o (ne_of hq) ((hx1.trans hx2) q o hq), ?_⟩, rfl, trivial⟩
     · rw [wrap64 (by omega) (by omega)]; rfl
     · rw [← htake, List.map_append]; exact hM4
   have hjl : n2 = args.length := by
    have := of_decide_eq_false e2
    omega
   subst hjl
   rw [List.take_length] at hM1
   have hstr : StrAt h1 a2 (args.map txE) := Own.str (n := args.length) (by simp) (by have := hM1.row; rwa [flat_vS] at this)
   simp only [Bool.or_eq_true, Bool.and_eq_true, beq_iff_eq, decide_eq_true_eq] at hsm1
   rcases hsm1 with (⟨⟨rfl, hv⟩, hn⟩ | ⟨rfl, hn⟩) | ⟨rfl, h2⟩
   · refine br_pos rfl ?_
     refine Tri.mono (itoa_t vl hv h1) ?_
     rintro _ h1 ⟨rfl, rfl⟩
     exact ⟨_, rfl, rfl, hx1⟩
   · (repeat refine br_neg rfl ?_)
     exact ⟨rfl, hx1⟩
   · obtain ⟨x, y, rfl⟩ : ∃ x y, args = [x, y] := match args, h2 with | [x, y], _ => ⟨x, y, rfl⟩
     iterate 5 refine br_neg rfl ?_
     refine br_pos rfl ?_
     rcases hstr with hstr | ⟨sb, so, rfl, hstr⟩
     · cases hstr
     rcases hA1 with hA1 | ⟨eb, eo, rfl, hA1⟩
     · cases hA1
     have hs0 := hstr 0 _ rfl
     have hs1 := hstr 1 _ rfl
     obtain ⟨cs0, hr0, hrel0⟩ := hA1 0 x rfl
     obtain ⟨cs1, hr1, hrel1⟩ := hA1 1 y rfl
     have hlx := hsub x (by simp)
     have hly := hsub y (by simp)
     have hex : txE (.mk 7 op nm vl tx [x, y] pos) = encl (decide (Go.Sx.kd x = 7 ∧ levelS (opE x) < levelS op)) (txE x) ++ [32] ++ op ++ [32] ++ encl (decide (Go.Sx.kd y = 7 ∧ levelS (opE y) ≤ levelS op)) (txE y) := rfl
     rw [hex] at hle ⊢
     simp only [List.length_append] at hle
     match x, y, hrel0, hrel1 with
     | .mk k0 op0 nm0 v0 tx0 args0 pos0, .mk k1 op1 nm1 v1 tx1 args1 pos1, hrel0, hrel1 =>
     obtain ⟨a3, c3, rfl, hA3⟩ := RE_iff.1 hrel0
     obtain ⟨a4, c4, rfl, hA4⟩ := RE_iff.1 hrel1
     have hr0 := row_ext (fun ob => hx1 eb ob) hr0
     have hr1 := row_ext (fun ob => hx1 eb ob) hr1
     refine Tri.mono (level_tri op h1) ?_
     rintro _ h1 ⟨rfl, rfl⟩
     have hdl : decide (Go.Sx.kd (.mk k0 op0 nm0 v0 tx0 args0 pos0) = 7 ∧ levelS (opE (.mk k0 op0 nm0 v0 tx0 args0 pos0)) < levelS op) = (decide (k0 = 7) && decide (levelS op0 < levelS op)) := Bool.decide_and ..
     have hdr : decide (Go.Sx.kd (.mk k1 op1 nm1 v1 tx1 args1 pos1) = 7 ∧ levelS (opE (.mk k1 op1 nm1 v1 tx1 args1 pos1)) ≤ levelS op) = (decide (k1 = 7) && decide (levelS op1 ≤ levelS op)) := Bool.decide_and ..
     rw [hdl, hdr] at hle ⊢
     have hlt : decide (((levelS op0 : Nat) : Int) < ((levelS op : Nat) : Int)) = decide (levelS op0 < levelS op) := by rw [Bool.eq_iff_iff]; simp
     have hlr : decide (((levelS op1 : Nat) : Int) ≤ ((levelS op : Nat) : Int)) = decide (levelS op1 ≤ levelS op) := by rw [Bool.eq_iff_iff]; simp
     refine ⟨_, rfl, sb, so, rfl, ⟨by decide, by simp⟩, _, hs0, eb, eo, rfl, ⟨by decide, by simp⟩, _, hr0.1, br_split (fun e => ?_) (fun e => ?_)⟩
     · have e : k0 = 7 := by have := beq_iff_eq.1 e; omega
       refine ⟨eb, eo, rfl, ⟨by decide, by simp⟩, _, hr0.2.1, ?_⟩
       refine Tri.mono (level_tri op0 h1) ?_
       rintro _ h1 ⟨rfl, rfl⟩
       refine ⟨_, rfl, rfl, hr0.1, rfl, hs0, ?_⟩
       refine Tri.mono (encl_t _ _ hlx h1) ?_
       rintro _ h1 ⟨rfl, rfl⟩
       rw [hlt]
       have hdl2 : (decide (k0 = 7) && decide (levelS op0 < levelS op)) = decide (levelS op0 < levelS op) := by rw [e]; rfl
       rw [hdl2] at hle ⊢
       refine ⟨_, rfl, rfl, hr0.1, rfl, sb, so, rfl, ⟨by decide, by simp⟩, _, hs1, eb, eo, rfl, ⟨by decide, by simp⟩, _, hr1.1, br_split (fun e' => ?_) (fun e' => ?_)⟩
       · have e' : k1 = 7 := by have := beq_iff_eq.1 e'; omega
         refine ⟨eb, eo, rfl, ⟨by decide, by simp⟩, _, hr1.2.1, ?_⟩
         refine Tri.mono (level_tri op1 h1) ?_
         rintro _ h1 ⟨rfl, rfl⟩
         refine ⟨_, rfl, rfl, hr1.1, rfl, hs1, ?_⟩
         refine Tri.mono (encl_t _ _ hly h1) ?_
         rintro _ h1 ⟨rfl, rfl⟩
         rw [hlr]
         have hdr2 : (decide (k1 = 7) && decide (levelS op1 ≤ levelS op)) = decide (levelS op1 ≤ levelS op) := by rw [e']; rfl
         rw [hdr2] at hle ⊢
         exact ⟨_, rfl, rfl, hr1.1, rfl, by omega, by simp only [List.length_append]; omega, by simp only [List.length_append]; omega, by simp only [List.length_append]; omega, rfl, hx1⟩
       · have e' : k1 ≠ 7 := fun q => by subst q; cases e'
         refine ⟨hr1.1, rfl, hs1, ?_⟩
         refine Tri.mono (encl_t _ _ hly h1) ?_
         rintro _ h1 ⟨rfl, rfl⟩
         have hdr2 : (decide (k1 = 7) && decide (levelS op1 ≤ levelS op)) = false := by rw [decide_eq_false e']; rfl
         rw [hdr2] at hle ⊢
         exact ⟨_, rfl, hr1.1, rfl, by omega, by simp only [List.length_append]; omega, by simp only [List.length_append]; omega, by simp only [List.length_append]; omega, rfl, hx1⟩
     · have e : k0 ≠ 7 := fun q => by subst q; cases e
       refine ⟨hr0.1, rfl, hs0, ?_⟩
       refine Tri.mono (encl_t _ _ hlx h1) ?_
       rintro _ h1 ⟨rfl, rfl⟩
       have hdl2 : (decide (k0 = 7) && decide (levelS op0 < levelS op)) = false := by rw [decide_eq_false e]; rfl
       rw [hdl2] at hle ⊢
       refine ⟨_, rfl, hr0.1, rfl, sb, so, rfl, ⟨by decide, by simp⟩, _, hs1, eb, eo, rfl, ⟨by decide, by simp⟩, _, hr1.1, br_split (fun e' => ?_) (fun e' => ?_)⟩
       · have e' : k1 = 7 := by have := beq_iff_eq.1 e'; omega
         refine ⟨eb, eo, rfl, ⟨by decide, by simp⟩, _, hr1.2.1, ?_⟩
         refine Tri.mono (level_tri op1 h1) ?_
         rintro _ h1 ⟨rfl, rfl⟩
         refine ⟨_, rfl, rfl, hr1.1, rfl, hs1, ?_⟩
         refine Tri.mono (encl_t _ _ hly h1) ?_
         rintro _ h1 ⟨rfl, rfl⟩
         rw [hlr]
         have hdr2 : (decide (k1 = 7) && decide (levelS op1 ≤ levelS op)) = decide (levelS op1 ≤ levelS op) := by rw [e']; rfl
         rw [hdr2] at hle ⊢
         exact ⟨_, rfl, rfl, hr1.1, rfl, by omega, by simp only [List.length_append]; omega, by simp only [List.length_append]; omega, by simp only [List.length_append]; omega, rfl, hx1⟩
       · have e' : k1 ≠ 7 := fun q => by subst q; cases e'
         refine ⟨hr1.1, rfl, hs1, ?_⟩
         refine Tri.mono (encl_t _ _ hly h1) ?_
         rintro _ h1 ⟨rfl, rfl⟩
         have hdr2 : (decide (k1 = 7) && decide (levelS op1 ≤ levelS op)) = false := by rw [decide_eq_false e']; rfl
         rw [hdr2] at hle ⊢
         exact ⟨_, rfl, hr1.1, rfl, by omega, by simp only [List.length_append]; omega, by simp only [List.length_append]; omega, by simp only [List.length_append]; omega, rfl, hx1⟩
def exT : Bytes := [102, 117, 110, 99, 32, 109, 97, 105, 110, 40, 41, 32, 123, 32, 120, 32, 61, 32, 97, 32, 45, 32, 40, 98, 32, 45, 32, 99, 41, 32, 42, 32, 40, 50, 41, 59, 32, 125]
def exE : E := .mk 7 [45] [] 0 [] [.mk 3 [] [97] 0 [] [] 18, .mk 7 [42] [] 0 [] [.mk 7 [45] [] 0 [] [.mk 3 [] [98] 0 [] [] 23, .mk 3 [] [99] 0 [] [] 27] 25, .mk 1 [] [] 2 [] [] 33] 30] 20
def exP : Pg := ⟨[], [⟨[109, 97, 105, 110], [], [.mk 2 [120] [exE] [] [] 14], 5⟩]⟩
theorem ex_parse : parseS exT = .ok exP := by kernel_rfl
theorem ex_check : (checkS exP).map (·.1) = some 37 := by decide +kernel
theorem ex_text : smE exE = true ∧ txE exE = [97, 32, 45, 32, 40, 98, 32, 45, 32, 99, 41, 32, 42, 32, 50] := by decide +kernel
theorem known_ok : KnownOk := by
 intro h ht
 refine T16 ?_
 unfold R16
 refine Tri.mono (parse_tri exT h ht) ?_
 rintro v h1 ⟨hx1, hv⟩
 rw [ex_parse] at hv
 obtain ⟨ga, gc, fa, fc, rfl, hG, hF⟩ := hv
 have hG := hG.whole (RG_mono _) (Ext.refl _)
 have hF := hF.whole (RF_mono _ _ _) (Ext.refl _)
 refine ⟨_, _, _, _, _, _, _, _, _, rfl, br_neg rfl (br_neg rfl ?_)⟩
 obtain ⟨b1, o1, cs, ha, hr, hrel⟩ := hF.get (n := 0) (by decide)
 obtain ⟨pa, pc, ba, bc, rfl, hP, hB, _⟩ := hrel
 obtain ⟨b2, o2, cs2, hb, hr2, hrel2⟩ := hB.get (n := 0) (by decide)
 obtain ⟨aa, ac, _, _, _, _, rfl, hE, _, _⟩ := RS_iff.1 hrel2
 obtain ⟨b3, o3, cs3, hc, hr3, hrel3⟩ := hE.get (n := 0) (by decide)
 have hw := parseS_wf ex_parse
 have hcnt := parseS_cnt ex_parse
 refine ⟨b1, o1, ha, ⟨by decide, by decide⟩, _, _, _, hr.2.2.1, br_neg rfl ⟨b1, o1, ha, ⟨by decide, by decide⟩, _, _, _, hr.2.2.1, b2, o2, hb, ⟨by decide, by decide⟩, _, _, _, hr2.2.2.1, br_neg rfl ?_⟩⟩
 refine Tri.mono (check_tri hw hcnt hG hF) ?_
 rintro _ h2 ⟨rfl, hx2⟩
 have hr' := row_ext (fun ob => hx2 b1 ob) hr
 have hr2' := row_ext (fun ob => hx2 b2 ob) hr2
 have hr3' := row_ext (fun ob => hx2 b3 ob) hr3
 refine ⟨_, _, _, rfl, b1, o1, ha, ⟨by decide, by decide⟩, _, _, _, hr'.2.2.1, b2, o2, hb, ⟨by decide, by decide⟩, _, _, _, hr2'.2.2.1, b3, o3, hc, ⟨by decide, by decide⟩, ?_⟩
 have hrel3 : RE (plP exT) 8 h1 exE cs3 := hrel3
 obtain ⟨a8, c8, rfl, hA8⟩ := RE_iff.1 hrel3
 refine ⟨_, _, _, _, _, _, _, _, _, _, hr3', ?_⟩
 have hwe : wfE exE := by
  have := wfSs_iff.1 (hw _ (List.mem_cons_self ..)) _ (List.mem_cons_self ..)
  exact (wfEs_iff.1 this.2.1 _ (List.mem_cons_self ..))
 have hout : Tri Tryz.prog 22 [vA ([vI (7 : Nat), vS [45], vS [], vI (0 : Nat), vS [], vL a8 2 c8] ++ plP exT 20)] h2 fun v h' => v = vS (txE exE) ∧ Ext h2 h' := by
  refine T22 ?_
  unfold R22
  intro b4 hb4 h3 hh3
  have hx3 := Put.ext hh3 hb4
  refine Tri.mono (texpr (s := exT) hb4 (cntE exE) exE (Nat.le_refl _) hwe _ (hrel3.ext hx2) h3 (4096 - cntE exE) hx3 ⟨by decide +kernel, Put.at hh3⟩) ?_
  rintro _ h4 ⟨rfl, ha4, hc4⟩
  have hx4 := ext_away hb4 hx3 ha4
  refine ⟨_, rfl, br_neg rfl ?_⟩
  refine Tri.mono (exp_t (s := exT) _ exE (Nat.le_refl _) (by decide +kernel) ex_text.1 (by decide +kernel) _ h4 (hrel3.ext (hx2.trans hx4))) ?_
  rintro _ h5 ⟨rfl, hx5⟩
  exact ⟨_, rfl, rfl, hx4.trans hx5⟩
 refine Tri.mono hout ?_
 rintro _ h3 ⟨rfl, hx3⟩
 refine ⟨_, rfl, br_pos (by rw [ex_text.2]; rfl) ⟨?_, (hx1.trans hx2).trans hx3⟩⟩
 have : (erp exT (checkS exP)).2.2 = 37 := by
  have h0 := ex_check
  cases hq : checkS exP with
  | none => rw [hq] at h0; cases h0
  | some x =>
    rw [hq] at h0
    obtain ⟨c, p⟩ := x
    have h0 : c = 37 := by simpa using h0
    subst h0
    cases p <;> rfl
 rw [this]; rfl
end
end Go.Proofs.D
