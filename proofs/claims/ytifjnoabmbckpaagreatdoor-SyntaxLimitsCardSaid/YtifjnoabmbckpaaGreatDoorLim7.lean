import Derived.Test.YtifjnoabmbckpaaGreatDoorLim6
import Derived.WalkKit
import Derived.ProofKit
import Derived.OpenShut
import Derived.Deep.DeepHandedRow
/- The count of a tree's parts. -/
namespace Go.Sx
def shapeE (k n : Nat) : Prop := (k = 1 ∨ k = 2 ∨ k = 3) ∧ n = 0 ∨ (k = 4 ∨ k = 6) ∧ n = 1 ∨ k = 7 ∧ n = 2 ∨ k = 5
def shapeS (k a b c : Nat) : Prop := (k = 1 ∨ k = 7) ∧ a ≤ 1 ∧ b = 0 ∧ c = 0 ∨ (k = 2 ∨ k = 4) ∧ a = 1 ∧ b = 0 ∧ c = 0 ∨ k = 3 ∧ a = 2 ∧ b = 0 ∧ c = 0 ∨ (k = 8 ∨ k = 9) ∧ a = 0 ∧ b = 0 ∧ c = 0 ∨ k = 6 ∧ a = 1 ∧ c = 0 ∨ k = 5 ∧ a = 1
mutual
def wfE : E → Prop
  | .mk k _ _ _ _ args _ => shapeE k args.length ∧ wfEs args
def wfEs : List E → Prop
  | [] => True
  | e :: es => wfE e ∧ wfEs es
end
mutual
def wfS : S → Prop
  | .mk k _ args body els _ => shapeS k args.length body.length els.length ∧ wfEs args ∧ wfSs body ∧ wfSs els
def wfSs : List S → Prop
  | [] => True
  | s :: ss => wfS s ∧ wfSs ss
end
theorem wfEs_iff : ∀ {l : List E}, wfEs l ↔ ∀ e ∈ l, wfE e
  | [] => by simp [wfEs]
  | e :: l => by simp [wfEs, wfEs_iff (l := l)]
theorem wfSs_iff : ∀ {l : List S}, wfSs l ↔ ∀ e ∈ l, wfS e
  | [] => by simp [wfSs]
  | e :: l => by simp [wfSs, wfSs_iff (l := l)]
theorem wfClE : ClE (fun _ => True) (fun _ => True) wfE where
  z := trivial
  t _ _ := trivial
  c1 t _ _ := by simp [wfE, wfEs, shapeE]
  c2 t _ _ := by simp [wfE, wfEs, shapeE]
  c3 t _ _ := by simp [wfE, wfEs, shapeE]
  c4 t e _ _ h := by simp [wfE, wfEs, shapeE, h]
  c5 t l _ _ h := by simp [wfE, shapeE, wfEs_iff]; exact h
  c6 t e _ _ h := by simp [wfE, wfEs, shapeE, h]
  c7 t e e' _ _ _ _ h h' := by simp [wfE, wfEs, shapeE, h, h']
theorem wfClS : ClS (fun _ => True) (fun _ => True) wfE wfS where
  toClE := wfClE
  s1 t u l _ _ _ h := by rcases h with rfl | ⟨e, rfl, h⟩ <;> simp [wfS, wfSs, wfEs, shapeS]; exact h
  s2 t e _ _ h := by simp [wfS, wfSs, wfEs, shapeS, h]
  s3 t i e _ _ h h' := by simp [wfS, wfSs, wfEs, shapeS, h, h']
  s4 t l _ _ h := by simp [wfS, wfSs, wfEs, wfE, shapeS, shapeE, wfEs_iff]; exact h
  s5 t e b c _ h hb hc := by simp [wfS, wfEs, shapeS, wfSs_iff, h]; exact ⟨hb, hc⟩
  s6 t e b _ h hb := by simp [wfS, wfEs, wfSs, shapeS, wfSs_iff, h]; exact hb
  s7 t l _ h := by rcases h with rfl | ⟨e, rfl, h⟩ <;> simp [wfS, wfSs, wfEs, shapeS]; exact h
  s8 t _ := by simp [wfS, wfSs, wfEs, shapeS]
  s9 t _ := by simp [wfS, wfSs, wfEs, shapeS]
end Go.Sx
namespace Go.Proofs.D
open Go Go.Den Go.Sx
set_option maxRecDepth 100000
attribute [local irreducible] IntKind.wrap Tri parseS

def CB (cb n : Nat) (h : PHeap) : Prop := n ≤ 4096 ∧ h cb = some (.cells ⟨[vI n]⟩ 129)
def CP (cb n : Nat) (h : PHeap) (v : Value) (h' : PHeap) : Prop := v = vB true ∧ Away cb h h' ∧ CB cb n h'
theorem one_t {cb n : Nat} {h : PHeap} (hb : CB cb (n + 1) h) : Tri Tryz.prog 106 [vP cb 0] h (CP cb n h) := by
  obtain ⟨hn, hb⟩ := hb
  refine T106 ?_
  unfold R106
  refine ⟨_, cell_of hb 0, _, _, _, hb, ⟨by simp, Nat.zero_le _⟩, ?_⟩
  intro h1 hh1
  have hb1 : h1 cb = some (.cells ⟨[vI (IntKind.i64.wrap (((n + 1 : Nat) : Int) - 1))]⟩ 129) := Put.at hh1
  rw [wrap64 (by omega) (by omega), show (((n + 1 : Nat) : Int) - 1) = n by omega] at hb1
  refine ⟨_, cell_of hb1 0, ?_, (Put.chg hh1).away, by omega, hb1⟩
  simp
theorem ext_away {g : PHeap} {cb : Nat} {h h' : PHeap} (hg : g cb = none) (x : Ext g h) (a : Away cb h h') : Ext g h' := fun k o hk => a k o (fun e => by subst e; rw [hg] at hk; cases hk) (x k o hk)
theorem cb_put {cb n b : Nat} {o : Obj} {h h1 : PHeap} (hc : CB cb n h) (hb : h b = none) (e : h1 = h.put b o) : CB cb n h1 := ⟨hc.1, Put.ext e hb _ _ hc.2⟩
theorem ne_cb {cb n b : Nat} {h : PHeap} (hc : CB cb n h) (hb : h b = none) : b ≠ cb := fun e => by subst e; rw [hc.2] at hb; cases hb
theorem cntEs_drop {es : List E} {j : Nat} (hj : j < es.length) : cntEs (es.drop j) = cntE es[j] + cntEs (es.drop (j + 1)) := by rw [List.drop_eq_getElem_cons hj]; rfl
theorem cntSs_drop {es : List S} {j : Nat} (hj : j < es.length) : cntSs (es.drop j) = cntS es[j] + cntSs (es.drop (j + 1)) := by rw [List.drop_eq_getElem_cons hj]; rfl

section
variable {s : Bytes} {g : PHeap} {cb : Nat}

/-- An expression's count. -/
def TE (s : Bytes) (g : PHeap) (cb : Nat) (e : E) : Prop := ∀ cs, RE (plP s) 8 g e cs → ∀ h n, Ext g h → CB cb (n + cntE e) h → Tri Tryz.prog 66 [vP cb 0, vA cs] h (CP cb n h)
def TS (s : Bytes) (g : PHeap) (cb : Nat) (e : S) : Prop := ∀ cs, RS (plP s) 8 7 g e cs → ∀ h n, Ext g h → CB cb (n + cntS e) h → Tri Tryz.prog 148 [vP cb 0, vA cs] h (CP cb n h)

theorem texprs (hg : g cb = none) {f b1 : Nat} (hf : f = 108 ∨ f = 176) {es : List E} (ih : ∀ e ∈ es, TE s g cb e) {a : Option Addr} {c : Nat} (hA : At 8 (RE (plP s) 8) g a es) {h : PHeap} {n : Nat} (hx : Ext g h) (hb : b1 ≠ cb) (hb1 : h b1 = some (.cells ⟨[vP cb 0]⟩ 127)) (hc : CB cb (n + cntEs es) h) :
    Tri Tryz.prog 107 [vL a es.length c, vF f [] [vP b1 0]] h fun v h' => v = vB false ∧ Away cb h h' ∧ CB cb n h' := by
  refine T107 ?_
  unfold R107
  have hl := hc.1
  have hlen := cntEs_len es
  suffices hs : Tri Tryz.prog 153 [vL a es.length c, vF f [] [vP b1 0]] h fun v h' => v = vI (-1) ∧ Away cb h h' ∧ CB cb n h' by
    refine Tri.mono hs ?_
    rintro _ h1 ⟨rfl, h2, h3⟩
    exact ⟨_, rfl, rfl, h2, h3⟩
  refine T153 ?_
  unfold R153
  refine ⟨fun m i h' => Away cb h h' ∧ ∃ j : Nat, i = j ∧ j + m = es.length ∧ CB cb (n + cntEs (es.drop j)) h', ⟨es.length, Away.refl _ _, 0, rfl, by omega, hc⟩, ?_⟩
  rintro m _ h1 ⟨ha, j, rfl, hjm, hcj⟩
  refine br_split (fun e => ?_) (fun e => ?_)
  · have hj : j < es.length := by
      have := of_decide_eq_true e
      omega
    obtain ⟨b, o, cs, rfl, hr, hrel⟩ := hA.get hj
    have ihj := ih _ (List.getElem_mem hj) _ hrel h1 (n + cntEs (es.drop (j + 1))) (ext_away hg hx ha) (by rw [cntEs_drop hj] at hcj; rwa [show n + cntEs (es.drop (j + 1)) + cntE es[j] = n + (cntE es[j] + cntEs (es.drop (j + 1))) by omega])
    have hr := row_ext (fun ob => ext_away hg hx ha b ob) hr
    have hb2 := ha _ _ hb hb1
    generalize es[j] = x at *
    match x, hrel with
    | .mk kd op nm vl tx args pos, hrel =>
    obtain ⟨a1, c1, rfl, hA1⟩ := RE_iff.1 hrel
    refine ⟨b, o, rfl, ⟨by omega, by omega⟩, _, _, _, _, _, _, _, _, _, _, hr, ?_⟩
    rcases hf with rfl | rfl
    · refine T108 ?_
      unfold R108
      refine ⟨_, _, cell_of hb2 0, ?_⟩
      refine Tri.mono ihj ?_
      rintro _ h2 ⟨rfl, h3, h4⟩
      refine ⟨_, rfl, _, rfl, br_neg rfl ⟨m - 1, by omega, ⟨ha.trans h3, j + 1, ?_, by omega, h4⟩, trivial⟩⟩
      rw [wrap64 (by omega) (by omega)]; rfl
    · refine T176 ?_
      unfold R176
      refine ⟨_, _, cell_of hb2 0, ?_⟩
      refine Tri.mono ihj ?_
      rintro _ h2 ⟨rfl, h3, h4⟩
      refine ⟨_, rfl, _, rfl, br_neg rfl ⟨m - 1, by omega, ⟨ha.trans h3, j + 1, ?_, by omega, h4⟩, trivial⟩⟩
      rw [wrap64 (by omega) (by omega)]; rfl
  · have : es.length ≤ j := by
      have := of_decide_eq_false e
      omega
    rw [List.drop_eq_nil_of_le this] at hcj
    exact ⟨rfl, ha, hcj⟩

theorem texpr (hg : g cb = none) : ∀ k e, cntE e ≤ k → wfE e → TE s g cb e := by
  intro k
  induction k with
  | zero => intro e he; have := cntE_pos e; omega
  | succ k ih =>
    intro e he hw cs hrel h n hx hc
    match e, he, hw, hrel, hc with
    | .mk kd op nm vl tx args pos, he, hw, hrel, hc =>
    obtain ⟨a1, c1, rfl, hA1⟩ := RE_iff.1 hrel
    simp only [cntE] at he hc
    have hih : ∀ e ∈ args, TE s g cb e := fun e hm => ih e (by have := cntEs_mem hm; omega) (wfEs_iff.1 hw.2 e hm)
    refine T66 ?_
    unfold R66
    intro b1 hb1 h1 hh1
    have hn1 := ne_cb hc hb1
    have hx1 := Put.ext hh1 hb1
    refine ⟨_, _, cell_of (Put.at hh1) 0, ?_⟩
    refine Tri.mono (one_t (n := n + cntEs args) (cb_put hc hb1 hh1)) ?_
    rintro _ h2 ⟨rfl, ha2, hc2⟩
    have ha02 : Away cb h h2 := hx1.away.trans ha2
    have hb2 := ha2 _ _ hn1 (Put.at hh1)
    have hx2 := ext_away hg hx ha02
    refine ⟨_, rfl, br_neg rfl ?_⟩
    have single : ∀ x, args = [x] → ∃ (p3 o3 : Nat), h2.cell b1 0 = some (vP p3 o3) ∧ ∃ (b2 o4 : Nat), a1 = some ⟨b2, o4, none⟩ ∧ (0 ≤ (0 : Int) ∧ (0 : Int) < args.length) ∧
        ∃ (i5 : Int) (l4 l5 : Bs) (i6 : Int) (l6 : Bs) (a2 : OA) (n2 dyk2 : Nat) (i7 i8 : Int), h2.row b2 o4 [vI i5, vS l4, vS l5, vI i6, vS l6, vL a2 n2 dyk2, vI i7, vI i8] ∧
        Tri Tryz.prog 66 [vP p3 o3, vA [vI i5, vS l4, vS l5, vI i6, vS l6, vL a2 n2 dyk2, vI i7, vI i8]] h2 fun v_2 h_3 => ∃ (c2 : Bool), v_2 = vB c2 ∧ (tv [vL a1 args.length c1]) ∧ CP cb n h (vB c2) h_3 := fun x hxs => by
      subst hxs
      obtain ⟨b, o, cs, rfl, hr, hrel⟩ := hA1.get (n := 0) (by simp)
      have h5 := hih x (by simp) _ hrel h2 n hx2 (by simpa [cntEs] using hc2)
      have hr := row_ext (fun ob => hx2 b ob) hr
      simp only [List.getElem_cons_zero] at hrel
      match x, hrel with
      | .mk kd op nm vl tx args pos, hrel =>
      obtain ⟨a3, c3, rfl, hA3⟩ := RE_iff.1 hrel
      refine ⟨_, _, cell_of hb2 0, b, o, rfl, ⟨by decide, by simp⟩, _, _, _, _, _, _, _, _, _, _, hr, ?_⟩
      refine Tri.mono h5 ?_
      rintro _ h3 ⟨rfl, h6, h7⟩
      exact ⟨_, rfl, rfl, rfl, ha02.trans h6, h7⟩
    rcases hw.1 with ⟨hk, h0⟩ | ⟨hk, h0⟩ | ⟨rfl, h0⟩ | rfl
    · obtain rfl := List.eq_nil_of_length_eq_zero h0
      have hq : CP cb n h (vB true) h2 := ⟨rfl, ha02, hc2⟩
      rcases hk with rfl | rfl | rfl <;> (repeat first | refine br_pos rfl ?_ | refine br_neg rfl ?_) <;> exact hq
    · obtain ⟨x, rfl⟩ := List.length_eq_one_iff.1 h0
      rcases hk with rfl | rfl <;> (repeat first | refine br_pos rfl ?_ | refine br_neg rfl ?_) <;> exact single x rfl
    · obtain ⟨x, y, rfl⟩ : ∃ x y, args = [x, y] := match args, h0 with | [x, y], _ => ⟨x, y, rfl⟩
      (repeat first | refine br_pos rfl ?_ | refine br_neg rfl ?_)
      obtain ⟨b, o, cs, rfl, hr, hrel⟩ := hA1.get (n := 0) (by simp)
      obtain ⟨b', o', cs', ha', hr', hrel'⟩ := hA1.get (n := 1) (by simp)
      cases ha'
      simp only [List.getElem_cons_zero, List.getElem_cons_succ] at hrel hrel'
      have h5 := hih x (by simp) _ hrel h2 (n + cntE y) hx2 (by simpa [cntEs, Nat.add_assoc, Nat.add_comm, Nat.add_left_comm] using hc2)
      have h5' := fun h4 hx4 hc4 => hih y (by simp) _ hrel' h4 n hx4 hc4
      match x, y, hrel, hrel' with
      | .mk kd op nm vl tx args pos, .mk kd' op' nm' vl' tx' args' pos', hrel, hrel' =>
      obtain ⟨a3, c3, rfl, hA3⟩ := RE_iff.1 hrel
      obtain ⟨a4, c4, rfl, hA4⟩ := RE_iff.1 hrel'
      refine ⟨_, _, cell_of hb2 0, b, o, rfl, ⟨by decide, by simp⟩, _, _, _, _, _, _, _, _, _, _, row_ext (fun ob => hx2 b ob) hr, ?_⟩
      refine Tri.mono h5 ?_
      rintro _ h3 ⟨rfl, h6, h7⟩
      have hx3 := ext_away hg hx2 h6
      refine ⟨_, rfl, rfl, br_pos rfl ?_⟩
      refine ⟨_, _, cell_of (h6 _ _ hn1 hb2) 0, b, o, rfl, ⟨by decide, by simp⟩, _, _, _, _, _, _, _, _, _, _, row_ext (fun ob => hx3 b ob) hr', ?_⟩
      refine Tri.mono (h5' h3 hx3 h7) ?_
      rintro _ h4 ⟨rfl, h8, h9⟩
      exact ⟨_, rfl, rfl, rfl, rfl, (ha02.trans h6).trans h8, h9⟩
    · (repeat first | refine br_pos rfl ?_ | refine br_neg rfl ?_)
      refine Tri.mono (texprs hg (.inl rfl) hih hA1 hx2 hn1 hb2 hc2) ?_
      rintro _ h3 ⟨rfl, h6, h7⟩
      exact ⟨_, rfl, rfl, ha02.trans h6, h7⟩

theorem tstmts (hg : g cb = none) {es : List S} (ih : ∀ e ∈ es, TS s g cb e) {a : Option Addr} {c : Nat} (hA : At 7 (RS (plP s) 8 7) g a es) {h : PHeap} {n : Nat} (hx : Ext g h) (hc : CB cb (n + cntSs es) h) :
    Tri Tryz.prog 100 [vP cb 0, vL a es.length c] h (CP cb n h) := by
  refine T100 ?_
  unfold R100
  intro b1 hb1 h1 hh1
  have hn1 := ne_cb hc hb1
  have hx1 := Put.ext hh1 hb1
  have hx01 := hx.trans hx1
  have hl := hc.1
  have hlen := cntSs_len es
  have hc1 := cb_put hc hb1 hh1
  have hb1 := Put.at hh1
  suffices hs : Tri Tryz.prog 175 [vL a es.length c, vF 147 [] [vP b1 0]] h1 fun v h' => v = vI (-1) ∧ Away cb h1 h' ∧ CB cb n h' by
    refine T146 ?_
    unfold R146
    refine Tri.mono hs ?_
    rintro _ h1 ⟨rfl, h2, h3⟩
    exact ⟨_, rfl, _, rfl, rfl, hx1.away.trans h2, h3⟩
  clear hh1 hx1
  refine T175 ?_
  unfold R175
  refine ⟨fun m i h' => Away cb h1 h' ∧ ∃ j : Nat, i = j ∧ j + m = es.length ∧ CB cb (n + cntSs (es.drop j)) h', ⟨es.length, Away.refl _ _, 0, rfl, by omega, hc1⟩, ?_⟩
  rintro m _ h2 ⟨ha, j, rfl, hjm, hcj⟩
  refine br_split (fun e => ?_) (fun e => ?_)
  · have hj : j < es.length := by
      have := of_decide_eq_true e
      omega
    obtain ⟨b, o, cs, rfl, hr, hrel⟩ := hA.get hj
    have ihj := ih _ (List.getElem_mem hj) _ hrel h2 (n + cntSs (es.drop (j + 1))) (ext_away hg hx01 ha) (by rw [cntSs_drop hj] at hcj; rwa [show n + cntSs (es.drop (j + 1)) + cntS es[j] = n + (cntS es[j] + cntSs (es.drop (j + 1))) by omega])
    have hr := row_ext (fun ob => ext_away hg hx01 ha b ob) hr
    have hb2 := ha _ _ hn1 hb1
    generalize es[j] = x at *
    match x, hrel with
    | .mk kd nm args body els pos, hrel =>
    obtain ⟨a1, c1, a2, c2, a3, c3, rfl, hA1, hA2, hA3⟩ := RS_iff.1 hrel
    refine ⟨b, o, rfl, ⟨by omega, by omega⟩, _, _, _, _, _, _, _, _, _, _, _, _, _, hr, ?_⟩
    refine T147 ?_
    unfold R147
    refine ⟨_, _, cell_of hb2 0, ?_⟩
    refine Tri.mono ihj ?_
    rintro _ h2 ⟨rfl, h3, h4⟩
    refine ⟨_, rfl, _, rfl, br_neg rfl ⟨m - 1, by omega, ⟨ha.trans h3, j + 1, ?_, by omega, h4⟩, trivial⟩⟩
    rw [wrap64 (by omega) (by omega)]; rfl
  · have : es.length ≤ j := by
      have := of_decide_eq_false e
      omega
    rw [List.drop_eq_nil_of_le this] at hcj
    exact ⟨rfl, ha, hcj⟩

theorem tstmt (hg : g cb = none) : ∀ k e, cntS e ≤ k → wfS e → TS s g cb e := by
  intro k
  induction k with
  | zero => intro e he; have := cntS_pos e; omega
  | succ k ih =>
    intro e he hw cs hrel h n hx hc
    match e, he, hw, hrel, hc with
    | .mk kd nm args body els pos, he, hw, hrel, hc =>
    obtain ⟨a1, c1, a2, c2, a3, c3, rfl, hA1, hA2, hA3⟩ := RS_iff.1 hrel
    simp only [cntS] at he hc
    have hih : ∀ e ∈ args, TE s g cb e := fun e hm => texpr hg _ e (Nat.le_refl _) (wfEs_iff.1 hw.2.1 e hm)
    have hih2 : ∀ e ∈ body, TS s g cb e := fun e hm => ih e (by have := cntSs_mem hm; omega) (wfSs_iff.1 hw.2.2.1 e hm)
    have hih3 : ∀ e ∈ els, TS s g cb e := fun e hm => ih e (by have := cntSs_mem hm; omega) (wfSs_iff.1 hw.2.2.2 e hm)
    refine T148 ?_
    unfold R148
    intro b1 hb1 h1 hh1
    have hn1 := ne_cb hc hb1
    have hx1 := Put.ext hh1 hb1
    refine ⟨_, _, cell_of (Put.at hh1) 0, ?_⟩
    refine Tri.mono (one_t (n := n + cntSs els + cntSs body + cntEs args) (by rw [show n + cntSs els + cntSs body + cntEs args + 1 = n + (cntEs args + cntSs body + cntSs els + 1) by omega]; exact cb_put hc hb1 hh1)) ?_
    rintro _ h2 ⟨rfl, ha2, hc2⟩
    have ha02 : Away cb h h2 := hx1.away.trans ha2
    have hb2 := ha2 _ _ hn1 (Put.at hh1)
    have hx2 := ext_away hg hx ha02
    refine ⟨_, rfl, br_neg rfl ?_⟩
    have leaf : Tri Tryz.prog 107 [vL a1 args.length c1, vF 176 [] [vP b1 0]] h2 fun v_5 h_6 => ∃ (c5 : Bool), v_5 = vB c5 ∧ br (!c5)
        (∃ (p5 o5 : Nat), h_6.cell b1 0 = some (vP p5 o5) ∧ Tri Tryz.prog 100 [vP p5 o5, vL a2 body.length c2] h_6 fun v_6 h_7 => ∃ (c6 : Bool), v_6 = vB c6 ∧ br c6
          (∃ (p6 o6 : Nat), h_7.cell b1 0 = some (vP p6 o6) ∧ Tri Tryz.prog 100 [vP p6 o6, vL a3 els.length c3] h_7 fun v_7 h_8 => ∃ (c7 : Bool), v_7 = vB c7 ∧ CP cb n h (vB c7) h_8)
          (CP cb n h (vB false) h_7))
        (CP cb n h (vB false) h_6) := by
      refine Tri.mono (texprs hg (.inr rfl) hih hA1 hx2 hn1 hb2 hc2) ?_
      rintro _ h3 ⟨rfl, h6, h7⟩
      have hb3 := h6 _ _ hn1 hb2
      have hx3 := ext_away hg hx2 h6
      refine ⟨_, rfl, br_pos rfl ⟨_, _, cell_of hb3 0, ?_⟩⟩
      refine Tri.mono (tstmts hg hih2 hA2 hx3 h7) ?_
      rintro _ h4 ⟨rfl, h8, h9⟩
      have hb4 := h8 _ _ hn1 hb3
      have hx4 := ext_away hg hx3 h8
      refine ⟨_, rfl, br_pos rfl ⟨_, _, cell_of hb4 0, ?_⟩⟩
      refine Tri.mono (tstmts hg hih3 hA3 hx4 h9) ?_
      rintro _ h5 ⟨rfl, h10, h11⟩
      exact ⟨_, rfl, rfl, ((ha02.trans h6).trans h8).trans h10, h11⟩
    have hsh := hw.1
    generalize args.length = na at *
    generalize body.length = nb at *
    generalize els.length = ne at *
    rcases hsh with ⟨hk, h0, rfl, rfl⟩ | ⟨hk, rfl, rfl, rfl⟩ | ⟨rfl, rfl, rfl, rfl⟩ | ⟨hk, rfl, rfl, rfl⟩ | ⟨rfl, rfl, rfl⟩ | ⟨rfl, rfl⟩
    · have : na = 0 ∨ na = 1 := by omega
      rcases hk with rfl | rfl <;> rcases this with rfl | rfl <;> (repeat first | with_reducible exact leaf | refine br_pos rfl ?_ | refine br_neg rfl ?_)
    · rcases hk with rfl | rfl <;> (repeat first | with_reducible exact leaf | refine br_pos rfl ?_ | refine br_neg rfl ?_)
    · (repeat first | with_reducible exact leaf | refine br_pos rfl ?_ | refine br_neg rfl ?_)
    · rcases hk with rfl | rfl <;> (repeat first | with_reducible exact leaf | refine br_pos rfl ?_ | refine br_neg rfl ?_)
    · (repeat first | with_reducible exact leaf | refine br_pos rfl ?_ | refine br_neg rfl ?_)
      refine br_split (fun _ => ?_) (fun _ => ?_) <;> (repeat first | with_reducible exact leaf | refine br_pos rfl ?_ | refine br_neg rfl ?_)
    · (repeat first | with_reducible exact leaf | refine br_pos rfl ?_ | refine br_neg rfl ?_)
      refine br_split (fun _ => ?_) (fun _ => ?_) <;> (repeat first | with_reducible exact leaf | refine br_pos rfl ?_ | refine br_neg rfl ?_) <;> refine br_split (fun _ => ?_) (fun _ => ?_) <;> (repeat first | with_reducible exact leaf | refine br_pos rfl ?_ | refine br_neg rfl ?_)
end

theorem tree_tri {s : Bytes} {h : PHeap} {p : Pg} (hw : ∀ f ∈ p.funcs, wfSs f.body) (hc : cntP p ≤ 4097) {ga fa : Option Addr} {gn gc fc : Nat} (hF : At 5 (RF (plP s) 8 7) h fa p.funcs) :
    Tri Tryz.prog 56 [vA [vL ga gn gc, vL fa p.funcs.length fc]] h fun v h' => v = vB true ∧ Ext h h' := by
  refine T56 ?_
  unfold R56
  intro b1 hb1 h1 hh1 b2 hb2 h2 hh2
  have hx1 := Put.ext hh1 hb1
  have hx2 := Put.ext hh2 hb2
  refine ⟨_, _, _, Put.at hh2, ⟨by simp, Nat.zero_le _⟩, ?_⟩
  intro h3 hh3
  have hne : b2 ≠ b1 := fun e => by subst e; rw [Put.at hh1] at hb2; cases hb2
  have hb3 : h3 b2 = some (.cells ⟨[vP b1 0]⟩ 127) := Put.at hh3
  have hx3 : Ext h h3 := fun k o hk => by
    rw [Put.chg hh3 k (fun e => by subst e; rw [hx1 _ _ hk] at hb2; cases hb2)]
    exact hx2 _ _ (hx1 _ _ hk)
  simp only [cntP] at hc
  have hlen := cntFs_len p.funcs
  have hcb : CB b1 4096 h3 := ⟨Nat.le_refl _, by rw [Put.chg hh3 _ hne.symm]; exact hx2 _ _ (Put.at hh1)⟩
  clear hh1 hh2 hh3 hb2 hx1 hx2
  generalize p.funcs = fs at *
  have hfc : cntFs fs ≤ 4096 + fs.length := by
    cases fs with
    | nil => simp [cntFs]
    | cons f fs => simp; omega
  refine T98 ?_
  unfold R98
  suffices hs : Tri Tryz.prog 145 [vL fa fs.length fc, vF 99 [] [vP b2 0]] h3 fun v h' => v = vI (-1) ∧ Ext h h' by
    refine Tri.mono hs ?_
    rintro _ h1 ⟨rfl, h2⟩
    exact ⟨_, rfl, _, rfl, rfl, h2⟩
  refine T145 ?_
  unfold R145
  refine ⟨fun m i h' => Away b1 h3 h' ∧ ∃ j n : Nat, i = j ∧ j + m = fs.length ∧ CB b1 n h' ∧ cntFs (fs.drop j) ≤ n + (fs.drop j).length, ⟨fs.length, Away.refl _ _, 0, 4096, rfl, by omega, hcb, hfc⟩, ?_⟩
  rintro m _ h4 ⟨ha, j, n, rfl, hjm, hcj, hn⟩
  have hx4 := ext_away hb1 hx3 ha
  refine br_split (fun e => ?_) (fun e => ⟨rfl, hx4⟩)
  have hj : j < fs.length := by
    have := of_decide_eq_true e
    omega
  obtain ⟨b, o, cs, rfl, hr, hrel⟩ := hF.get hj
  have hwj := hw _ (List.getElem_mem hj)
  rw [List.drop_eq_getElem_cons hj] at hn
  simp only [cntFs, List.length_cons] at hn
  generalize fs[j] = x at *
  obtain ⟨a1, c1, a2, c2, rfl, hP1, hB1, _⟩ := hrel
  simp only [cntF] at hn
  have hb4 := ha _ _ hne hb3
  refine ⟨b, o, rfl, ⟨by omega, by omega⟩, _, _, _, _, _, _, _, _, _, row_ext (fun ob => hx4 b ob) hr, ?_⟩
  refine T99 ?_
  unfold R99
  refine ⟨_, _, cell_of hb4 0, ?_⟩
  have := cntFs_len (fs.drop (j + 1))
  refine Tri.mono (tstmts hb1 (fun e he => tstmt hb1 _ e (Nat.le_refl _) (wfSs_iff.1 hwj e he)) hB1 (n := n - cntSs x.body) hx4 (by rw [show n - cntSs x.body + cntSs x.body = n by omega]; exact hcj)) ?_
  rintro _ h5 ⟨rfl, h6, h7⟩
  refine ⟨_, rfl, _, rfl, br_neg rfl ⟨m - 1, by omega, ⟨ha.trans h6, j + 1, _, ?_, by omega, h7, by omega⟩, trivial⟩⟩
  rw [wrap64 (by omega) (by omega)]; rfl
end Go.Proofs.D
namespace Go.Sx
theorem parseS_cl {PT : Tok → Prop} {PX : Nat → Prop} {PE : E → Prop} {PS : S → Prop} {PG : G → Prop} {PF : F → Prop} (C : ClP PT PX PE PS PG PF) {s : Bytes} (hT : ∀ ts, scanS s = .ok ts → ∀ t ∈ ts, PT t) {p : Pg} (h : parseS s = .ok p) : (∀ g ∈ p.globals, PG g) ∧ ∀ f ∈ p.funcs, PF f := by
  unfold parseS at h
  cases hsc : scanS s with
  | error e => rw [hsc] at h; cases h
  | ok ts =>
    have hp := pProg_rp C (20 * ts.length + 40) ⟨[], []⟩ ts 0 (fun g hg => by cases hg) (fun g hg => by cases hg) (hT _ hsc)
    rw [hsc] at h
    simp only at h
    cases hpp : pProg (20 * ts.length + 40) ⟨[], []⟩ ts 0 with
    | error e => rw [hpp] at h; cases h
    | ok q =>
      obtain ⟨p', ts', d'⟩ := q
      rw [hpp] at h
      cases h
      exact (hp.1 _ _ _ hpp).1
theorem wfCl : ClP (fun _ => True) (fun _ => True) wfE wfS (fun _ => True) (fun f => wfSs f.body) where
  toClS := wfClS
  g0 _ _ _ := trivial
  g1 _ _ _ _ _ _ := trivial
  g2 _ _ _ _ _ _ := trivial
  f1 _ _ b _ _ _ h := wfSs_iff.2 h
theorem parseS_wf {s : Bytes} {p : Pg} (h : parseS s = .ok p) : ∀ f ∈ p.funcs, wfSs f.body := (parseS_cl wfCl (fun _ _ _ _ => trivial) h).2
end Go.Sx
/- The checks of a program in plain Lean. -/
namespace Go.Sx

/-- The first error: its number, and its place (none: line 1, column 1). -/
abbrev Er := Option (Nat × Option Nat)
def failC (b : Bool) (pos : Option Nat) (code : Nat) (e : Er) : Er :=
  match e with
  | some x => some x
  | none => if b then some (code, pos) else none

def builtinS (n : Bytes) : Option (Nat × Nat) :=
  if n == [112, 101, 101, 107] then some (1, 1) else if n == [112, 111, 107, 101] then some (2, 2) else if n == [107, 101, 114, 110, 101, 108] then some (1, 5) else none

/-- A table of names, the newest first. -/
abbrev Tab := List (Bytes × Nat)
def getT (t : Tab) (n : Bytes) : Option Nat :=
  match t with
  | [] => none
  | (k, v) :: t => if n == k then some v else getT t n

def varC (gl : Tab) (vis : List Bytes) (name : Bytes) (array : Bool) (pos : Nat) (e : Er) : Er :=
  if vis.contains name then failC (array != false) (some pos) 31 e
  else failC (array != ((getT gl name).getD 0 != 0)) (some pos) 31 (failC (getT gl name).isNone (some pos) 37 e)

def callC (fn : Tab) (name : Bytes) (n pos : Nat) (e : Er) : Er :=
  match builtinS name with
  | some (low, high) => failC (decide (n < low) || decide (high < n)) (some pos) 31 e
  | none => failC (decide (n < (getT fn name).getD 0) || decide ((getT fn name).getD 0 < n)) (some pos) 31 (failC (getT fn name).isNone (some pos) 37 e)

mutual
def ckE (gl fn : Tab) (vis : List Bytes) : E → Er → Er
  | .mk k _ nm _ _ args pos, e => ckEs gl fn vis args (if k = 3 ∨ k = 4 then varC gl vis nm (k == 4) pos e else if k = 5 then callC fn nm args.length pos e else e)
def ckEs (gl fn : Tab) (vis : List Bytes) : List E → Er → Er
  | [], e => e
  | x :: xs, e => ckEs gl fn vis xs (ckE gl fn vis x e)
end

/-- What a function's check carries: the error, the visible names, how many there were. -/
structure CS where
  err : Er
  vis : List Bytes
  cnt : Nat

mutual
def ckS (gl fn : Tab) (loop : Bool) : S → CS → CS
  | .mk k nm args body els pos, c =>
    let e0 := if k = 2 ∨ k = 3 then varC gl c.vis nm (k == 3) pos c.err else if k = 8 ∨ k = 9 then failC (!loop) (some pos) 10 c.err else c.err
    let e1 := ckEs gl fn c.vis args e0
    if k = 1 then ⟨failC (decide (32 ≤ c.cnt)) (some pos) 9 (failC (c.vis.contains nm) (some pos) 7 e1), c.vis ++ [nm], c.cnt + 1⟩
    else if k = 5 then
      let r := ckSs gl fn loop body ⟨e1, c.vis, c.cnt⟩
      let q := ckSs gl fn loop els ⟨r.err, c.vis, r.cnt⟩
      ⟨q.err, c.vis, q.cnt⟩
    else if k = 6 then
      let r := ckSs gl fn true body ⟨e1, c.vis, c.cnt⟩
      ⟨r.err, c.vis, r.cnt⟩
    else ⟨e1, c.vis, c.cnt⟩
def ckSs (gl fn : Tab) (loop : Bool) : List S → CS → CS
  | [], c => c
  | s :: ss, c => ckSs gl fn loop ss (ckS gl fn loop s c)
end
def ckL (gl fn : Tab) (loop : Bool) (l : List S) (c : CS) : CS := let r := ckSs gl fn loop l c; ⟨r.err, c.vis, r.cnt⟩

def ckG (i : Nat) (gl : Tab) (g : G) (e : Er) : Er :=
  failC (decide (256 < g.size)) (some g.pos) 2 (failC ((getT gl g.name).isSome || (builtinS g.name).isSome) (some g.pos) 7 (failC (decide (64 ≤ i)) (some g.pos) 9 e))
def ckGs : Nat → List G → Tab → Er → Tab × Er
  | _, [], gl, e => (gl, e)
  | i, g :: gs, gl, e => ckGs (i + 1) gs ((g.name, g.size) :: gl) (ckG i gl g e)

def ckPs (pos : Nat) : List Bytes → List Bytes → Er → Er
  | _, [], e => e
  | seen, q :: qs, e => ckPs pos (seen ++ [q]) qs (failC (seen.contains q) (some pos) 7 e)
def ckF (i : Nat) (gl fn : Tab) (f : F) (e : Er) : Er :=
  ckPs f.pos [] f.params (failC (decide (6 < f.params.length)) (some f.pos) 9 (failC ((getT gl f.name).isSome || (getT fn f.name).isSome || (builtinS f.name).isSome) (some f.pos) 7 (failC (decide (64 ≤ i)) (some f.pos) 9 e)))
def ckFs (gl : Tab) : Nat → List F → Tab → Er → Tab × Er
  | _, [], fn, e => (fn, e)
  | i, f :: fs, fn, e => ckFs gl (i + 1) fs ((f.name, f.params.length) :: fn) (ckF i gl fn f e)

def ckB (gl fn : Tab) : List F → Er → Er
  | [], e => e
  | f :: fs, e => ckB gl fn fs (ckL gl fn false f.body ⟨e, f.params, f.params.length⟩).err

def mainS : Bytes := [109, 97, 105, 110]
/-- The first error of a program. -/
def checkS (p : Pg) : Er :=
  let g := ckGs 0 p.globals [] none
  let f := ckFs g.1 0 p.funcs [] g.2
  ckB g.1 f.1 p.funcs (failC ((getT f.1 mainS).isNone || ((getT f.1 mainS).getD 0 != 0)) none 8 f.2)
end Go.Sx
/- The checker's state; names and expressions. -/
namespace Go.Proofs.D
open Go Go.Den Go.Sx
set_option maxRecDepth 100000
attribute [local irreducible] IntKind.wrap Tri parseS

/-- The error's line, column and number. -/
def erp (s : Bytes) : Er → Int × Int × Int
  | none => (0, 0, 0)
  | some (c, none) => (1, 1, c)
  | some (c, some n) => ((place s n).1, (place s n).2, c)
/-- A place, or the first one. -/
def pls (s : Bytes) : Option Nat → Int × Int
  | none => (1, 1)
  | some n => ((place s n).1, (place s n).2)

def MG (h : PHeap) (m : Nat) (gl : Tab) : Prop := ∃ L ck, h m = some (.map ⟨ents L⟩ ck) ∧ ∀ n, match getT gl n with
  | none => mapGet L n = none
  | some z => ∃ l i j k, mapGet L n = some (vA [vS l, vI z, vI i, vI j, vI k])
def MF (h : PHeap) (m : Nat) (fn : Tab) : Prop := ∃ L ck, h m = some (.map ⟨ents L⟩ ck) ∧ ∀ n, mapGet L n = (getT fn n).map fun (k : Nat) => vI k

/-- The names that are visible. -/
def KV (g : PHeap) (cb m1 m2 : Nat) (h : PHeap) (a : OA) (k : Nat) (vis : List Bytes) : Prop :=
  Own h 9 1 (vL a vis.length k) vis.length (vis.map fun l => vS l) ∧ ∀ b, a = ad b 0 → b ≠ cb ∧ b ≠ m1 ∧ b ≠ m2 ∧ g b = none
structure KB (g : PHeap) (cb m1 m2 : Nat) (gl fn : Tab) (h : PHeap) : Prop where
  ext : Ext g h
  f0 : g cb = none
  f1 : g m1 = none
  f2 : g m2 = none
  n1 : m1 ≠ cb
  n2 : m2 ≠ cb
  n3 : m1 ≠ m2
  mg : MG h m1 gl
  mf : MF h m2 fn
structure KS (s : Bytes) (g : PHeap) (cb m1 m2 : Nat) (gl fn : Tab) (c : CS) (h : PHeap) : Prop extends KB g cb m1 m2 gl fn h where
  er : ∀ x, c.err = some x → x.1 ≠ 0
  len : c.vis.length ≤ c.cnt
  bl : ∃ a k, h cb = some (.cells ⟨[vM m1, vM m2, vL a c.vis.length k, vI c.cnt, vI (erp s c.err).1, vI (erp s c.err).2.1, vI (erp s c.err).2.2]⟩ 114) ∧ KV g cb m1 m2 h a k c.vis

section
variable {s : Bytes} {g : PHeap} {cb m1 m2 : Nat} {gl fn : Tab} {c : CS} {h h' : PHeap}

theorem KB.chg (hk : KB g cb m1 m2 gl fn h) (x : Chg cb h h') : KB g cb m1 m2 gl fn h' where
  ext := ext_away hk.f0 hk.ext x.away
  f0 := hk.f0
  f1 := hk.f1
  f2 := hk.f2
  n1 := hk.n1
  n2 := hk.n2
  n3 := hk.n3
  mg := let ⟨L, ck, h1, h2⟩ := hk.mg; ⟨L, ck, by rw [x _ hk.n1]; exact h1, h2⟩
  mf := let ⟨L, ck, h1, h2⟩ := hk.mf; ⟨L, ck, by rw [x _ hk.n2]; exact h1, h2⟩
theorem KV.chg {a : OA} {k : Nat} {vis : List Bytes} (hk : KV g cb m1 m2 h a k vis) (x : Chg cb h h') : KV g cb m1 m2 h' a k vis :=
  ⟨Own.keep (fun b hb => x b (hk.2 b hb).1) hk.1, hk.2⟩
theorem KV.str {a : OA} {k : Nat} {vis : List Bytes} (hk : KV g cb m1 m2 h a k vis) : StrAt h a vis := by
  rcases hk.1.2 with ⟨_, h1⟩ | ⟨b, cap, rest, h1, h2, _, _⟩
  · exact .inl (List.eq_nil_of_length_eq_zero h1)
  · injection h1 with h1 _ _
    refine .inr ⟨b, 0, h1, fun j l hj => ?_⟩
    rw [cell_of h2]
    have : j < vis.length := (List.getElem?_eq_some_iff.1 hj).1
    rw [List.getElem?_append_left (by simpa using this)]
    simp [hj]

/-- The state behind a change of the error. -/
theorem KS.setE (hk : KS s g cb m1 m2 gl fn c h) {e : Er} (he : ∀ x, e = some x → x.1 ≠ 0) (hx : Chg cb h h') (hb : ∀ l t z v, h cb = some (.cells ⟨l⟩ t z) → l.take 4 = v → h' cb = some (.cells ⟨v ++ [vI (erp s e).1, vI (erp s e).2.1, vI (erp s e).2.2]⟩ t z)) :
    KS s g cb m1 m2 gl fn { c with err := e } h' := by
  obtain ⟨a, k, h1, h2⟩ := hk.bl
  exact ⟨hk.toKB.chg hx, he, hk.len, a, k, hb _ _ _ _ h1 rfl, h2.chg hx⟩

theorem fail_t (hk : KS s g cb m1 m2 gl fn c h) (b : Bool) (pos : Option Nat) (code : Nat) (hc : code ≠ 0) :
    Tri Tryz.prog 59 [vP cb 0, vB b, vI (pls s pos).1, vI (pls s pos).2, vI code] h fun v h' => v = vT [] ∧ KS s g cb m1 m2 gl fn { c with err := failC b pos code c.err } h' := by
  refine T59 ?_
  unfold R59
  obtain ⟨a, k, hb, hv⟩ := hk.bl
  refine br_split (fun e => ?_) (fun e => ?_)
  · subst e
    refine ⟨_, cell_of hb (0 + 6), ?_⟩
    cases hce : c.err with
    | none =>
      rw [hce] at hb
      refine br_pos rfl ⟨_, _, _, hb, ⟨by simp, Nat.zero_le _⟩, ?_⟩
      intro h1 hh1
      refine ⟨_, _, _, Put.at hh1, ⟨by simp [splice], Nat.zero_le _⟩, ?_⟩
      intro h2 hh2
      refine ⟨_, _, _, Put.at hh2, ⟨by simp [splice], Nat.zero_le _⟩, ?_⟩
      intro h3 hh3
      have hx := ((Put.chg hh1).trans (Put.chg hh2)).trans (Put.chg hh3)
      refine ⟨rfl, hk.toKB.chg hx, ?_, hk.len, a, k, ?_, hv.chg hx⟩
      · intro x hx; simp [failC] at hx; subst hx; exact hc
      · have := Put.at hh3
        cases pos <;> exact this
    | some x =>
      have hx := hk.er x hce
      have : (erp s (some x)).2.2 = x.1 := by
        obtain ⟨c, p⟩ := x
        cases p <;> rfl
      refine br_neg (by rw [this]; simpa using hx) ⟨rfl, ?_⟩
      show KS s g cb m1 m2 gl fn { c with err := failC true pos code (some x) } h
      rw [show failC true pos code (some x) = c.err from hce.symm]; exact hk
  · subst e
    refine ⟨rfl, ?_⟩
    have : failC false pos code c.err = c.err := by unfold failC; split <;> simp_all
    rw [this]; exact hk

theorem builtin_t (l : Bytes) (h : PHeap) : Tri Tryz.prog 24 [vS l] h fun v h' => v = (match builtinS l with | some (a, b) => vT [vI a, vI b, vB true] | none => vT [vI 0, vI 0, vB false]) ∧ h' = h := by
  refine T24 ?_
  unfold R24
  unfold builtinS
  refine br_split (fun e => ?_) (fun e => ?_)
  · rw [if_pos e]; exact ⟨rfl, rfl⟩
  rw [if_neg (by rw [e]; decide)]
  refine br_split (fun e => ?_) (fun e => ?_)
  · rw [if_pos e]; exact ⟨rfl, rfl⟩
  rw [if_neg (by rw [e]; decide)]
  refine br_split (fun e => ?_) (fun e => ?_)
  · rw [if_pos e]; exact ⟨rfl, rfl⟩
  rw [if_neg (by rw [e]; decide)]
  exact ⟨rfl, rfl⟩
theorem isBuiltin_t (l : Bytes) (h : PHeap) : Tri Tryz.prog 101 [vS l] h fun v h' => v = vB (builtinS l).isSome ∧ h' = h := by
  refine T101 ?_
  unfold R101
  refine Tri.mono (builtin_t l h) ?_
  rintro _ h ⟨rfl, rfl⟩
  cases builtinS l with
  | none => exact ⟨_, _, _, rfl, rfl, rfl⟩
  | some x => exact ⟨_, _, _, rfl, rfl, rfl⟩

theorem und111 : Tryz.prog.underlying 111 = some (.map 9 86) := rfl
theorem und112 : Tryz.prog.underlying 112 = some (.map 9 3) := rfl

theorem lookG (hk : KB g cb m1 m2 gl fn h) {ρ : Operand → Value} {m k : Operand} {l : Bytes} (hm : ρ m = vM m1) (hl : ρ k = vS l) (ty : TypeId) :
    Raw Tryz.prog (execOp ρ (mkO (.lookup 111 m k true) ty)) h fun v h' => h' = h ∧ ∃ nm i j k, v = vT [vA [vS nm, vI ((getT gl l).getD 0 : Nat), vI i, vI j, vI k], vB (getT gl l).isSome] := by
  obtain ⟨L, ck, h1, h2⟩ := hk.mg
  refine Raw.mono (raw_lookupS (z := vA [vS [], vI 0, vI 0, vI 0, vI 0]) und111 rfl rfl hm hl h1) ?_
  rintro _ h' ⟨rfl, rfl⟩
  refine ⟨rfl, ?_⟩
  have := h2 l
  cases hg : getT gl l with
  | none => rw [hg] at this; simp only at this; rw [this]; exact ⟨_, _, _, _, rfl⟩
  | some z => rw [hg] at this; obtain ⟨a, b, c, d, this⟩ := this; rw [this]; exact ⟨_, _, _, _, rfl⟩
theorem lookF (hk : KB g cb m1 m2 gl fn h) {ρ : Operand → Value} {m k : Operand} {l : Bytes} (hm : ρ m = vM m2) (hl : ρ k = vS l) (ty : TypeId) :
    Raw Tryz.prog (execOp ρ (mkO (.lookup 112 m k true) ty)) h fun v h' => h' = h ∧ v = vT [vI ((getT fn l).getD 0 : Nat), vB (getT fn l).isSome] := by
  obtain ⟨L, ck, h1, h2⟩ := hk.mf
  refine Raw.mono (raw_lookupS (z := vI 0) und112 rfl rfl hm hl h1) ?_
  rintro _ h' ⟨rfl, rfl⟩
  refine ⟨rfl, ?_⟩
  have := h2 l
  cases hg : getT fn l with
  | none => rw [hg] at this; simp only [Option.map_none] at this; rw [this]; rfl
  | some z => rw [hg] at this; simp only [Option.map_some] at this; rw [this]; rfl

theorem bne_cast (n : Nat) : (((n : Nat) : Int) != 0) = (n != 0) := by
  rw [Bool.eq_iff_iff]; simp

/-- A change of the error alone. -/
theorem KS.to {e e' : Er} (hk : KS s g cb m1 m2 gl fn { c with err := e } h) (he : e = e') : KS s g cb m1 m2 gl fn { c with err := e' } h := he ▸ hk

theorem var_t (hk : KS s g cb m1 m2 gl fn c h) (hl : c.vis.length ≤ 1000000) (nm : Bytes) (arr : Bool) (pos : Nat) :
    Tri Tryz.prog 150 [vP cb 0, vS nm, vB arr, vI (place s pos).1, vI (place s pos).2] h fun v h' => v = vT [] ∧ KS s g cb m1 m2 gl fn { c with err := varC gl c.vis nm arr pos c.err } h' := by
  refine T150 ?_
  unfold R150
  obtain ⟨a, k, hb, hv⟩ := hk.bl
  refine ⟨_, _, _, cell_of hb (0 + 2), ?_⟩
  refine Tri.mono (contains_tri nm hv.str hl) ?_
  rintro _ h ⟨rfl, rfl⟩
  refine ⟨_, rfl, br_split (fun e => ?_) (fun e => ?_)⟩
  · have e : c.vis.contains nm = false := by simpa using e
    refine ⟨_, cell_of hb 0, ?_⟩
    refine Raw.mono (lookG hk.toKB rfl rfl 181) ?_
    rintro _ h ⟨rfl, _, _, _, _, rfl⟩
    refine ⟨_, _, _, _, _, _, rfl, ?_⟩
    refine Tri.mono (fail_t hk _ (some pos) 37 (by decide)) ?_
    rintro _ h1 ⟨rfl, hk1⟩
    refine ⟨rfl, ?_⟩
    refine Tri.mono (fail_t hk1 _ (some pos) 31 (by decide)) ?_
    rintro _ h2 ⟨rfl, hk2⟩
    refine ⟨rfl, rfl, KS.to hk2 ?_⟩
    simp only [varC, e, bne_cast]
    cases getT gl nm <;> rfl
  · have e : c.vis.contains nm = true := by simpa using e
    refine Tri.mono (fail_t hk _ (some pos) 31 (by decide)) ?_
    rintro _ h1 ⟨rfl, hk1⟩
    refine ⟨rfl, rfl, KS.to hk1 ?_⟩
    simp only [varC, e]; rfl

theorem ckEs_drop {vis : List Bytes} {es : List E} {j : Nat} (hj : j < es.length) (e : Er) : ckEs gl fn vis (es.drop j) e = ckEs gl fn vis (es.drop (j + 1)) (ckE gl fn vis es[j] e) := by rw [List.drop_eq_getElem_cons hj]; rfl

/-- The check of an expression. -/
def XE (s : Bytes) (g : PHeap) (cb m1 m2 : Nat) (gl fn : Tab) (e : E) : Prop := ∀ cs c h, RE (plP s) 8 g e cs → KS s g cb m1 m2 gl fn c h → c.vis.length ≤ 1000000 →
  Tri Tryz.prog 151 [vP cb 0, vA cs] h fun v h' => v = vT [] ∧ KS s g cb m1 m2 gl fn { c with err := ckE gl fn c.vis e c.err } h'

/-- The loop over the parts. -/
theorem loopE {args : List E} (hih : ∀ e ∈ args, XE s g cb m1 m2 gl fn e) (hlen : args.length ≤ 1000000) {a : OA} (hA : At 8 (RE (plP s) 8) g a args) {Q : PHeap → Prop} {T : Prop} (hT : T) {e0 : Er} (hQ : ∀ h, KS s g cb m1 m2 gl fn { c with err := ckEs gl fn c.vis args e0 } h → Q h)
    (hl : c.vis.length ≤ 1000000) (hk : KS s g cb m1 m2 gl fn { c with err := e0 } h) :
    ∃ (I : Nat → Int → PHeap → Prop), (∃ (m2 : Nat), I m2 (0 : Int) h) ∧ ∀ (m1 : Nat) (i : Int) (h_2 : PHeap), I m1 i h_2 →
      br (decide (i < ((args.length : Nat) : Int)))
        (∃ (b1 o2 : Nat), a = some ⟨b1, o2, none⟩ ∧ (0 ≤ i ∧ i < args.length) ∧
          ∃ (i6 : Int) (l4 l5 : Bs) (i7 : Int) (l6 : Bs) (a2 : OA) (n2 k2 : Nat) (i8 i9 : Int), h_2.row b1 (o2 + (i).toNat * 8) [vI i6, vS l4, vS l5, vI i7, vS l6, vL a2 n2 k2, vI i8, vI i9] ∧
            Tri Tryz.prog 151 [vP cb 0, vA [vI i6, vS l4, vS l5, vI i7, vS l6, vL a2 n2 k2, vI i8, vI i9]] h_2 fun v_2 h_3 => v_2 = vT [] ∧ ∃ (m3 : Nat), m3 < m1 ∧ I m3 (IntKind.i64.wrap (i + 1)) h_3 ∧ T ∧ True)
        (Q h_2) := by
  refine ⟨fun m i h' => ∃ (j : Nat) (e : Er), i = j ∧ j + m = args.length ∧ KS s g cb m1 m2 gl fn { c with err := e } h' ∧ ckEs gl fn c.vis (args.drop j) e = ckEs gl fn c.vis args e0, ⟨args.length, 0, e0, rfl, by omega, hk, rfl⟩, ?_⟩
  rintro m _ h1 ⟨j, e, rfl, hjm, hk1, he⟩
  refine br_split (fun e2 => ?_) (fun e2 => ?_)
  · have hj : j < args.length := by
      have := of_decide_eq_true e2
      omega
    obtain ⟨b, o, cs, rfl, hr, hrel⟩ := hA.get hj
    have ihj := hih _ (List.getElem_mem hj) _ _ _ hrel hk1 hl
    have hr := row_ext (fun ob => hk1.ext b ob) hr
    rw [ckEs_drop hj] at he
    generalize args[j] = x at *
    match x, hrel with
    | .mk kd op nm vl tx args' pos, hrel =>
    obtain ⟨a1, c1, rfl, hA1⟩ := RE_iff.1 hrel
    refine ⟨b, o, rfl, ⟨by omega, by omega⟩, _, _, _, _, _, _, _, _, _, _, hr, ?_⟩
    refine Tri.mono ihj ?_
    rintro _ h2 ⟨rfl, hk2⟩
    refine ⟨rfl, m - 1, by omega, ⟨j + 1, _, ?_, by omega, hk2, he⟩, hT, trivial⟩
    rw [wrap64 (by omega) (by omega)]; rfl
  · have : args.length ≤ j := by
      have := of_decide_eq_false e2
      omega
    rw [List.drop_eq_nil_of_le this] at he
    exact hQ _ (KS.to hk1 he)

theorem expr_t : ∀ k e, cntE e ≤ k → k ≤ 1000000 → XE s g cb m1 m2 gl fn e := by
  intro k
  induction k with
  | zero => intro e he; have := cntE_pos e; omega
  | succ k ih =>
    intro e he hk5 cs c h hrel hk hl
    match e, he, hrel with
    | .mk kd op nm vl tx args pos, he, hrel =>
    obtain ⟨a1, c1, rfl, hA1⟩ := RE_iff.1 hrel
    simp only [cntE] at he
    have hlen := cntEs_len args
    have hih : ∀ e ∈ args, XE s g cb m1 m2 gl fn e := fun e hm => ih e (by have := cntEs_mem hm; omega) (by omega)
    refine T151 ?_
    unfold R151
    have loop := fun {T : Prop} (hT : T) {h1 : PHeap} {e0 : Er} (hk1 : KS s g cb m1 m2 gl fn { c with err := e0 } h1) (he0 : e0 = if kd = 3 ∨ kd = 4 then varC gl c.vis nm (kd == 4) pos c.err else if kd = 5 then callC fn nm args.length pos c.err else c.err) =>
      loopE (Q := fun h => vT [] = vT [] ∧ KS s g cb m1 m2 gl fn { c with err := ckE gl fn c.vis (.mk kd op nm vl tx args pos) c.err } h) hih (by omega) hA1 hT (fun h hq => ⟨rfl, KS.to hq (by rw [ckE, he0])⟩) hl hk1
    refine br_split (fun e => ?_) (fun e3 => ?_)
    · have e : kd = 3 := by have := beq_iff_eq.1 e; omega
      subst e
      refine Tri.mono (var_t hk hl nm _ pos) ?_
      rintro _ h1 ⟨rfl, hk1⟩
      exact ⟨rfl, loop rfl hk1 rfl⟩
    refine br_split (fun e => ?_) (fun e4 => ?_)
    · have e : kd = 4 := by have := beq_iff_eq.1 e; omega
      subst e
      refine Tri.mono (var_t hk hl nm _ pos) ?_
      rintro _ h1 ⟨rfl, hk1⟩
      exact ⟨rfl, loop rfl hk1 rfl⟩
    have e3 : kd ≠ 3 := fun e => by subst e; cases e3
    have e4 : kd ≠ 4 := fun e => by subst e; cases e4
    rw [if_neg (by omega)] at loop
    refine br_split (fun e => ?_) (fun e5 => ?_)
    · have e : kd = 5 := by have := beq_iff_eq.1 e; omega
      subst e
      rw [if_pos rfl] at loop
      refine Tri.mono (builtin_t nm h) ?_
      rintro _ h ⟨rfl, rfl⟩
      unfold callC at loop
      cases hbu : builtinS nm with
      | none =>
        rw [hbu] at loop
        refine ⟨_, _, _, rfl, br_pos rfl ?_⟩
        obtain ⟨a, k, hb, hv⟩ := hk.bl
        refine ⟨_, cell_of hb (0 + 1), ?_⟩
        refine Raw.mono (lookF hk.toKB rfl rfl 117) ?_
        rintro _ h ⟨rfl, rfl⟩
        refine ⟨_, _, rfl, ?_⟩
        refine Tri.mono (fail_t hk _ (some pos) 37 (by decide)) ?_
        rintro _ h1 ⟨rfl, hk1⟩
        refine ⟨rfl, br_split (fun e => ?_) (fun e => ?_)⟩
        · have e : args.length < (getT fn nm).getD 0 := by have := of_decide_eq_true e; omega
          refine Tri.mono (fail_t hk1 _ (some pos) 31 (by decide)) ?_
          rintro _ h2 ⟨rfl, hk2⟩
          refine ⟨rfl, loop rfl hk2 ?_⟩
          simp only [e, decide_true, Bool.true_or]
          cases getT fn nm <;> rfl
        · have e : ¬ args.length < (getT fn nm).getD 0 := by have := of_decide_eq_false e; omega
          refine Tri.mono (fail_t hk1 _ (some pos) 31 (by decide)) ?_
          rintro _ h2 ⟨rfl, hk2⟩
          refine ⟨rfl, loop rfl hk2 ?_⟩
          simp only [e, decide_false, Bool.false_or]
          congr 1
          · simp
          · cases getT fn nm <;> rfl
      | some x =>
        obtain ⟨lo, hi⟩ := x
        rw [hbu] at loop
        refine ⟨_, _, _, rfl, br_neg rfl ?_⟩
        refine Tri.mono (fail_t hk _ (some pos) 37 (by decide)) ?_
        rintro _ h1 ⟨rfl, hk1⟩
        have hk1 := KS.to (e' := c.err) hk1 (by unfold failC; split <;> simp_all)
        refine ⟨rfl, br_split (fun e => ?_) (fun e => ?_)⟩
        · have e : args.length < lo := by have := of_decide_eq_true e; omega
          refine Tri.mono (fail_t hk1 _ (some pos) 31 (by decide)) ?_
          rintro _ h2 ⟨rfl, hk2⟩
          refine ⟨rfl, loop rfl hk2 ?_⟩
          simp only [e, decide_true, Bool.true_or]
        · have e : ¬ args.length < lo := by have := of_decide_eq_false e; omega
          refine Tri.mono (fail_t hk1 _ (some pos) 31 (by decide)) ?_
          rintro _ h2 ⟨rfl, hk2⟩
          refine ⟨rfl, loop rfl hk2 ?_⟩
          simp only [e, decide_false, Bool.false_or]
          congr 1
          simp
    · have e5 : kd ≠ 5 := fun e => by subst e; cases e5
      rw [if_neg e5] at loop
      exact loop rfl hk rfl
end
end Go.Proofs.D
/- The checker's statements. -/
namespace Go.Sx
/-- How far the count and the names grow. -/
def Gr (n : Nat) (c c' : CS) : Prop := c.cnt ≤ c'.cnt ∧ c'.cnt ≤ c.cnt + n ∧ ∃ t, c'.vis = c.vis ++ t
theorem Gr.refl (n : Nat) (c : CS) : Gr n c c := ⟨Nat.le_refl _, Nat.le_add_right _ _, [], by simp⟩
theorem Gr.trans {n m : Nat} {c c' c'' : CS} (h : Gr n c c') (h' : Gr m c' c'') : Gr (n + m) c c'' := by
  obtain ⟨h1, h2, t, h3⟩ := h
  obtain ⟨k1, k2, u, k3⟩ := h'
  exact ⟨by omega, by omega, t ++ u, by rw [k3, h3, List.append_assoc]⟩
theorem Gr.le {n m : Nat} {c c' : CS} (h : Gr n c c') (hn : n ≤ m) : Gr m c c' := ⟨h.1, by have := h.2.1; omega, h.2.2⟩
theorem Gr.list {n : Nat} {c c' : CS} (h : Gr n c c') : Gr n c ⟨c'.err, c.vis, c'.cnt⟩ := ⟨h.1, h.2.1, [], by simp⟩
theorem Gr.err {n : Nat} {c c' : CS} {e : Er} (h : Gr n ⟨e, c.vis, c.cnt⟩ c') : Gr n c c' := h
mutual
theorem ckS_gr (gl fn : Tab) : ∀ (lp : Bool) (s : S) (c : CS), Gr (cntS s) c (ckS gl fn lp s c)
  | lp, .mk k nm args body els pos, c => by
    simp only [ckS, cntS]
    generalize ckEs gl fn c.vis args _ = e1
    split
    · exact ⟨by simp, by simp, [nm], rfl⟩
    · split
      · have h1 := ckSs_gr gl fn lp body ⟨e1, c.vis, c.cnt⟩
        have h2 := ckSs_gr gl fn lp els ⟨(ckSs gl fn lp body ⟨e1, c.vis, c.cnt⟩).err, c.vis, (ckSs gl fn lp body ⟨e1, c.vis, c.cnt⟩).cnt⟩
        exact (h1.list.trans h2.list).err.le (by omega)
      · split
        · exact (ckSs_gr gl fn true body ⟨e1, c.vis, c.cnt⟩).list.err.le (by omega)
        · exact Gr.refl _ _
theorem ckSs_gr (gl fn : Tab) : ∀ (lp : Bool) (l : List S) (c : CS), Gr (cntSs l) c (ckSs gl fn lp l c)
  | _, [], c => Gr.refl _ c
  | lp, s :: ss, c => (ckS_gr gl fn lp s c).trans (ckSs_gr gl fn lp ss _)
end
end Go.Sx
namespace Go.Proofs.D
open Go Go.Den Go.Sx
set_option maxRecDepth 100000
attribute [local irreducible] IntKind.wrap Tri parseS
section
variable {s : Bytes} {g : PHeap} {cb m1 m2 : Nat} {gl fn : Tab} {c : CS} {h h' : PHeap}

theorem KB.of (hk : KB g cb m1 m2 gl fn h) (hx : Ext g h') (h1 : h' m1 = h m1) (h2 : h' m2 = h m2) : KB g cb m1 m2 gl fn h' where
  ext := hx
  f0 := hk.f0
  f1 := hk.f1
  f2 := hk.f2
  n1 := hk.n1
  n2 := hk.n2
  n3 := hk.n3
  mg := let ⟨L, ck, g1, g2⟩ := hk.mg; ⟨L, ck, by rw [h1]; exact g1, g2⟩
  mf := let ⟨L, ck, g1, g2⟩ := hk.mf; ⟨L, ck, by rw [h2]; exact g1, g2⟩

def XT (s : Bytes) (g : PHeap) (cb m1 m2 : Nat) (gl fn : Tab) (e : S) : Prop := ∀ cs c h lp, RS (plP s) 8 7 g e cs → KS s g cb m1 m2 gl fn c h → c.cnt + cntS e ≤ 1000000 →
  Tri Tryz.prog 103 [vP cb 0, vA cs, vB lp] h fun v h' => v = vT [] ∧ KS s g cb m1 m2 gl fn (ckS gl fn lp e c) h'

theorem ckSs_drop {lp : Bool} {es : List S} {j : Nat} (hj : j < es.length) (c : CS) : ckSs gl fn lp (es.drop j) c = ckSs gl fn lp (es.drop (j + 1)) (ckS gl fn lp es[j] c) := by rw [List.drop_eq_getElem_cons hj]; rfl

/-- The names of a block are gone behind it. -/
theorem KV.cut {a a' : OA} {k : Nat} {vis t : List Bytes} (hv : KV g cb m1 m2 h a k (vis ++ t)) (hs : SlA a a' 0 k 1) : KV g cb m1 m2 h a' (k - 0) vis := by
  obtain ⟨⟨h1, h2⟩, h3⟩ := hv
  rcases h2 with ⟨h2, h4⟩ | ⟨b, cap, rest, h2, h4, h5, h6⟩
  · injection h2 with e1 e2 e3
    have hv0 : vis = [] := List.eq_nil_of_length_eq_zero (by simp at h4; have := h4.1; simp [this])
    subst hv0
    have := hs.2 e1
    subst this; subst e3
    exact ⟨⟨by simp, .inl ⟨rfl, rfl⟩⟩, fun b hb => by cases hb⟩
  · injection h2 with e1 e2 e3
    subst e3
    obtain ⟨o', e4, e5⟩ := hs.1 b 0 e1
    have := e5 (.inr rfl)
    subst this; subst e4
    refine ⟨⟨by simp, .inr ⟨b, k, t.map (fun l => vS l) ++ rest, rfl, ?_, ?_, ?_⟩⟩, fun b' hb' => h3 b' (e1.trans (by simpa using hb'))⟩
    · rw [h4]; simp
    · simp only [List.length_append, List.length_map] at h5 h6 ⊢; omega
    · simp at h6; omega

theorem list_t {es : List S} (ih : ∀ e ∈ es, XT s g cb m1 m2 gl fn e) {a : OA} {cc : Nat} (hA : At 7 (RS (plP s) 8 7) g a es) (lp : Bool) (hk : KS s g cb m1 m2 gl fn c h) (hc : c.cnt + cntSs es ≤ 1000000) :
    Tri Tryz.prog 61 [vP cb 0, vL a es.length cc, vB lp] h fun v h' => v = vT [] ∧ KS s g cb m1 m2 gl fn (ckL gl fn lp es c) h' := by
  refine T61 ?_
  unfold R61
  obtain ⟨a0, k0, hb0, hv0⟩ := hk.bl
  have hlen := cntSs_len es
  refine ⟨_, _, _, cell_of hb0 (0 + 2), ?_⟩
  refine ⟨fun m i h' => ∃ (j : Nat) (c' : CS), i = j ∧ j + m = es.length ∧ KS s g cb m1 m2 gl fn c' h' ∧ c'.cnt + cntSs (es.drop j) ≤ 1000000 ∧ ckSs gl fn lp (es.drop j) c' = ckSs gl fn lp es c, ⟨es.length, 0, c, rfl, by omega, hk, hc, rfl⟩, ?_⟩
  rintro m _ h1 ⟨j, c', rfl, hjm, hk1, hc1, he⟩
  refine br_split (fun e2 => ?_) (fun e2 => ?_)
  · have hj : j < es.length := by
      have := of_decide_eq_true e2
      omega
    obtain ⟨b, o, cs, rfl, hr, hrel⟩ := hA.get hj
    rw [cntSs_drop hj] at hc1
    have ihj := ih _ (List.getElem_mem hj) _ _ _ lp hrel hk1 (by omega)
    have hr := row_ext (fun ob => hk1.ext b ob) hr
    have hgr := (ckS_gr gl fn lp es[j] c').2.1
    rw [ckSs_drop hj] at he
    generalize es[j] = x at *
    match x, hrel with
    | .mk kd nm args body els pos, hrel =>
    obtain ⟨a1, c1, a2, c2, a3, c3, rfl, hA1, hA2, hA3⟩ := RS_iff.1 hrel
    refine ⟨b, o, rfl, ⟨by omega, by omega⟩, _, _, _, _, _, _, _, _, _, _, _, _, _, hr, ?_⟩
    refine Tri.mono ihj ?_
    rintro _ h2 ⟨rfl, hk2⟩
    refine ⟨rfl, m - 1, by omega, ⟨j + 1, _, ?_, by omega, hk2, by omega, he⟩, trivial⟩
    rw [wrap64 (by omega) (by omega)]; rfl
  · have : es.length ≤ j := by
      have := of_decide_eq_false e2
      omega
    rw [List.drop_eq_nil_of_le this] at he
    have he : c' = ckSs gl fn lp es c := he
    obtain ⟨g1, g2, t, g3⟩ := ckSs_gr gl fn lp es c
    rw [← he] at g1 g2 g3
    obtain ⟨a4, k4, hb4, hv4⟩ := hk1.bl
    have hcap : c.vis.length ≤ k4 ∧ okA a4 c'.vis.length k4 := by
      rcases hv4.1.2 with ⟨k1, k2⟩ | ⟨b, cap, rest, k1, k2, k3, k5⟩
      · injection k1 with k1 k3 k6
        have : c.vis.length = 0 := by rw [g3] at k2; simp at k2; simp [k2.1]
        exact ⟨by omega, .inr ⟨k1, k2, k6⟩⟩
      · injection k1 with k1 k3 k6
        refine ⟨?_, .inl ⟨b, 0, k1⟩⟩
        rw [g3, List.length_append] at k5; omega
    refine ⟨_, _, _, cell_of hb4 (0 + 2), ⟨hcap.2, by omega, by omega, by omega⟩, ?_⟩
    intro a7 ha7
    refine ⟨_, _, _, hb4, ⟨by simp, Nat.zero_le _⟩, ?_⟩
    intro h3 hh3
    have hx := Put.chg hh3
    rw [g3] at hv4
    refine ⟨rfl, ?_⟩
    rw [ckL, ← he]
    exact ⟨hk1.toKB.chg hx, hk1.er, by have := hk.len; show c.vis.length ≤ c'.cnt; omega, a7, k4 - 0, Put.at hh3, (hv4.cut ha7).chg hx⟩

/-- The end of a statement's check, behind its parts. -/
theorem tail_t {kd : Nat} {nm : Bytes} {body els : List S} {pos : Nat} {e1 : Er} (hih2 : ∀ e ∈ body, XT s g cb m1 m2 gl fn e) (hih3 : ∀ e ∈ els, XT s g cb m1 m2 gl fn e) {a2 a3 : OA} {c2 c3 : Nat} (hA2 : At 7 (RS (plP s) 8 7) g a2 body) (hA3 : At 7 (RS (plP s) 8 7) g a3 els) {lp : Bool}
    (hk : KS s g cb m1 m2 gl fn ⟨e1, c.vis, c.cnt⟩ h) (hc : c.cnt + (cntSs body + cntSs els + 1) ≤ 1000000) {Q : PHeap → Prop}
    (hQ : ∀ h, KS s g cb m1 m2 gl fn (if kd = 1 then ⟨failC (decide (32 ≤ c.cnt)) (some pos) 9 (failC (c.vis.contains nm) (some pos) 7 e1), c.vis ++ [nm], c.cnt + 1⟩
        else if kd = 5 then ckL gl fn lp els (ckL gl fn lp body ⟨e1, c.vis, c.cnt⟩) else if kd = 6 then ckL gl fn true body ⟨e1, c.vis, c.cnt⟩ else ⟨e1, c.vis, c.cnt⟩) h → Q h) :
    br (((kd : Nat) : Int) == 1)
     (∃ (a5 : OA) (n5 k5 : Nat), h.cell cb (0 + 2) = some (vL a5 n5 k5) ∧
       Tri Tryz.prog 102 [vL a5 n5 k5, vS nm] h fun v_3 h_4 => ∃ (c2 : Bool), v_3 = vB c2 ∧ (tv [vI ((place s pos).2 : Nat)]) ∧ (tv [vI ((place s pos).1 : Nat)]) ∧
         Tri Tryz.prog 59 [vP cb 0, vB c2, vI ((place s pos).1 : Nat), vI ((place s pos).2 : Nat), vI 7] h_4 fun v_4 h_5 => v_4 = vT [] ∧ ∃ (i9 : Int), h_5.cell cb (0 + 3) = some (vI i9) ∧
           Tri Tryz.prog 59 [vP cb 0, vB (decide (i9 ≥ 32)), vI ((place s pos).1 : Nat), vI ((place s pos).2 : Nat), vI 9] h_5 fun v_5 h_6 => v_5 = vT [] ∧ (h_6.cell cb (0 + 3) = some (vI i9)) ∧
             ∃ (a6 : OA) (n6 k6 : Nat), h_6.cell cb (0 + 2) = some (vL a6 n6 k6) ∧ ∀ (b2 : Nat), h_6 b2 = none → ∀ (h_7 : PHeap), h_7 = h_6.put b2 (.cells ⟨[vS nm]⟩ 9) → (h_7.cell cb (0 + 2) = some (vL a6 n6 k6)) ∧
               Raw Tryz.prog (execOp (rho [(78, vL a6 n6 k6), (81, vL (ad b2 0) 1 1)]) (mkO o103_10 51)) h_7 fun v_6 h_8 => ∃ (a7 : OA) (n7 k7 : Nat), v_6 = vL a7 n7 k7 ∧
                 ∃ (l5 : List Value) (t1 : TypeId) (z1 : Nat × Nat), h_8 cb = some (.cells ⟨l5⟩ t1 z1) ∧ ((0 + 2) + 1 ≤ l5.length ∧ z1.2 ≤ (0 + 2)) ∧ ∀ (h_9 : PHeap), h_9 = h_8.put cb (.cells ⟨splice l5 (0 + 2) [vL a7 n7 k7]⟩ t1 z1) →
                   ∃ (i10 : Int), h_9.cell cb (0 + 3) = some (vI i10) ∧ ∃ (l6 : List Value) (t2 : TypeId) (z2 : Nat × Nat), h_9 cb = some (.cells ⟨l6⟩ t2 z2) ∧ ((0 + 3) + 1 ≤ l6.length ∧ z2.2 ≤ (0 + 3)) ∧
                     ∀ (h_10 : PHeap), h_10 = h_9.put cb (.cells ⟨splice l6 (0 + 3) [vI (IntKind.i64.wrap (i10 + 1))]⟩ t2 z2) → Q h_10)
     (br (((kd : Nat) : Int) == 5)
       (Tri Tryz.prog 61 [vP cb 0, vL a2 body.length c2, vB lp] h fun v_7 h_11 => v_7 = vT [] ∧ Tri Tryz.prog 61 [vP cb 0, vL a3 els.length c3, vB lp] h_11 fun v_8 h_12 => v_8 = vT [] ∧ Q h_12)
       (br (((kd : Nat) : Int) == 6)
         (Tri Tryz.prog 61 [vP cb 0, vL a2 body.length c2, vB true] h fun v_9 h_13 => v_9 = vT [] ∧ Q h_13)
         (Q h))) := by
  refine br_split (fun e => ?_) (fun n1 => br_split (fun e => ?_) (fun n5 => br_split (fun e => ?_) (fun n6 => ?_)))
  · have e : kd = 1 := by have := beq_iff_eq.1 e; omega
    subst e
    rw [if_pos rfl] at hQ
    obtain ⟨a, k, hb, hv⟩ := hk.bl
    have hl : c.vis.length ≤ c.cnt := hk.len
    refine ⟨_, _, _, cell_of hb (0 + 2), ?_⟩
    refine Tri.mono (contains_tri nm hv.str (by show c.vis.length ≤ _; omega)) ?_
    rintro _ h ⟨rfl, rfl⟩
    refine ⟨_, rfl, rfl, rfl, ?_⟩
    refine Tri.mono (fail_t hk _ (some pos) 7 (by decide)) ?_
    rintro _ h1 ⟨rfl, hk1⟩
    obtain ⟨a1, k1, hb1, hv1⟩ := hk1.bl
    refine ⟨rfl, _, cell_of hb1 (0 + 3), ?_⟩
    refine Tri.mono (fail_t hk1 _ (some pos) 9 (by decide)) ?_
    rintro _ h2 ⟨rfl, hk2⟩
    have hk2 := KS.to (c := c) (e' := failC (decide (32 ≤ c.cnt)) (some pos) 9 (failC (c.vis.contains nm) (some pos) 7 e1)) hk2 (by
      have : decide (((c.cnt : Nat) : Int) ≥ 32) = decide (32 ≤ c.cnt) := by rw [Bool.eq_iff_iff]; simp; omega
      rw [← this])
    generalize hE : failC (decide (32 ≤ c.cnt)) (some pos) 9 (failC (c.vis.contains nm) (some pos) 7 e1) = e2 at *
    obtain ⟨a2, k2, hb2, hv2⟩ := hk2.bl
    refine ⟨rfl, cell_of hb2 (0 + 3), _, _, _, cell_of hb2 (0 + 2), ?_⟩
    intro b3 hb3 h3 hh3
    have hx3 := Put.ext hh3 hb3
    refine ⟨cell_of (hx3 _ _ hb2) (0 + 2), ?_⟩
    have ho : Own h3 9 1 (vL a2 c.vis.length k2) c.vis.length (c.vis.map fun l => vS l) := Own.keep (fun b hb => Put.chg hh3 b fun e => by
      subst e
      rcases hv2.1.2 with ⟨q, _⟩ | ⟨b', cap, rest, q, q', _⟩
      · injection q with q; rw [hb] at q; cases q
      · injection q with q; rw [hb] at q; injection q with q; injection q with q; subst q; rw [hb3] at q'; cases q') hv2.1
    refine Raw.mono (append_one und51 elem9 rfl rfl rfl rfl rfl ho (Put.at hh3) rfl rfl (by omega)) ?_
    rintro _ h4 ⟨b4, cap, rfl, ho4, hor, hx4⟩
    have hin : ∀ {q o}, h2 q = some o → h3 q = some o := fun {q o} hq => hx3 q o hq
    obtain ⟨L1, ck1, hm1, _⟩ := hk2.mg
    obtain ⟨L2, ck2, hm2, _⟩ := hk2.mf
    have hq4 : b4 ≠ cb ∧ b4 ≠ m1 ∧ b4 ≠ m2 ∧ g b4 = none := by
      rcases hor with hor | hor
      · refine ⟨fun e => ?_, fun e => ?_, fun e => ?_, ?_⟩
        · subst e; rw [hin hb2] at hor; cases hor
        · subst e; rw [hin hm1] at hor; cases hor
        · subst e; rw [hin hm2] at hor; cases hor
        · cases hg : g b4 with
          | none => rfl
          | some o => rw [hin (hk2.ext _ _ hg)] at hor; cases hor
      · exact hv2.2 _ hor
    have hB4 : KB g cb m1 m2 gl fn h4 := hk2.toKB.of (fun k o hk => by
        rw [hx4 k (fun e => by subst e; rw [hq4.2.2.2] at hk; cases hk)]; exact hin (hk2.ext _ _ hk))
      (by rw [hx4 _ hq4.2.1.symm, hin hm1, hm1]) (by rw [hx4 _ hq4.2.2.1.symm, hin hm2, hm2])
    have hb4 := (hx4 _ hq4.1.symm).trans (hin hb2)
    refine ⟨_, _, _, rfl, _, _, _, hb4, ⟨by simp, Nat.zero_le _⟩, ?_⟩
    intro h5 hh5
    refine ⟨_, cell_of (Put.at hh5) (0 + 3), _, _, _, Put.at hh5, ⟨by simp [splice], Nat.zero_le _⟩, ?_⟩
    intro h6 hh6
    have hx := (Put.chg hh5).trans (Put.chg hh6)
    refine hQ _ ⟨hB4.chg hx, hk2.er, by simp; omega, ad b4 0, cap, ?_, KV.chg (h := h4) ⟨?_, fun b hb => ?_⟩ hx⟩
    · have := Put.at hh6
      rw [wrap64 (by show (-9223372036854775808 : Int) ≤ (c.cnt : Int) + 1; omega) (by show (c.cnt : Int) + 1 ≤ _; omega)] at this
      rw [this, List.length_append]; rfl
    · rw [List.length_append, List.map_append]; exact ho4
    · injection hb with hb; injection hb with hb; subst hb; exact hq4
  · have e : kd = 5 := by have := beq_iff_eq.1 e; omega
    subst e
    rw [if_neg (by decide), if_pos rfl] at hQ
    refine Tri.mono (list_t hih2 hA2 lp hk (by show c.cnt + _ ≤ _; omega)) ?_
    rintro _ h1 ⟨rfl, hk1⟩
    have hg := (ckSs_gr gl fn lp body ⟨e1, c.vis, c.cnt⟩).2.1
    refine ⟨rfl, ?_⟩
    refine Tri.mono (list_t hih3 hA3 lp hk1 (by show (ckSs gl fn lp body ⟨e1, c.vis, c.cnt⟩).cnt + _ ≤ _; simp only at hg; omega)) ?_
    rintro _ h2 ⟨rfl, hk2⟩
    exact ⟨rfl, hQ _ hk2⟩
  · have e : kd = 6 := by have := beq_iff_eq.1 e; omega
    subst e
    rw [if_neg (by decide), if_neg (by decide), if_pos rfl] at hQ
    refine Tri.mono (list_t hih2 hA2 true hk (by show c.cnt + _ ≤ _; omega)) ?_
    rintro _ h1 ⟨rfl, hk1⟩
    exact ⟨rfl, hQ _ hk1⟩
  · have n1 : kd ≠ 1 := fun e => by subst e; cases n1
    have n5 : kd ≠ 5 := fun e => by subst e; cases n5
    have n6 : kd ≠ 6 := fun e => by subst e; cases n6
    rw [if_neg n1, if_neg n5, if_neg n6] at hQ
    exact hQ _ hk

theorem stmt_t : ∀ k e, cntS e ≤ k → XT s g cb m1 m2 gl fn e := by
  intro k
  induction k with
  | zero => intro e he; have := cntS_pos e; omega
  | succ k ih =>
    intro e he cs c h lp hrel hk hc
    match e, he, hrel, hc with
    | .mk kd nm args body els pos, he, hrel, hc =>
    obtain ⟨a1, c1, a2, c2, a3, c3, rfl, hA1, hA2, hA3⟩ := RS_iff.1 hrel
    simp only [cntS] at he hc
    have hlen := cntEs_len args
    have hvl := hk.len
    have hih : ∀ e ∈ args, XE s g cb m1 m2 gl fn e := fun e hm => expr_t _ e (Nat.le_refl _) (by have := cntEs_mem hm; omega)
    have hih2 : ∀ e ∈ body, XT s g cb m1 m2 gl fn e := fun e hm => ih e (by have := cntSs_mem hm; omega)
    have hih3 : ∀ e ∈ els, XT s g cb m1 m2 gl fn e := fun e hm => ih e (by have := cntSs_mem hm; omega)
    refine T103 ?_
    unfold R103
    obtain ⟨pre, hpre⟩ : ∃ pre, pre = if kd = 2 ∨ kd = 3 then varC gl c.vis nm (kd == 3) pos c.err else if kd = 8 ∨ kd = 9 then failC (!lp) (some pos) 10 c.err else c.err := ⟨_, rfl⟩
    have hck : ckS gl fn lp (.mk kd nm args body els pos) c = if kd = 1 then ⟨failC (decide (32 ≤ c.cnt)) (some pos) 9 (failC (c.vis.contains nm) (some pos) 7 (ckEs gl fn c.vis args pre)), c.vis ++ [nm], c.cnt + 1⟩
        else if kd = 5 then ckL gl fn lp els (ckL gl fn lp body ⟨ckEs gl fn c.vis args pre, c.vis, c.cnt⟩) else if kd = 6 then ckL gl fn true body ⟨ckEs gl fn c.vis args pre, c.vis, c.cnt⟩ else ⟨ckEs gl fn c.vis args pre, c.vis, c.cnt⟩ := by
      rw [hpre]; rfl
    rw [hck]
    clear hck
    have hl : c.vis.length ≤ 1000000 := by omega
    refine br_split (fun e => ?_) (fun n2 => br_split (fun e => ?_) (fun n3 => br_split (fun e => ?_) (fun n8 => br_split (fun e => ?_) (fun n9 => ?_))))
    · have e : kd = 2 := by have := beq_iff_eq.1 e; omega
      refine Tri.mono (var_t hk hl nm _ pos) ?_
      rintro _ h1 ⟨rfl, hk1⟩
      refine ⟨rfl, loopE hih (by omega) hA1 rfl (fun h2 hq => ?_) hl (KS.to (e' := pre) hk1 (by rw [hpre, e]; rfl))⟩
      exact tail_t hih2 hih3 hA2 hA3 hq (by omega) fun h hq => ⟨rfl, hq⟩
    · have e : kd = 3 := by have := beq_iff_eq.1 e; omega
      refine Tri.mono (var_t hk hl nm _ pos) ?_
      rintro _ h1 ⟨rfl, hk1⟩
      refine ⟨rfl, loopE hih (by omega) hA1 rfl (fun h2 hq => ?_) hl (KS.to (e' := pre) hk1 (by rw [hpre, e]; rfl))⟩
      exact tail_t hih2 hih3 hA2 hA3 hq (by omega) fun h hq => ⟨rfl, hq⟩
    · have e : kd = 8 := by have := beq_iff_eq.1 e; omega
      refine Tri.mono (fail_t hk _ (some pos) 10 (by decide)) ?_
      rintro _ h1 ⟨rfl, hk1⟩
      refine ⟨rfl, loopE hih (by omega) hA1 rfl (fun h2 hq => ?_) hl (KS.to (e' := pre) hk1 (by rw [hpre, e]; rfl))⟩
      exact tail_t hih2 hih3 hA2 hA3 hq (by omega) fun h hq => ⟨rfl, hq⟩
    · have e : kd = 9 := by have := beq_iff_eq.1 e; omega
      refine Tri.mono (fail_t hk _ (some pos) 10 (by decide)) ?_
      rintro _ h1 ⟨rfl, hk1⟩
      refine ⟨rfl, loopE hih (by omega) hA1 rfl (fun h2 hq => ?_) hl (KS.to (e' := pre) hk1 (by rw [hpre, e]; rfl))⟩
      exact tail_t hih2 hih3 hA2 hA3 hq (by omega) fun h hq => ⟨rfl, hq⟩
    · have n2 : kd ≠ 2 := fun e => by subst e; cases n2
      have n3 : kd ≠ 3 := fun e => by subst e; cases n3
      have n8 : kd ≠ 8 := fun e => by subst e; cases n8
      have n9 : kd ≠ 9 := fun e => by subst e; cases n9
      refine loopE hih (by omega) hA1 rfl (fun h2 hq => ?_) hl (KS.to (e' := pre) hk (by rw [hpre, if_neg (by omega), if_neg (by omega)]))
      exact tail_t hih2 hih3 hA2 hA3 hq (by omega) fun h hq => ⟨rfl, hq⟩
end
end Go.Proofs.D
/- The checker's globals and functions; the whole check. -/
namespace Go.Proofs.D
open Go Go.Den Go.Sx
set_option maxRecDepth 100000
attribute [local irreducible] IntKind.wrap Tri parseS
section
variable {s : Bytes} {g : PHeap} {cb m1 m2 : Nat} {gl fn : Tab} {c : CS} {h h' : PHeap}

theorem KV.away {a : OA} {k q : Nat} {vis : List Bytes} (hk : KV g cb m1 m2 h a k vis) (hq : q = m1 ∨ q = m2) (x : Chg q h h') : KV g cb m1 m2 h' a k vis :=
  ⟨Own.keep (fun b hb => x b (by have := hk.2 b hb; rcases hq with rfl | rfl; exact this.2.1; exact this.2.2.1)) hk.1, hk.2⟩

theorem updG (hk : KS s g cb m1 m2 gl fn c h) {ρ : Operand → Value} {m k v : Operand} {l nm : Bytes} {z : Nat} {i1 i2 i3 : Int} (hm : ρ m = vM m1) (hl : ρ k = vS l) (hv : ρ v = vA [vS nm, vI z, vI i1, vI i2, vI i3]) (ty : TypeId) :
    Raw Tryz.prog (execOp ρ (mkO (.mapUpdate 111 m k v) ty)) h fun v h' => v = vT [] ∧ KS s g cb m1 m2 ((l, z) :: gl) fn c h' := by
  obtain ⟨L, ck, h1, h2⟩ := hk.mg
  refine Raw.mono (raw_updS (.inl rfl) und111 rfl hm hl hv h1) ?_
  rintro _ h' ⟨rfl, ck', rfl, _⟩
  have hx := Chg.put m1 h (.map ⟨ents (mapSet l (vA [vS nm, vI z, vI i1, vI i2, vI i3]) ck L)⟩ ck')
  obtain ⟨a, k, hb, hv⟩ := hk.bl
  refine ⟨rfl, ⟨⟨ext_away hk.f1 hk.ext hx.away, hk.f0, hk.f1, hk.f2, hk.n1, hk.n2, hk.n3, ⟨_, _, put_same _ _ _, fun n => ?_⟩, ?_⟩, hk.er, hk.len, a, k, ?_, hv.away (.inl rfl) hx⟩⟩
  · simp only [getT, mapGet_set]
    have := h2 n
    by_cases e : (n == l) = true
    · rw [if_pos e, if_pos e]; exact ⟨_, _, _, _, rfl⟩
    · rw [if_neg e, if_neg e]; exact this
  · obtain ⟨L2, ck2, g1, g2⟩ := hk.mf
    exact ⟨L2, ck2, by rw [hx _ hk.n3.symm]; exact g1, g2⟩
  · rw [hx _ hk.n1.symm]; exact hb
theorem updF (hk : KS s g cb m1 m2 gl fn c h) {ρ : Operand → Value} {m k v : Operand} {l : Bytes} {z : Nat} (hm : ρ m = vM m2) (hl : ρ k = vS l) (hv : ρ v = vI z) (ty : TypeId) :
    Raw Tryz.prog (execOp ρ (mkO (.mapUpdate 112 m k v) ty)) h fun v h' => v = vT [] ∧ KS s g cb m1 m2 gl ((l, z) :: fn) c h' := by
  obtain ⟨L, ck, h1, h2⟩ := hk.mf
  refine Raw.mono (raw_updS (.inl rfl) und112 rfl hm hl hv h1) ?_
  rintro _ h' ⟨rfl, ck', rfl, _⟩
  have hx := Chg.put m2 h (.map ⟨ents (mapSet l (vI z) ck L)⟩ ck')
  obtain ⟨a, k, hb, hv⟩ := hk.bl
  refine ⟨rfl, ⟨⟨ext_away hk.f2 hk.ext hx.away, hk.f0, hk.f1, hk.f2, hk.n1, hk.n2, hk.n3, ?_, ⟨_, _, put_same _ _ _, fun n => ?_⟩⟩, hk.er, hk.len, a, k, ?_, hv.away (.inr rfl) hx⟩⟩
  · obtain ⟨L2, ck2, g1, g2⟩ := hk.mg
    exact ⟨L2, ck2, by rw [hx _ hk.n3]; exact g1, g2⟩
  · simp only [getT, mapGet_set]
    have := h2 n
    by_cases e : (n == l) = true
    · rw [if_pos e, if_pos e]; rfl
    · rw [if_neg e, if_neg e]; exact this
  · rw [hx _ hk.n2.symm]; exact hb

theorem ge_cast (i n : Nat) : decide (((i : Nat) : Int) ≥ (n : Nat)) = decide (n ≤ i) := by rw [Bool.eq_iff_iff]; simp
theorem gt_cast (i n : Nat) : decide (((i : Nat) : Int) > (n : Nat)) = decide (n < i) := by rw [Bool.eq_iff_iff]; simp

theorem global_t (hk : KS s g cb m1 m2 gl fn c h) (i : Nat) (x : G) : Tri Tryz.prog 57 [vP cb 0, vI i, vA [vS x.name, vI x.size, vI x.value, vI (place s x.pos).1, vI (place s x.pos).2]] h
    fun v h' => v = vT [] ∧ KS s g cb m1 m2 ((x.name, x.size) :: gl) fn { c with err := ckG i gl x c.err } h' := by
  refine T57 ?_
  unfold R57
  obtain ⟨a, k, hb, hv⟩ := hk.bl
  refine ⟨_, cell_of hb 0, ?_, rfl, cell_of hb 0, ?_⟩
  all_goals
    refine Raw.mono (lookG hk.toKB rfl rfl 181) ?_
    rintro _ h ⟨rfl, _, _, _, _, rfl⟩
    refine ⟨_, _, _, _, _, _, rfl, ?_⟩
    refine Tri.mono (fail_t hk _ (some x.pos) 9 (by decide)) ?_
    rintro _ h1 ⟨rfl, hk1⟩
    refine ⟨rfl, br_split (fun e => ?_) (fun e => ?_)⟩
    · refine ⟨rfl, rfl, ?_⟩
      refine Tri.mono (fail_t hk1 _ (some x.pos) 7 (by decide)) ?_
      rintro _ h2 ⟨rfl, hk2⟩
      refine ⟨rfl, br_neg (by simp) ?_⟩
      refine Tri.mono (fail_t hk2 _ (some x.pos) 2 (by decide)) ?_
      rintro _ h3 ⟨rfl, hk3⟩
      obtain ⟨a3, k3, hb3, hv3⟩ := hk3.bl
      refine ⟨rfl, _, cell_of hb3 0, ?_⟩
      refine Raw.mono (updG hk3 rfl rfl rfl 0) ?_
      rintro _ h4 ⟨rfl, hk4⟩
      refine ⟨rfl, rfl, KS.to hk4 ?_⟩
      simp only [ckG, e, Bool.true_or]
      rw [← ge_cast, ← gt_cast]; rfl
    · refine Tri.mono (isBuiltin_t x.name h1) ?_
      rintro _ h1 ⟨rfl, rfl⟩
      refine ⟨_, rfl, rfl, rfl, ?_⟩
      refine Tri.mono (fail_t hk1 _ (some x.pos) 7 (by decide)) ?_
      rintro _ h2 ⟨rfl, hk2⟩
      refine ⟨rfl, br_neg (by simp) ?_⟩
      refine Tri.mono (fail_t hk2 _ (some x.pos) 2 (by decide)) ?_
      rintro _ h3 ⟨rfl, hk3⟩
      obtain ⟨a3, k3, hb3, hv3⟩ := hk3.bl
      refine ⟨rfl, _, cell_of hb3 0, ?_⟩
      refine Raw.mono (updG hk3 rfl rfl rfl 0) ?_
      rintro _ h4 ⟨rfl, hk4⟩
      refine ⟨rfl, rfl, KS.to hk4 ?_⟩
      simp only [ckG, e, Bool.false_or]
      rw [← ge_cast, ← gt_cast]; rfl

/-- The loop over the parameters. -/
theorem loopP {ps : List Bytes} {a : OA} {ac pos : Nat} (hA : At 1 RStr g a ps) (hok : okN a ps.length ac) (hlen : ps.length ≤ 1000000) {Q : PHeap → Prop} {T1 T2 T3 T4 T5 : Prop} (t1 : T1) (t2 : T2) (t3 : T3) (t4 : T4) (t5 : T5) {e0 : Er}
    (hQ : ∀ h, KS s g cb m1 m2 gl fn { c with err := ckPs pos [] ps e0 } h → Q h) (hk : KS s g cb m1 m2 gl fn { c with err := e0 } h) :
    ∃ (I : Nat → Int → PHeap → Prop), (∃ (m2 : Nat), I m2 (0 : Int) h) ∧ ∀ (m1 : Nat) (i : Int) (h_6 : PHeap), I m1 i h_6 →
      br (decide (i < ((ps.length : Nat) : Int)))
        (∃ (b1 o2 : Nat), a = some ⟨b1, o2, none⟩ ∧ (0 ≤ i ∧ i < ps.length) ∧ ∃ (l3 : Bs), h_6.cell b1 (o2 + (i).toNat * 1) = some (vS l3) ∧
          (okA a ps.length ac ∧ 0 ≤ (0 : Int) ∧ (0 : Int) ≤ i ∧ i ≤ ac) ∧ ∀ (a3 : OA), SlA a a3 0 ac 1 →
          Tri Tryz.prog 102 [vL a3 ((i).toNat - 0) (ac - 0), vS l3] h_6 fun v_6 h_7 => ∃ (c3 : Bool), v_6 = vB c3 ∧ T1 ∧ T2 ∧ T3 ∧
            Tri Tryz.prog 59 [vP cb 0, vB c3, vI ((place s pos).1 : Nat), vI ((place s pos).2 : Nat), vI 7] h_7 fun v_7 h_8 => v_7 = vT [] ∧ T3 ∧ ∃ (m5 : Nat), m5 < m1 ∧ I m5 (IntKind.i64.wrap (i + 1)) h_8 ∧ T4 ∧ T5 ∧ True)
        (Q h_6) := by
  refine ⟨fun m i h' => ∃ (j : Nat) (e : Er), i = j ∧ j + m = ps.length ∧ KS s g cb m1 m2 gl fn { c with err := e } h' ∧ ckPs pos (ps.take j) (ps.drop j) e = ckPs pos [] ps e0, ⟨ps.length, 0, e0, rfl, by omega, hk, rfl⟩, ?_⟩
  rintro m _ h1 ⟨j, e, rfl, hjm, hk1, he⟩
  refine br_split (fun e2 => ?_) (fun e2 => ?_)
  · have hj : j < ps.length := by
      have := of_decide_eq_true e2
      omega
    rcases hA with hA | ⟨b, o, rfl, hA⟩
    · subst hA; simp at hj
    have hcell : ∀ q l, ps[q]? = some l → h1.cell b (o + q) = some (vS l) := fun q l hq => by
      obtain ⟨cs, g1, g2⟩ := hA q l hq
      have g2 : cs = [vS l] := g2
      subst g2
      have : h1.cell b (o + q * 1) = some (vS l) := row_ext (fun ob => hk1.ext b ob) g1
      rwa [Nat.mul_one] at this
    refine ⟨b, o, rfl, ⟨by omega, by omega⟩, ps[j], ?_, ⟨.inl ⟨b, o, rfl⟩, by omega, by omega, by have := hok.1; omega⟩, ?_⟩
    · have := hcell j _ (List.getElem?_eq_getElem hj)
      simpa using this
    intro a3 ha3
    obtain ⟨o', rfl, ho'⟩ := ha3.1 b o rfl
    have ho' := ho' (.inr rfl)
    have hstr : StrAt h1 (ad b o') (ps.take j) := .inr ⟨b, o', rfl, fun q l hq => by
      have hq' : q < j := by
        have := (List.getElem?_eq_some_iff.1 hq).1
        simp at this; omega
      rw [ho', Nat.zero_mul, Nat.add_zero]
      rw [List.getElem?_take_of_lt hq'] at hq
      exact hcell q l hq⟩
    have hct := contains_tri (c := ac - 0) ps[j] hstr (by simp; omega)
    rw [show (ps.take j).length = (((j : Nat) : Int)).toNat - 0 by simp; omega] at hct
    refine Tri.mono hct ?_
    rintro _ h1 ⟨rfl, rfl⟩
    refine ⟨_, rfl, t1, t2, t3, ?_⟩
    refine Tri.mono (fail_t hk1 _ (some pos) 7 (by decide)) ?_
    rintro _ h2 ⟨rfl, hk2⟩
    refine ⟨rfl, t3, m - 1, by omega, ⟨j + 1, _, ?_, by omega, hk2, ?_⟩, t4, t5, trivial⟩
    · rw [wrap64 (by omega) (by omega)]; rfl
    · rw [← he, List.drop_eq_getElem_cons hj, ckPs, ← List.take_append_getElem hj]
  · have : ps.length ≤ j := by
      have := of_decide_eq_false e2
      omega
    rw [List.drop_eq_nil_of_le this] at he
    exact hQ _ (KS.to hk1 he)

theorem function_t (hk : KS s g cb m1 m2 gl fn c h) (i : Nat) (x : F) {a a2 : OA} {ac c2 : Nat} (hA : At 1 RStr g a x.params) (hok : okN a x.params.length ac) (hlen : x.params.length ≤ 1000000) :
    Tri Tryz.prog 58 [vP cb 0, vI i, vA [vS x.name, vL a x.params.length ac, vL a2 x.body.length c2, vI (place s x.pos).1, vI (place s x.pos).2]] h
    fun v h' => v = vT [] ∧ KS s g cb m1 m2 gl ((x.name, x.params.length) :: fn) { c with err := ckF i gl fn x c.err } h' := by
  refine T58 ?_
  unfold R58
  obtain ⟨a0, k0, hb, hv⟩ := hk.bl
  have fin : ∀ {h : PHeap}, KS s g cb m1 m2 gl fn { c with err := ckF i gl fn x c.err } h → ∃ (m6 : Nat), h.cell cb (0 + 1) = some (vM m6) ∧
      Raw Tryz.prog (execOp (rho [(89, vM m6), (91, vS x.name), (94, vI ((x.params.length : Nat) : Int))]) (mkO o58_10 0)) h fun v_8 h_9 => v_8 = vT [] ∧ vT [] = vT [] ∧ KS s g cb m1 m2 gl ((x.name, x.params.length) :: fn) { c with err := ckF i gl fn x c.err } h_9 := fun {h} hk => by
    obtain ⟨a3, k3, hb3, hv3⟩ := hk.bl
    refine ⟨_, cell_of hb3 (0 + 1), ?_⟩
    refine Raw.mono (updF hk rfl rfl rfl 0) ?_
    rintro _ h4 ⟨rfl, hk4⟩
    exact ⟨rfl, rfl, hk4⟩
  refine ⟨_, cell_of hb 0, ?_, rfl, cell_of hb 0, ?_⟩
  all_goals
    refine Raw.mono (lookG hk.toKB rfl rfl 181) ?_
    rintro _ h ⟨rfl, _, _, _, _, rfl⟩
    refine ⟨_, _, _, _, _, _, rfl, _, cell_of hb (0 + 1), ?_⟩
    refine Raw.mono (lookF hk.toKB rfl rfl 117) ?_
    rintro _ h ⟨rfl, rfl⟩
    refine ⟨_, _, rfl, ?_⟩
    refine Tri.mono (fail_t hk _ (some x.pos) 9 (by decide)) ?_
    rintro _ h1 ⟨rfl, hk1⟩
    refine ⟨rfl, br_split (fun e => ?_) (fun e => br_split (fun e' => ?_) (fun e' => ?_))⟩
    · refine ⟨rfl, rfl, ?_⟩
      refine Tri.mono (fail_t hk1 _ (some x.pos) 7 (by decide)) ?_
      rintro _ h2 ⟨rfl, hk2⟩
      refine ⟨rfl, ?_⟩
      refine Tri.mono (fail_t hk2 _ (some x.pos) 9 (by decide)) ?_
      rintro _ h3 ⟨rfl, hk3⟩
      refine ⟨rfl, loopP (pos := x.pos) hA hok hlen rfl rfl rfl rfl rfl (fun h hq => fin (KS.to hq ?_)) hk3⟩
      simp only [ckF, e, Bool.true_or]
      rw [← ge_cast, ← gt_cast]; rfl
    · refine ⟨rfl, rfl, ?_⟩
      refine Tri.mono (fail_t hk1 _ (some x.pos) 7 (by decide)) ?_
      rintro _ h2 ⟨rfl, hk2⟩
      refine ⟨rfl, ?_⟩
      refine Tri.mono (fail_t hk2 _ (some x.pos) 9 (by decide)) ?_
      rintro _ h3 ⟨rfl, hk3⟩
      refine ⟨rfl, loopP (pos := x.pos) hA hok hlen rfl rfl rfl rfl rfl (fun h hq => fin (KS.to hq ?_)) hk3⟩
      simp only [ckF, e, e', Bool.true_or, Bool.or_true]
      rw [← ge_cast, ← gt_cast]; rfl
    · refine Tri.mono (isBuiltin_t x.name h1) ?_
      rintro _ h1 ⟨rfl, rfl⟩
      refine ⟨_, rfl, rfl, rfl, ?_⟩
      refine Tri.mono (fail_t hk1 _ (some x.pos) 7 (by decide)) ?_
      rintro _ h2 ⟨rfl, hk2⟩
      refine ⟨rfl, ?_⟩
      refine Tri.mono (fail_t hk2 _ (some x.pos) 9 (by decide)) ?_
      rintro _ h3 ⟨rfl, hk3⟩
      refine ⟨rfl, loopP (pos := x.pos) hA hok hlen rfl rfl rfl rfl rfl (fun h hq => fin (KS.to hq ?_)) hk3⟩
      simp only [ckF, e, e', Bool.false_or]
      rw [← ge_cast, ← gt_cast]; rfl

theorem clone_t {L : List Bytes} {a : OA} {ac : Nat} (hs : StrAt h a L) (hok : okN a L.length ac) (hl : L.length ≤ 1000000) :
    Tri Tryz.prog 60 [vL a L.length ac] h fun v h' => ∃ a' k', v = vL a' L.length k' ∧ Own h' 9 1 (vL a' L.length k') L.length (L.map fun l => vS l) ∧ Ext h h' ∧ ∀ b, a' = ad b 0 → h b = none := by
  by_cases h0 : L.length = 0
  · obtain ⟨rfl, rfl⟩ := hok.2 h0
    obtain rfl := List.eq_nil_of_length_eq_zero h0
    refine T60n ?_
    unfold R60n
    exact ⟨none, 0, rfl, ⟨by simp, .inl ⟨rfl, rfl⟩⟩, Ext.refl _, fun b hb => by cases hb⟩
  rcases hs with hs | ⟨b, o, rfl, hs⟩
  · subst hs; simp at h0
  refine T60p ?_
  unfold R60p
  intro b2 hb2 h1 hh1
  have hx1 := Put.ext hh1 hb2
  have hrow : h1.row b o (L.map fun l => vS l) := Go.Den.row_of _ _ fun j v hj => by
    rw [List.getElem?_map] at hj
    cases hL : L[j]? with
    | none => rw [hL] at hj; cases hj
    | some l => rw [hL] at hj; cases hj; exact cell_ext (fun ob => hx1 b ob) (hs j l hL)
  have hone : allOne (L.map fun l => vS l) = true := by
    clear hs h0 hok hl hrow
    induction L with
    | nil => rfl
    | cons x L ih => exact ih
  refine Raw.mono (raw_append (i := Tryz.t9) rfl rfl rfl und51 rfl rfl rfl rfl (n := 0) (xs := []) ⟨by simp, .inr ⟨b2, 0, [], rfl, Put.at hh1, by simp, by omega⟩⟩ (SrcH.row und51 (by rw [List.length_map]; show L.length = L.length * 1; omega) hrow hone) rfl (by omega) (by show (16 * (0 + L.length) + 16384) * 16 ≤ _; omega) (by omega)) ?_
  rintro _ h2 ⟨b', cap, rest, rfl, rfl, hr, hcap, hb'⟩
  have hn : h b' = none := by
    rcases hb' with hb' | ⟨_, hb'⟩
    · cases hh : h b' with
      | none => rfl
      | some o => rw [hx1 _ _ hh] at hb'; cases hb'
    · injection hb' with hb'; injection hb' with hb'; injection hb' with hb'; subst hb'; exact hb2
  refine ⟨_, _, _, rfl, _, _, by rw [Nat.zero_add], ⟨by simp, .inr ⟨b', cap, rest, rfl, by rw [put_same]; rfl, ?_, by omega⟩⟩, ?_, fun q hq => ?_⟩
  · rw [hr, Nat.zero_add]; rfl
  · intro k o hk
    rw [put_ne (fun e => by subst e; rw [hn] at hk; cases hk)]
    exact hx1 _ _ hk
  · injection hq with hq; injection hq with hq; subst hq; exact hn
end
end Go.Proofs.D
/- The whole check. -/
namespace Go.Proofs.D
open Go Go.Den Go.Sx
set_option maxRecDepth 100000
attribute [local irreducible] IntKind.wrap Tri parseS
section
variable {s : Bytes} {g : PHeap} {cb m1 m2 : Nat} {gl fn : Tab} {c : CS} {h h' : PHeap}

theorem RStr_str {h : PHeap} {a : OA} {L : List Bytes} (hA : At 1 RStr h a L) : StrAt h a L := by
  rcases hA with hA | ⟨b, o, ha, hA⟩
  · exact .inl hA
  · refine .inr ⟨b, o, ha, fun j l hj => ?_⟩
    obtain ⟨cs, g1, g2⟩ := hA j l hj
    have g2 : cs = [vS l] := g2
    subst g2
    have : h.cell b (o + j * 1) = some (vS l) := g1
    rwa [Nat.mul_one] at this

/-- The loop over the functions' bodies. -/
theorem loopB {fs : List F} (hc : cntFs fs ≤ 10000) {fa : OA} (hF : At 5 (RF (plP s) 8 7) g fa fs) {Q : PHeap → Prop} {T : Prop} (hT : T)
    (hk : KS s g cb m1 m2 gl fn c h) (hQ : ∀ h c', KS s g cb m1 m2 gl fn c' h → c'.err = ckB gl fn fs c.err → Q h) :
    ∃ (I_3 : Nat → Int → PHeap → Prop), (∃ (m11 : Nat), I_3 m11 (0 : Int) h) ∧ ∀ (m10 : Nat) (i10 : Int) (h_11 : PHeap), I_3 m10 i10 h_11 →
      br (decide (i10 < ((fs.length : Nat) : Int)))
        (∃ (b4 o3 : Nat), fa = some ⟨b4, o3, none⟩ ∧ (0 ≤ i10 ∧ i10 < fs.length) ∧
          ∃ (l3 : Bs) (a5 : OA) (n5 k5 : Nat) (a6 : OA) (n6 k6 : Nat) (i11 i12 : Int), h_11.row b4 (o3 + (i10).toNat * 5) [vS l3, vL a5 n5 k5, vL a6 n6 k6, vI i11, vI i12] ∧
          Tri Tryz.prog 60 [vL a5 n5 k5] h_11 fun v_8 h_12 => ∃ (a7 : OA) (n7 k7 : Nat), v_8 = vL a7 n7 k7 ∧
            ∃ (l4 : List Value) (t1 : TypeId) (z1 : Nat × Nat), h_12 cb = some (.cells ⟨l4⟩ t1 z1) ∧ (2 + 1 ≤ l4.length ∧ z1.2 ≤ 2) ∧ ∀ (h_13 : PHeap), h_13 = h_12.put cb (.cells ⟨splice l4 2 [vL a7 n7 k7]⟩ t1 z1) →
              ∃ (l5 : List Value) (t2 : TypeId) (z2 : Nat × Nat), h_13 cb = some (.cells ⟨l5⟩ t2 z2) ∧ (3 + 1 ≤ l5.length ∧ z2.2 ≤ 3) ∧ ∀ (h_14 : PHeap), h_14 = h_13.put cb (.cells ⟨splice l5 3 [vI ((n5 : Nat) : Int)]⟩ t2 z2) →
                Tri Tryz.prog 61 [vP cb 0, vL a6 n6 k6, vB false] h_14 fun v_9 h_15 => v_9 = vT [] ∧ ∃ (m12 : Nat), m12 < m10 ∧ I_3 m12 (IntKind.i64.wrap (i10 + 1)) h_15 ∧ T ∧ True)
        (Q h_11) := by
  have hlen := cntFs_len fs
  refine ⟨fun m i h' => ∃ (j : Nat) (c' : CS), i = j ∧ j + m = fs.length ∧ KS s g cb m1 m2 gl fn c' h' ∧ ckB gl fn (fs.drop j) c'.err = ckB gl fn fs c.err, ⟨fs.length, 0, c, rfl, by omega, hk, rfl⟩, ?_⟩
  rintro m _ h1 ⟨j, c', rfl, hjm, hk1, he⟩
  refine br_split (fun e2 => ?_) (fun e2 => ?_)
  · have hj : j < fs.length := by
      have := of_decide_eq_true e2
      omega
    obtain ⟨b, o, cs, rfl, hr, hrel⟩ := hF.get hj
    have hcj := cntFs_mem (List.getElem_mem hj)
    rw [List.drop_eq_getElem_cons hj, ckB] at he
    generalize fs[j] = x at *
    obtain ⟨a1, c1, a2, c2, rfl, hP, hB, hok⟩ := hrel
    simp only [cntF] at hcj
    refine ⟨b, o, rfl, ⟨by omega, by omega⟩, _, _, _, _, _, _, _, _, _, row_ext (fun ob => hk1.ext b ob) hr, ?_⟩
    refine Tri.mono (clone_t ((RStr_str hP).ext hk1.ext) hok (by omega)) ?_
    rintro _ h2 ⟨a', k', rfl, ho2, hx2, hf2⟩
    obtain ⟨a0, k0, hb0, hv0⟩ := hk1.bl
    refine ⟨_, _, _, rfl, _, _, _, hx2 _ _ hb0, ⟨by simp, Nat.zero_le _⟩, ?_⟩
    intro h3 hh3
    refine ⟨_, _, _, Put.at hh3, ⟨by simp [splice], Nat.zero_le _⟩, ?_⟩
    intro h4 hh4
    have hx4 := (Put.chg hh3).trans (Put.chg hh4)
    obtain ⟨L1, ck1, hm1, _⟩ := hk1.mg
    obtain ⟨L2, ck2, hm2, _⟩ := hk1.mf
    have hB2 : KB g cb m1 m2 gl fn h2 := hk1.toKB.of (hk1.ext.trans hx2) (by rw [hx2 _ _ hm1, hm1]) (by rw [hx2 _ _ hm2, hm2])
    have hv2 : KV g cb m1 m2 h2 a' k' x.params := ⟨ho2, fun q hq => by
      have hn := hf2 q hq
      refine ⟨fun e => ?_, fun e => ?_, fun e => ?_, ?_⟩
      · subst e; rw [hb0] at hn; cases hn
      · subst e; rw [hm1] at hn; cases hn
      · subst e; rw [hm2] at hn; cases hn
      · cases hg : g q with
        | none => rfl
        | some o => rw [hk1.ext _ _ hg] at hn; cases hn⟩
    have hk4 : KS s g cb m1 m2 gl fn ⟨c'.err, x.params, x.params.length⟩ h4 := ⟨hB2.chg hx4, hk1.er, Nat.le_refl _, a', k', Put.at hh4, hv2.chg hx4⟩
    refine Tri.mono (list_t (fun e _ => stmt_t _ e (Nat.le_refl _)) hB false hk4 (by show x.params.length + cntSs x.body ≤ _; omega)) ?_
    rintro _ h5 ⟨rfl, hk5⟩
    refine ⟨rfl, m - 1, by omega, ⟨j + 1, _, ?_, by omega, hk5, he⟩, hT, trivial⟩
    rw [wrap64 (by omega) (by omega)]; rfl
  · have : fs.length ≤ j := by
      have := of_decide_eq_false e2
      omega
    rw [List.drop_eq_nil_of_le this] at he
    exact hQ _ _ hk1 he

theorem check_tri {p : Pg} (hw : ∀ f ∈ p.funcs, wfSs f.body) (hc : cntP p ≤ 4097) {ga fa : OA} {gc fc : Nat} (hG : At 5 (RG (plP s)) h ga p.globals) (hF : At 5 (RF (plP s) 8 7) h fa p.funcs) :
    Tri Tryz.prog 19 [vA [vL ga p.globals.length gc, vL fa p.funcs.length fc]] h fun v h' => v = vT [vI (erp s (checkS p)).1, vI (erp s (checkS p)).2.1, vI (erp s (checkS p)).2.2] ∧ Ext h h' := by
  refine T19 ?_
  unfold R19
  refine Tri.mono (tree_tri hw hc hF) ?_
  rintro _ h1 ⟨rfl, hx1⟩
  have hG := hG.ext (RG_mono _) hx1
  have hF := hF.ext (RF_mono _ _ _) hx1
  refine ⟨_, rfl, br_neg rfl ?_⟩
  refine raw_makeMap fun m1 hm1 => ⟨m1, rfl, ?_⟩
  refine raw_makeMap fun m2 hm2 => ⟨m2, rfl, ?_⟩
  intro cb hcb h4 hh4
  simp only [cntP] at hc
  have hlen := cntFs_len p.funcs
  have hn21 : m2 ≠ m1 := fun e => by subst e; rw [put_same] at hm2; cases hm2
  have hm2' : h1 m2 = none := by rwa [put_ne hn21] at hm2
  have hnc2 : cb ≠ m2 := fun e => by subst e; rw [put_same] at hcb; cases hcb
  rw [put_ne hnc2] at hcb
  have hnc1 : cb ≠ m1 := fun e => by subst e; rw [put_same] at hcb; cases hcb
  rw [put_ne hnc1] at hcb
  have hk4 : KS s h1 cb m1 m2 [] [] ⟨none, [], 0⟩ h4 := by
    refine ⟨⟨fun k o hk => ?_, hcb, hm1, hm2', hnc1.symm, hnc2.symm, hn21.symm, ⟨[], 0, ?_, fun n => rfl⟩, ⟨[], 0, ?_, fun n => rfl⟩⟩, (fun x hx => by cases hx), Nat.le_refl _, none, 0, Put.at hh4, ⟨by simp, .inl ⟨rfl, rfl⟩⟩, fun b hb => by cases hb⟩
    · rw [hh4, put_ne (fun e => by subst e; rw [hcb] at hk; cases hk), put_ne (fun e => by subst e; rw [hm2'] at hk; cases hk), put_ne (fun e => by subst e; rw [hm1] at hk; cases hk)]
      exact hk
    · rw [hh4, put_ne hnc1.symm, put_ne hn21.symm, put_same]; rfl
    · rw [hh4, put_ne hnc2.symm, put_same]; rfl
  clear hh4 hcb hm1 hm2 hn21 hm2' hnc1 hnc2
  refine ⟨fun m i h' => ∃ (j : Nat) (gl : Tab) (e : Er), i = j ∧ j + m = p.globals.length ∧ KS s h1 cb m1 m2 gl [] ⟨e, [], 0⟩ h' ∧ ckGs j (p.globals.drop j) gl e = ckGs 0 p.globals [] none, ⟨p.globals.length, 0, [], none, rfl, by omega, hk4, rfl⟩, ?_⟩
  clear hk4
  rintro m _ h5 ⟨j, gl, e, rfl, hjm, hk5, he⟩
  refine br_split (fun e2 => ?_) (fun e2 => ?_)
  · have hj : j < p.globals.length := by
      have := of_decide_eq_true e2
      omega
    obtain ⟨b, o, cs, rfl, hr, hrel⟩ := hG.get hj
    rw [List.drop_eq_getElem_cons hj, ckGs] at he
    generalize p.globals[j] = x at *
    have hrel : cs = [vS x.name, vI x.size, vI x.value] ++ plP s x.pos := hrel
    subst hrel
    refine ⟨b, o, rfl, ⟨by omega, by omega⟩, _, _, _, _, _, row_ext (fun ob => hk5.ext b ob) hr, ?_⟩
    refine Tri.mono (global_t hk5 j x) ?_
    rintro _ h6 ⟨rfl, hk6⟩
    refine ⟨rfl, m - 1, by omega, ⟨j + 1, _, _, ?_, by omega, hk6, he⟩, rfl, trivial⟩
    rw [wrap64 (by omega) (by omega)]; rfl
  have : p.globals.length ≤ j := by
    have := of_decide_eq_false e2
    omega
  rw [List.drop_eq_nil_of_le this] at he
  have he1 : gl = (ckGs 0 p.globals [] none).1 := (congrArg Prod.fst he)
  have he2 : e = (ckGs 0 p.globals [] none).2 := (congrArg Prod.snd he)
  clear e2 this he hjm
  refine ⟨fun m i h' => ∃ (j : Nat) (fn : Tab) (e' : Er), i = j ∧ j + m = p.funcs.length ∧ KS s h1 cb m1 m2 gl fn ⟨e', [], 0⟩ h' ∧ ckFs gl j (p.funcs.drop j) fn e' = ckFs gl 0 p.funcs [] e, ⟨p.funcs.length, 0, [], e, rfl, by omega, hk5, rfl⟩, ?_⟩
  rintro m _ h7 ⟨j, fn, e', rfl, hjm, hk7, he⟩
  refine br_split (fun e3 => ?_) (fun e3 => ?_)
  · have hj : j < p.funcs.length := by
      have := of_decide_eq_true e3
      omega
    obtain ⟨b, o, cs, rfl, hr, hrel⟩ := hF.get hj
    have hcj := cntFs_mem (List.getElem_mem hj)
    rw [List.drop_eq_getElem_cons hj, ckFs] at he
    generalize p.funcs[j] = x at *
    obtain ⟨a1, c1, a2, c2, rfl, hP, hB, hok⟩ := hrel
    simp only [cntF] at hcj
    refine ⟨b, o, rfl, ⟨by omega, by omega⟩, _, _, _, _, _, _, _, _, _, row_ext (fun ob => hk7.ext b ob) hr, ?_⟩
    refine Tri.mono (function_t hk7 j x hP hok (by omega)) ?_
    rintro _ h8 ⟨rfl, hk8⟩
    refine ⟨rfl, m - 1, by omega, ⟨j + 1, _, _, ?_, by omega, hk8, he⟩, rfl, trivial⟩
    rw [wrap64 (by omega) (by omega)]; rfl
  have : p.funcs.length ≤ j := by
    have := of_decide_eq_false e3
    omega
  rw [List.drop_eq_nil_of_le this] at he
  have he3 : fn = (ckFs gl 0 p.funcs [] e).1 := (congrArg Prod.fst he)
  have he4 : e' = (ckFs gl 0 p.funcs [] e).2 := (congrArg Prod.snd he)
  clear e3 this he hjm
  obtain ⟨a7, k7, hb7, hv7⟩ := hk7.bl
  refine ⟨_, cell_of hb7 1, ?_⟩
  refine Raw.mono (lookF (l := mainS) hk7.toKB rfl rfl 117) ?_
  rintro _ h7 ⟨rfl, rfl⟩
  have hck : checkS p = ckB gl fn p.funcs (failC ((getT fn mainS).isNone || ((getT fn mainS).getD 0 != 0)) none 8 e') := by
    rw [checkS, he4, he3, he2, he1]
  have fin : ∀ (h9 : PHeap) (c' : CS), KS s h1 cb m1 m2 gl fn c' h9 → c'.err = ckB gl fn p.funcs (failC ((getT fn mainS).isNone || ((getT fn mainS).getD 0 != 0)) none 8 e') →
      ∃ (i13 : Int), h9.cell cb 4 = some (vI i13) ∧ ∃ (i14 : Int), h9.cell cb 5 = some (vI i14) ∧ ∃ (i15 : Int), h9.cell cb 6 = some (vI i15) ∧
        vT [vI i13, vI i14, vI i15] = vT [vI (erp s (checkS p)).1, vI (erp s (checkS p)).2.1, vI (erp s (checkS p)).2.2] ∧ Ext h h9 := fun h9 c' hk9 he9 => by
    obtain ⟨a9, k9, hb9, hv9⟩ := hk9.bl
    refine ⟨_, cell_of hb9 4, _, cell_of hb9 5, _, cell_of hb9 6, ?_, hx1.trans hk9.ext⟩
    rw [he9, ← hck]
  refine ⟨_, _, rfl, br_split (fun e5 => ?_) (fun e5 => ?_)⟩
  · have e5 : (getT fn mainS).isNone = true := by cases hq : getT fn mainS with
      | none => rfl
      | some x => rw [hq] at e5; cases e5
    refine Tri.mono (fail_t hk7 _ none 8 (by decide)) ?_
    rintro _ h8 ⟨rfl, hk8⟩
    refine ⟨rfl, loopB (by omega) hF rfl hk8 fun h9 c' hk9 he9 => fin h9 c' hk9 ?_⟩
    rw [he9, e5, Bool.true_or]
  · have e5 : (getT fn mainS).isNone = false := by cases hq : getT fn mainS with
      | none => rw [hq] at e5; cases e5
      | some x => rfl
    refine Tri.mono (fail_t hk7 _ none 8 (by decide)) ?_
    rintro _ h8 ⟨rfl, hk8⟩
    refine ⟨rfl, loopB (by omega) hF rfl hk8 fun h9 c' hk9 he9 => fin h9 c' hk9 ?_⟩
    rw [he9, e5, Bool.false_or, bne_cast]
end
end Go.Proofs.D
namespace Go.Proofs.D
open Go Go.Den
set_option maxRecDepth 100000
set_option maxHeartbeats 4000000
abbrev dzk1 : List CK := [qi, .str, .str, qi, .str, .slice, qi, qi]
/- replevin/syntax.Expression -/
noncomputable def d22 : DCode := up ⟨[(7, .l dzk1), (8, .c (.one false [.bool])), (10, .l dzk1), (11, .c (.one false [.str]))], [], []⟩ (low Tryz.prog (fun d => Nat.beq d 5) (Tryz.f22.body.getD .skip))
theorem low22 : low Tryz.prog (fun d => Nat.beq d 5) (Tryz.f22.body.getD .skip) = some (eC d22) := by kernel_rfl
def R22 (i1 : Int) (l1 : Bs) (l2 : Bs) (i2 : Int) (l3 : Bs) (a1 : OA) (n1 : Nat) (dzk1 : Nat) (i3 : Int) (i4 : Int) (h : PHeap) (Q : Value → PHeap → Prop) : Prop :=
 ∀ (b1 : Nat), h b1 = none → ∀ (h_1 : PHeap), h_1 = h.put b1 (.cells ⟨[vI 4096]⟩ 129) →
 Tri Tryz.prog 66 [vP b1 0, vA [vI i1, vS l1, vS l2, vI i2, vS l3, vL a1 n1 dzk1, vI i3, vI i4]] h_1 fun v_1 h_2 =>
 ∃ (c1 : Bool), v_1 = vB c1 ∧
 br (!c1)
 (Q (vS []) h_2)
 (Tri Tryz.prog 67 [vA [vI i1, vS l1, vS l2, vI i2, vS l3, vL a1 n1 dzk1, vI i3, vI i4]] h_2 fun v_2 h_3 =>
 ∃ (l4 : Bs), v_2 = vS l4 ∧
 Q (vS l4) h_3)
theorem T22 {i1 : Int} {l1 : Bs} {l2 : Bs} {i2 : Int} {l3 : Bs} {a1 : OA} {n1 : Nat} {dzk1 : Nat} {i3 : Int} {i4 : Int} {h : PHeap} {Q : Value → PHeap → Prop} (hR : R22 i1 l1 l2 i2 l3 a1 n1 dzk1 i3 i4 h Q) : Tri Tryz.prog 22 [vA [vI i1, vS l1, vS l2, vI i2, vS l3, vL a1 n1 dzk1, vI i3, vI i4]] h Q :=
 tri_of_dn mixed Tryz.func22 rfl (by kernel_rfl) low22 (rs := [.tmp 2]) (by kernel_rfl) rfl (Eq.mpr (by kernel_rfl : dnF Tryz.prog Tryz.f22.ntmps d22 [.tmp 2] [vA [vI i1, vS l1, vS l2, vI i2, vS l3, vL a1 n1 dzk1, vI i3, vI i4]] h Q = R22 i1 l1 l2 i2 l3 a1 n1 dzk1 i3 i4 h Q) hR)
/- replevin/syntax.expression -/
abbrev o67_1 : Op := .call { callee := (.builtin .append), args := #[(.tmp 18), (.tmp 21)], argTypes := #[51, 51] }
noncomputable def d67 : DCode := up ⟨[(12, .l [.slice]), (17, .l dzk1), (19, .l dzk1), (20, .c (.one false [.str])), (22, .c (.one false [.slice])), (25, .l [qi]), (29, .l [qi]), (30, .c (.one false [.str])), (35, .l [.str]), (36, .c (.tup [(false, [.str]), (false, [qi])])), (43, .l [.str]), (47, .l [.str]), (53, .l [.str]), (56, .c (.one false [.str])), (62, .l [.str]), (65, .l [.str]), (67, .l [.slice]), (70, .l [qi]), (72, .c (.one false [.str])), (77, .l [.str]), (78, .c (.one false [qi])), (81, .l [.str]), (83, .l [.slice]), (86, .l [qi]), (90, .l [.slice]), (93, .l [.str]), (94, .c (.one false [qi])), (98, .c (.one false [.str])), (101, .l [.str]), (103, .l [.slice]), (106, .l [qi]), (110, .l [.slice]), (113, .l [.str]), (114, .c (.one false [qi])), (118, .c (.one false [.str])), (122, .l [.str]), (128, .l [.str])], [], [(15, 12, [(3, .slice), (14, qi)], [])]⟩ (low Tryz.prog (fun _ => false) (Tryz.f67.body.getD .skip))
theorem low67 : low Tryz.prog (fun _ => false) (Tryz.f67.body.getD .skip) = some (eC d67) := by kernel_rfl
def R67 (i1 : Int) (l1 : Bs) (l2 : Bs) (i2 : Int) (l3 : Bs) (a1 : OA) (n1 : Nat) (dzk1 : Nat) (i3 : Int) (i4 : Int) (h : PHeap) (Q : Value → PHeap → Prop) : Prop :=
 ∃ (I_1 : Nat → OA → Nat → Nat → Int → PHeap → Prop), (∃ (m2 : Nat), I_1 m2 none 0 0 (0 : Int) h) ∧
 ∀ (m1 : Nat) (a2 : OA) (n2 : Nat) (k2 : Nat) (i5 : Int) (h_1 : PHeap), I_1 m1 a2 n2 k2 i5 h_1 →
 br (decide (i5 < ((n1 : Nat) : Int)))
 (∃ (b1 o1 : Nat), a1 = some ⟨b1, o1, none⟩ ∧ (0 ≤ i5 ∧ i5 < n1) ∧
 ∃ (i6 : Int) (l4 l5 : Bs) (i7 : Int) (l6 : Bs) (a3 : OA) (n3 k3 : Nat) (i8 i9 : Int), h_1.row b1 (o1 + (i5).toNat * 8) [vI i6, vS l4, vS l5, vI i7, vS l6, vL a3 n3 k3, vI i8, vI i9] ∧
 Tri Tryz.prog 67 [vA [vI i6, vS l4, vS l5, vI i7, vS l6, vL a3 n3 k3, vI i8, vI i9]] h_1 fun v_1 h_2 =>
 ∃ (l7 : Bs), v_1 = vS l7 ∧
 ∀ (b2 : Nat), h_2 b2 = none → ∀ (h_3 : PHeap), h_3 = h_2.put b2 (.cells ⟨[vS l7]⟩ 9) →
 Raw Tryz.prog (execOp (rho [(18, vL a2 n2 k2), (21, vL (ad b2 0) 1 1)]) (mkO o67_1 51)) h_3 fun v_2 h_4 =>
 ∃ (a4 : OA) (n4 k4 : Nat), v_2 = vL a4 n4 k4 ∧
 ∃ (m3 : Nat), m3 < m1 ∧ I_1 m3 a4 n4 k4 (IntKind.i64.wrap (i5 + 1)) h_4 ∧
 tv [vI i1, vS l1, vS l2, vI i2, vS l3, vL a1 n1 dzk1, vI i3, vI i4] ∧ True)
 (br (i1 == 1)
 (Tri Tryz.prog 80 [vI i2] h_1 fun v_3 h_5 =>
 ∃ (l8 : Bs), v_3 = vS l8 ∧
 Q (vS l8) h_5)
 (br (i1 == 2)
 (Tri Tryz.prog 109 [vS l3] h_1 fun v_4 h_6 =>
 ∃ (l9 : Bs) (i10 : Int), v_4 = vT [vS l9, vI i10] ∧
 Q (vS l9) h_6)
 (br (i1 == 4)
 (l2.length + ([91] : Bs).length ≤ 9223372036854775807 ∧
 ∃ (b3 o2 : Nat), a2 = some ⟨b3, o2, none⟩ ∧ (0 ≤ (0 : Int) ∧ (0 : Int) < n2) ∧
 ∃ (l10 : Bs), h_1.cell b3 o2 = some (vS l10) ∧
 (l2 ++ ([91] : Bs)).length + l10.length ≤ 9223372036854775807 ∧
 ((l2 ++ ([91] : Bs)) ++ l10).length + ([93] : Bs).length ≤ 9223372036854775807 ∧
 Q (vS (((l2 ++ ([91] : Bs)) ++ l10) ++ ([93] : Bs))) h_1)
 (br (i1 == 5)
 (l2.length + ([40] : Bs).length ≤ 9223372036854775807 ∧
 Tri Tryz.prog 81 [vL a2 n2 k2, vS [44, 32]] h_1 fun v_5 h_7 =>
 ∃ (l11 : Bs), v_5 = vS l11 ∧
 (tv [vS l2]) ∧
 (l2 ++ ([40] : Bs)).length + l11.length ≤ 9223372036854775807 ∧
 ((l2 ++ ([40] : Bs)) ++ l11).length + ([41] : Bs).length ≤ 9223372036854775807 ∧
 Q (vS (((l2 ++ ([40] : Bs)) ++ l11) ++ ([41] : Bs))) h_7)
 (br (i1 == 6)
 (∃ (b4 o3 : Nat), a2 = some ⟨b4, o3, none⟩ ∧ (0 ≤ (0 : Int) ∧ (0 : Int) < n2) ∧
 ∃ (l12 : Bs), h_1.cell b4 o3 = some (vS l12) ∧
 ∃ (b5 o4 : Nat), a1 = some ⟨b5, o4, none⟩ ∧ (0 ≤ (0 : Int) ∧ (0 : Int) < n1) ∧
 ∃ (i11 : Int), h_1.cell b5 o4 = some (vI i11) ∧
 Tri Tryz.prog 110 [vS l12, vB (i11 == 7)] h_1 fun v_6 h_8 =>
 ∃ (l13 : Bs), v_6 = vS l13 ∧
 (h_8.cell b5 o4 = some (vI i11)) ∧
 (tv [vL a1 n1 dzk1]) ∧
 (tv [vS l1]) ∧
 l1.length + l13.length ≤ 9223372036854775807 ∧
 Q (vS (l1 ++ l13)) h_8)
 (br (i1 == 7)
 (Tri Tryz.prog 26 [vS l1] h_1 fun v_7 h_9 =>
 ∃ (i12 : Int), v_7 = vI i12 ∧
 ∃ (b6 o5 : Nat), a2 = some ⟨b6, o5, none⟩ ∧ (0 ≤ (0 : Int) ∧ (0 : Int) < n2) ∧
 ∃ (l14 : Bs), h_9.cell b6 o5 = some (vS l14) ∧
 ∃ (b7 o6 : Nat), a1 = some ⟨b7, o6, none⟩ ∧ (0 ≤ (0 : Int) ∧ (0 : Int) < n1) ∧
 ∃ (i13 : Int), h_9.cell b7 o6 = some (vI i13) ∧
 br (i13 == 7)
 (∃ (b8 o7 : Nat), a1 = some ⟨b8, o7, none⟩ ∧ (0 ≤ (0 : Int) ∧ (0 : Int) < n1) ∧
 ∃ (l15 : Bs), h_9.cell b8 (o7 + 1) = some (vS l15) ∧
 Tri Tryz.prog 26 [vS l15] h_9 fun v_8 h_10 =>
 ∃ (i14 : Int), v_8 = vI i14 ∧
 (tv [vL a1 n1 dzk1]) ∧
 (h_10.cell b7 o6 = some (vI i13)) ∧
 (tv [vL a1 n1 dzk1]) ∧
 (h_10.cell b6 o5 = some (vS l14)) ∧
 Tri Tryz.prog 110 [vS l14, vB (decide (i14 < i12))] h_10 fun v_9 h_11 =>
 ∃ (l16 : Bs), v_9 = vS l16 ∧
 (tv [vL a1 n1 dzk1]) ∧
 (h_11.cell b7 o6 = some (vI i13)) ∧
 (tv [vL a1 n1 dzk1]) ∧
 ∃ (b9 o8 : Nat), a2 = some ⟨b9, o8, none⟩ ∧ (0 ≤ (1 : Int) ∧ (1 : Int) < n2) ∧
 ∃ (l17 : Bs), h_11.cell b9 (o8 + 1) = some (vS l17) ∧
 ∃ (b10 o9 : Nat), a1 = some ⟨b10, o9, none⟩ ∧ (0 ≤ (1 : Int) ∧ (1 : Int) < n1) ∧
 ∃ (i15 : Int), h_11.cell b10 (o9 + 8) = some (vI i15) ∧
 br (i15 == 7)
 (∃ (b11 o10 : Nat), a1 = some ⟨b11, o10, none⟩ ∧ (0 ≤ (1 : Int) ∧ (1 : Int) < n1) ∧
 ∃ (l18 : Bs), h_11.cell b11 (o10 + 9) = some (vS l18) ∧
 Tri Tryz.prog 26 [vS l18] h_11 fun v_10 h_12 =>
 ∃ (i16 : Int), v_10 = vI i16 ∧
 (tv [vL a1 n1 dzk1]) ∧
 (h_12.cell b10 (o9 + 8) = some (vI i15)) ∧
 (tv [vL a1 n1 dzk1]) ∧
 (h_12.cell b9 (o8 + 1) = some (vS l17)) ∧
 Tri Tryz.prog 110 [vS l17, vB (decide (i16 ≤ i12))] h_12 fun v_11 h_13 =>
 ∃ (l19 : Bs), v_11 = vS l19 ∧
 (tv [vL a1 n1 dzk1]) ∧
 (h_13.cell b10 (o9 + 8) = some (vI i15)) ∧
 (tv [vL a1 n1 dzk1]) ∧
 l16.length + ([32] : Bs).length ≤ 9223372036854775807 ∧
 (l16 ++ ([32] : Bs)).length + l1.length ≤ 9223372036854775807 ∧
 ((l16 ++ ([32] : Bs)) ++ l1).length + ([32] : Bs).length ≤ 9223372036854775807 ∧
 (((l16 ++ ([32] : Bs)) ++ l1) ++ ([32] : Bs)).length + l19.length ≤ 9223372036854775807 ∧
 Q (vS ((((l16 ++ ([32] : Bs)) ++ l1) ++ ([32] : Bs)) ++ l19)) h_13)
 ((h_11.cell b10 (o9 + 8) = some (vI i15)) ∧
 (tv [vL a1 n1 dzk1]) ∧
 (h_11.cell b9 (o8 + 1) = some (vS l17)) ∧
 Tri Tryz.prog 110 [vS l17, vB false] h_11 fun v_12 h_14 =>
 ∃ (l20 : Bs), v_12 = vS l20 ∧
 (h_14.cell b10 (o9 + 8) = some (vI i15)) ∧
 (tv [vL a1 n1 dzk1]) ∧
 l16.length + ([32] : Bs).length ≤ 9223372036854775807 ∧
 (l16 ++ ([32] : Bs)).length + l1.length ≤ 9223372036854775807 ∧
 ((l16 ++ ([32] : Bs)) ++ l1).length + ([32] : Bs).length ≤ 9223372036854775807 ∧
 (((l16 ++ ([32] : Bs)) ++ l1) ++ ([32] : Bs)).length + l20.length ≤ 9223372036854775807 ∧
 Q (vS ((((l16 ++ ([32] : Bs)) ++ l1) ++ ([32] : Bs)) ++ l20)) h_14))
 ((h_9.cell b7 o6 = some (vI i13)) ∧
 (tv [vL a1 n1 dzk1]) ∧
 (h_9.cell b6 o5 = some (vS l14)) ∧
 Tri Tryz.prog 110 [vS l14, vB false] h_9 fun v_13 h_15 =>
 ∃ (l21 : Bs), v_13 = vS l21 ∧
 (h_15.cell b7 o6 = some (vI i13)) ∧
 (tv [vL a1 n1 dzk1]) ∧
 ∃ (b12 o11 : Nat), a2 = some ⟨b12, o11, none⟩ ∧ (0 ≤ (1 : Int) ∧ (1 : Int) < n2) ∧
 ∃ (l22 : Bs), h_15.cell b12 (o11 + 1) = some (vS l22) ∧
 ∃ (b13 o12 : Nat), a1 = some ⟨b13, o12, none⟩ ∧ (0 ≤ (1 : Int) ∧ (1 : Int) < n1) ∧
 ∃ (i17 : Int), h_15.cell b13 (o12 + 8) = some (vI i17) ∧
 br (i17 == 7)
 (∃ (b14 o13 : Nat), a1 = some ⟨b14, o13, none⟩ ∧ (0 ≤ (1 : Int) ∧ (1 : Int) < n1) ∧
 ∃ (l23 : Bs), h_15.cell b14 (o13 + 9) = some (vS l23) ∧
 Tri Tryz.prog 26 [vS l23] h_15 fun v_14 h_16 =>
 ∃ (i18 : Int), v_14 = vI i18 ∧
 (tv [vL a1 n1 dzk1]) ∧
 (h_16.cell b13 (o12 + 8) = some (vI i17)) ∧
 (tv [vL a1 n1 dzk1]) ∧
 (h_16.cell b12 (o11 + 1) = some (vS l22)) ∧
 Tri Tryz.prog 110 [vS l22, vB (decide (i18 ≤ i12))] h_16 fun v_15 h_17 =>
 ∃ (l24 : Bs), v_15 = vS l24 ∧
 (tv [vL a1 n1 dzk1]) ∧
 (h_17.cell b13 (o12 + 8) = some (vI i17)) ∧
 (tv [vL a1 n1 dzk1]) ∧
 l21.length + ([32] : Bs).length ≤ 9223372036854775807 ∧
 (l21 ++ ([32] : Bs)).length + l1.length ≤ 9223372036854775807 ∧
 ((l21 ++ ([32] : Bs)) ++ l1).length + ([32] : Bs).length ≤ 9223372036854775807 ∧
 (((l21 ++ ([32] : Bs)) ++ l1) ++ ([32] : Bs)).length + l24.length ≤ 9223372036854775807 ∧
 Q (vS ((((l21 ++ ([32] : Bs)) ++ l1) ++ ([32] : Bs)) ++ l24)) h_17)
 ((h_15.cell b13 (o12 + 8) = some (vI i17)) ∧
 (tv [vL a1 n1 dzk1]) ∧
 (h_15.cell b12 (o11 + 1) = some (vS l22)) ∧
 Tri Tryz.prog 110 [vS l22, vB false] h_15 fun v_16 h_18 =>
 ∃ (l25 : Bs), v_16 = vS l25 ∧
 (h_18.cell b13 (o12 + 8) = some (vI i17)) ∧
 (tv [vL a1 n1 dzk1]) ∧
 l21.length + ([32] : Bs).length ≤ 9223372036854775807 ∧
 (l21 ++ ([32] : Bs)).length + l1.length ≤ 9223372036854775807 ∧
 ((l21 ++ ([32] : Bs)) ++ l1).length + ([32] : Bs).length ≤ 9223372036854775807 ∧
 (((l21 ++ ([32] : Bs)) ++ l1) ++ ([32] : Bs)).length + l25.length ≤ 9223372036854775807 ∧
 Q (vS ((((l21 ++ ([32] : Bs)) ++ l1) ++ ([32] : Bs)) ++ l25)) h_18)))
 (Q (vS l2) h_1)))))))
theorem T67 {i1 : Int} {l1 : Bs} {l2 : Bs} {i2 : Int} {l3 : Bs} {a1 : OA} {n1 : Nat} {dzk1 : Nat} {i3 : Int} {i4 : Int} {h : PHeap} {Q : Value → PHeap → Prop} (hR : R67 i1 l1 l2 i2 l3 a1 n1 dzk1 i3 i4 h Q) : Tri Tryz.prog 67 [vA [vI i1, vS l1, vS l2, vI i2, vS l3, vL a1 n1 dzk1, vI i3, vI i4]] h Q :=
 tri_of_dn mixed Tryz.func67 rfl (by kernel_rfl) low67 (rs := [.tmp 2]) (by kernel_rfl) rfl (Eq.mpr (by kernel_rfl : dnF Tryz.prog Tryz.f67.ntmps d67 [.tmp 2] [vA [vI i1, vS l1, vS l2, vI i2, vS l3, vL a1 n1 dzk1, vI i3, vI i4]] h Q = R67 i1 l1 l2 i2 l3 a1 n1 dzk1 i3 i4 h Q) hR)
/- strconv.Itoa -/
noncomputable def d80 : DCode := up ⟨[(4, .c (.one false [.str]))], [], []⟩ (low Tryz.prog (fun _ => false) (Tryz.f80.body.getD .skip))
theorem low80 : low Tryz.prog (fun _ => false) (Tryz.f80.body.getD .skip) = some (eC d80) := by kernel_rfl
def R80 (i1 : Int) (h : PHeap) (Q : Value → PHeap → Prop) : Prop :=
 Tri Tryz.prog 126 [vI i1] h fun v_1 h_1 =>
 ∃ (l1 : Bs), v_1 = vS l1 ∧
 Q (vS l1) h_1
theorem T80 {i1 : Int} {h : PHeap} {Q : Value → PHeap → Prop} (hR : R80 i1 h Q) : Tri Tryz.prog 80 [vI i1] h Q :=
 tri_of_dn mixed Tryz.func80 rfl (by kernel_rfl) low80 (rs := [.tmp 2]) (by kernel_rfl) rfl (Eq.mpr (by kernel_rfl : dnF Tryz.prog Tryz.f80.ntmps d80 [.tmp 2] [vI i1] h Q = R80 i1 h Q) hR)
/- replevin/syntax.enclose -/
noncomputable def d110 : DCode := up ⟨[], [], []⟩ (low Tryz.prog (fun _ => false) (Tryz.f110.body.getD .skip))
theorem low110 : low Tryz.prog (fun _ => false) (Tryz.f110.body.getD .skip) = some (eC d110) := by kernel_rfl
def R110 (l1 : Bs) (c1 : Bool) (h : PHeap) (Q : Value → PHeap → Prop) : Prop :=
 br c1
 (([40] : Bs).length + l1.length ≤ 9223372036854775807 ∧
 (([40] : Bs) ++ l1).length + ([41] : Bs).length ≤ 9223372036854775807 ∧
 Q (vS ((([40] : Bs) ++ l1) ++ ([41] : Bs))) h)
 (Q (vS l1) h)
theorem T110 {l1 : Bs} {c1 : Bool} {h : PHeap} {Q : Value → PHeap → Prop} (hR : R110 l1 c1 h Q) : Tri Tryz.prog 110 [vS l1, vB c1] h Q :=
 tri_of_dn mixed Tryz.func110 rfl (by kernel_rfl) low110 (rs := [.tmp 4]) (by kernel_rfl) rfl (Eq.mpr (by kernel_rfl : dnF Tryz.prog Tryz.f110.ntmps d110 [.tmp 4] [vS l1, vB c1] h Q = R110 l1 c1 h Q) hR)
/- internal/strconv.Itoa -/
noncomputable def d126 : DCode := up ⟨[(4, .c (.one false [.str]))], [], []⟩ (low Tryz.prog (fun _ => false) (Tryz.f126.body.getD .skip))
theorem low126 : low Tryz.prog (fun _ => false) (Tryz.f126.body.getD .skip) = some (eC d126) := by kernel_rfl
def R126 (i1 : Int) (h : PHeap) (Q : Value → PHeap → Prop) : Prop :=
 Tri Tryz.prog 159 [vI i1, vI 10] h fun v_1 h_1 =>
 ∃ (l1 : Bs), v_1 = vS l1 ∧
 Q (vS l1) h_1
theorem T126 {i1 : Int} {h : PHeap} {Q : Value → PHeap → Prop} (hR : R126 i1 h Q) : Tri Tryz.prog 126 [vI i1] h Q :=
 tri_of_dn mixed Tryz.func126 rfl (by kernel_rfl) low126 (rs := [.tmp 2]) (by kernel_rfl) rfl (Eq.mpr (by kernel_rfl : dnF Tryz.prog Tryz.f126.ntmps d126 [.tmp 2] [vI i1] h Q = R126 i1 h Q) hR)
/- internal/strconv.FormatInt -/
abbrev o159_6 : Op := .slice 245 (.tmp 5) (some (.const (vI 1))) (some (.tmp 29)) none
abbrev o159_9 : Op := .slice 245 (.tmp 5) none (some (.tmp 37)) none
abbrev o159_11 : Op := .slice 245 (.tmp 5) (some (.const (vI 1))) (some (.tmp 41)) none
noncomputable def d159 : DCode := up ⟨[(19, .c (.one false [.str])), (27, .c (.one false [qi])), (30, .c (.one false [.slice])), (32, .c (.tup [])), (38, .c (.one false [.slice])), (42, .c (.one false [.slice])), (50, .c (.tup [(false, [.slice]), (false, [.str])]))], [35], []⟩ (low Tryz.prog (fun d => Nat.beq d 5) (Tryz.f159.body.getD .skip))
theorem low159 : low Tryz.prog (fun d => Nat.beq d 5) (Tryz.f159.body.getD .skip) = some (eC d159) := by kernel_rfl
def R159 (i1 : Int) (i2 : Int) (h : PHeap) (Q : Value → PHeap → Prop) : Prop :=
 br (i2 == 10)
 (br (decide (0 ≤ i1))
 (br (decide (i1 < 100))
 (Tri Tryz.prog 180 [vI i1] h fun v_1 h_1 =>
 ∃ (l1 : Bs), v_1 = vS l1 ∧
 Q (vS l1) h_1)
 (∀ (b1 : Nat), h b1 = none → ∀ (h_2 : PHeap), h_2 = h.put b1 (.cells ⟨[vU 0, vU 0, vU 0, vU 0, vU 0, vU 0, vU 0, vU 0, vU 0, vU 0, vU 0, vU 0, vU 0, vU 0, vU 0, vU 0, vU 0, vU 0, vU 0, vU 0, vU 0, vU 0, vU 0, vU 0]⟩ 245) →
 br (decide (i1 < 0))
 (Tri Tryz.prog 181 [.int .u64 (IntKind.u64.wrap (0 - (IntKind.u64.wrap (i1))))] h_2 fun v_2 h_3 =>
 ∃ (i3 : Int), v_2 = vI i3 ∧
 ∃ (a1 : OA) (n1 dzk1 : Nat), PureRun Tryz.prog (execOp (rho [(5, vP b1 0), (29, vI (IntKind.i64.wrap (1 + i3)))]) (mkO o159_6 45)) (vL a1 n1 dzk1) ∧
 Tri Tryz.prog 182 [vL a1 n1 dzk1, .int .u64 (IntKind.u64.wrap (0 - (IntKind.u64.wrap (i1))))] h_3 fun v_3 h_4 =>
 v_3 = vT [] ∧
 br (decide (i1 < 0))
 ((0 ≤ (0 : Int) ∧ (0 : Int) < 24) ∧
 ∃ (l2 : List Value) (t1 : TypeId) (z1 : Nat × Nat), h_4 b1 = some (.cells ⟨l2⟩ t1 z1) ∧ (0 + 1 ≤ l2.length ∧ z1.2 ≤ 0) ∧
 ∀ (h_5 : PHeap), h_5 = h_4.put b1 (.cells ⟨splice l2 0 [vU 45]⟩ t1 z1) →
 ∃ (a2 : OA) (n2 k2 : Nat), PureRun Tryz.prog (execOp (rho [(5, vP b1 0), (37, vI (IntKind.i64.wrap (1 + i3)))]) (mkO o159_9 45)) (vL a2 n2 k2) ∧
 ∃ (l3 : Bs), BytesAt h_5 a2 n2 l3 ∧
 Q (vS l3) h_5)
 (∃ (a3 : OA) (n3 k3 : Nat), PureRun Tryz.prog (execOp (rho [(5, vP b1 0), (41, vI (IntKind.i64.wrap (1 + i3)))]) (mkO o159_11 45)) (vL a3 n3 k3) ∧
 ∃ (l4 : Bs), BytesAt h_4 a3 n3 l4 ∧
 Q (vS l4) h_4))
 (Tri Tryz.prog 181 [.int .u64 (IntKind.u64.wrap (i1))] h_2 fun v_4 h_6 =>
 ∃ (i4 : Int), v_4 = vI i4 ∧
 ∃ (a4 : OA) (n4 k4 : Nat), PureRun Tryz.prog (execOp (rho [(5, vP b1 0), (29, vI (IntKind.i64.wrap (1 + i4)))]) (mkO o159_6 45)) (vL a4 n4 k4) ∧
 Tri Tryz.prog 182 [vL a4 n4 k4, .int .u64 (IntKind.u64.wrap (i1))] h_6 fun v_5 h_7 =>
 v_5 = vT [] ∧
 br (decide (i1 < 0))
 ((0 ≤ (0 : Int) ∧ (0 : Int) < 24) ∧
 ∃ (l5 : List Value) (t2 : TypeId) (z2 : Nat × Nat), h_7 b1 = some (.cells ⟨l5⟩ t2 z2) ∧ (0 + 1 ≤ l5.length ∧ z2.2 ≤ 0) ∧
 ∀ (h_8 : PHeap), h_8 = h_7.put b1 (.cells ⟨splice l5 0 [vU 45]⟩ t2 z2) →
 ∃ (a5 : OA) (n5 k5 : Nat), PureRun Tryz.prog (execOp (rho [(5, vP b1 0), (37, vI (IntKind.i64.wrap (1 + i4)))]) (mkO o159_9 45)) (vL a5 n5 k5) ∧
 ∃ (l6 : Bs), BytesAt h_8 a5 n5 l6 ∧
 Q (vS l6) h_8)
 (∃ (a6 : OA) (n6 k6 : Nat), PureRun Tryz.prog (execOp (rho [(5, vP b1 0), (41, vI (IntKind.i64.wrap (1 + i4)))]) (mkO o159_11 45)) (vL a6 n6 k6) ∧
 ∃ (l7 : Bs), BytesAt h_7 a6 n6 l7 ∧
 Q (vS l7) h_7))))
 (∀ (b2 : Nat), h b2 = none → ∀ (h_9 : PHeap), h_9 = h.put b2 (.cells ⟨[vU 0, vU 0, vU 0, vU 0, vU 0, vU 0, vU 0, vU 0, vU 0, vU 0, vU 0, vU 0, vU 0, vU 0, vU 0, vU 0, vU 0, vU 0, vU 0, vU 0, vU 0, vU 0, vU 0, vU 0]⟩ 245) →
 br (decide (i1 < 0))
 (Tri Tryz.prog 181 [.int .u64 (IntKind.u64.wrap (0 - (IntKind.u64.wrap (i1))))] h_9 fun v_6 h_10 =>
 ∃ (i5 : Int), v_6 = vI i5 ∧
 ∃ (a7 : OA) (n7 k7 : Nat), PureRun Tryz.prog (execOp (rho [(5, vP b2 0), (29, vI (IntKind.i64.wrap (1 + i5)))]) (mkO o159_6 45)) (vL a7 n7 k7) ∧
 Tri Tryz.prog 182 [vL a7 n7 k7, .int .u64 (IntKind.u64.wrap (0 - (IntKind.u64.wrap (i1))))] h_10 fun v_7 h_11 =>
 v_7 = vT [] ∧
 br (decide (i1 < 0))
 ((0 ≤ (0 : Int) ∧ (0 : Int) < 24) ∧
 ∃ (l8 : List Value) (t3 : TypeId) (z3 : Nat × Nat), h_11 b2 = some (.cells ⟨l8⟩ t3 z3) ∧ (0 + 1 ≤ l8.length ∧ z3.2 ≤ 0) ∧
 ∀ (h_12 : PHeap), h_12 = h_11.put b2 (.cells ⟨splice l8 0 [vU 45]⟩ t3 z3) →
 ∃ (a8 : OA) (n8 k8 : Nat), PureRun Tryz.prog (execOp (rho [(5, vP b2 0), (37, vI (IntKind.i64.wrap (1 + i5)))]) (mkO o159_9 45)) (vL a8 n8 k8) ∧
 ∃ (l9 : Bs), BytesAt h_12 a8 n8 l9 ∧
 Q (vS l9) h_12)
 (∃ (a9 : OA) (n9 k9 : Nat), PureRun Tryz.prog (execOp (rho [(5, vP b2 0), (41, vI (IntKind.i64.wrap (1 + i5)))]) (mkO o159_11 45)) (vL a9 n9 k9) ∧
 ∃ (l10 : Bs), BytesAt h_11 a9 n9 l10 ∧
 Q (vS l10) h_11))
 (Tri Tryz.prog 181 [.int .u64 (IntKind.u64.wrap (i1))] h_9 fun v_8 h_13 =>
 ∃ (i6 : Int), v_8 = vI i6 ∧
 ∃ (a10 : OA) (n10 k10 : Nat), PureRun Tryz.prog (execOp (rho [(5, vP b2 0), (29, vI (IntKind.i64.wrap (1 + i6)))]) (mkO o159_6 45)) (vL a10 n10 k10) ∧
 Tri Tryz.prog 182 [vL a10 n10 k10, .int .u64 (IntKind.u64.wrap (i1))] h_13 fun v_9 h_14 =>
 v_9 = vT [] ∧
 br (decide (i1 < 0))
 ((0 ≤ (0 : Int) ∧ (0 : Int) < 24) ∧
 ∃ (l11 : List Value) (t4 : TypeId) (z4 : Nat × Nat), h_14 b2 = some (.cells ⟨l11⟩ t4 z4) ∧ (0 + 1 ≤ l11.length ∧ z4.2 ≤ 0) ∧
 ∀ (h_15 : PHeap), h_15 = h_14.put b2 (.cells ⟨splice l11 0 [vU 45]⟩ t4 z4) →
 ∃ (a11 : OA) (n11 k11 : Nat), PureRun Tryz.prog (execOp (rho [(5, vP b2 0), (37, vI (IntKind.i64.wrap (1 + i6)))]) (mkO o159_9 45)) (vL a11 n11 k11) ∧
 ∃ (l12 : Bs), BytesAt h_15 a11 n11 l12 ∧
 Q (vS l12) h_15)
 (∃ (a12 : OA) (n12 k12 : Nat), PureRun Tryz.prog (execOp (rho [(5, vP b2 0), (41, vI (IntKind.i64.wrap (1 + i6)))]) (mkO o159_11 45)) (vL a12 n12 k12) ∧
 ∃ (l13 : Bs), BytesAt h_14 a12 n12 l13 ∧
 Q (vS l13) h_14))))
 (Tri Tryz.prog 183 [vL none 0 0, .int .u64 (IntKind.u64.wrap (i1)), vI i2, vB (decide (i1 < 0)), vB false] h fun v_10 h_16 =>
 ∃ (a13 : OA) (n13 k13 : Nat) (l14 : Bs), v_10 = vT [vL a13 n13 k13, vS l14] ∧
 Q (vS l14) h_16)
theorem T159 {i1 : Int} {i2 : Int} {h : PHeap} {Q : Value → PHeap → Prop} (hR : R159 i1 i2 h Q) : Tri Tryz.prog 159 [vI i1, vI i2] h Q :=
 tri_of_dn mixed Tryz.func159 rfl (by kernel_rfl) low159 (rs := [.tmp 4]) (by kernel_rfl) rfl (Eq.mpr (by kernel_rfl : dnF Tryz.prog Tryz.f159.ntmps d159 [.tmp 4] [vI i1, vI i2] h Q = R159 i1 i2 h Q) hR)
/- internal/strconv.small -/
noncomputable def d180 : DCode := up ⟨[], [], []⟩ (low Tryz.prog (fun _ => false) (Tryz.f180.body.getD .skip))
theorem low180 : low Tryz.prog (fun _ => false) (Tryz.f180.body.getD .skip) = some (eC d180) := by kernel_rfl
def R180 (i1 : Int) (h : PHeap) (Q : Value → PHeap → Prop) : Prop :=
 br (decide (i1 < 10))
 ((0 ≤ i1 ∧ i1 ≤ (IntKind.i64.wrap (i1 + 1)) ∧ (IntKind.i64.wrap (i1 + 1)) ≤ (36 : Int)) ∧
 Q (vS ((([48, 49, 50, 51, 52, 53, 54, 55, 56, 57, 97, 98, 99, 100, 101, 102, 103, 104, 105, 106, 107, 108, 109, 110, 111, 112, 113, 114, 115, 116, 117, 118, 119, 120, 121, 122] : Bs).drop (i1).toNat).take ((IntKind.i64.wrap (i1 + 1)).toNat - (i1).toNat))) h)
 ((0 ≤ (IntKind.i64.wrap (i1 * 2)) ∧ (IntKind.i64.wrap (i1 * 2)) ≤ (IntKind.i64.wrap ((IntKind.i64.wrap (i1 * 2)) + 2)) ∧ (IntKind.i64.wrap ((IntKind.i64.wrap (i1 * 2)) + 2)) ≤ (200 : Int)) ∧
 Q (vS ((([48, 48, 48, 49, 48, 50, 48, 51, 48, 52, 48, 53, 48, 54, 48, 55, 48, 56, 48, 57, 49, 48, 49, 49, 49, 50, 49, 51, 49, 52, 49, 53, 49, 54, 49, 55, 49, 56, 49, 57, 50, 48, 50, 49, 50, 50, 50, 51, 50, 52, 50, 53, 50, 54, 50, 55, 50, 56, 50, 57, 51, 48, 51, 49, 51, 50, 51, 51, 51, 52, 51, 53, 51, 54, 51, 55, 51, 56, 51, 57, 52, 48, 52, 49, 52, 50, 52, 51, 52, 52, 52, 53, 52, 54, 52, 55, 52, 56, 52, 57, 53, 48, 53, 49, 53, 50, 53, 51, 53, 52, 53, 53, 53, 54, 53, 55, 53, 56, 53, 57, 54, 48, 54, 49, 54, 50, 54, 51, 54, 52, 54, 53, 54, 54, 54, 55, 54, 56, 54, 57, 55, 48, 55, 49, 55, 50, 55, 51, 55, 52, 55, 53, 55, 54, 55, 55, 55, 56, 55, 57, 56, 48, 56, 49, 56, 50, 56, 51, 56, 52, 56, 53, 56, 54, 56, 55, 56, 56, 56, 57, 57, 48, 57, 49, 57, 50, 57, 51, 57, 52, 57, 53, 57, 54, 57, 55, 57, 56, 57, 57] : Bs).drop (IntKind.i64.wrap (i1 * 2)).toNat).take ((IntKind.i64.wrap ((IntKind.i64.wrap (i1 * 2)) + 2)).toNat - (IntKind.i64.wrap (i1 * 2)).toNat))) h)
theorem T180 {i1 : Int} {h : PHeap} {Q : Value → PHeap → Prop} (hR : R180 i1 h Q) : Tri Tryz.prog 180 [vI i1] h Q :=
 tri_of_dn mixed Tryz.func180 rfl (by kernel_rfl) low180 (rs := [.tmp 2]) (by kernel_rfl) rfl (Eq.mpr (by kernel_rfl : dnF Tryz.prog Tryz.f180.ntmps d180 [.tmp 2] [vI i1] h Q = R180 i1 h Q) hR)
end Go.Proofs.D
/- The text of small expressions; the example of the law's package. -/
namespace Go.Sx
def encl (b : Bool) (s : Bytes) : Bytes := if b then [40] ++ s ++ [41] else s
def kd : E → Nat
  | .mk k _ _ _ _ _ _ => k
def opE : E → Bytes
  | .mk _ op _ _ _ _ _ => op
mutual
/-- The text of an expression of names, digits and operators with two sides. -/
def txE : E → Bytes
  | .mk k op nm v _ args _ =>
    if k = 1 then [UInt8.ofNat (48 + v)]
    else if k = 7 then
      let t := txEs args
      encl (decide (kd (args.getD 0 (.mk 0 [] [] 0 [] [] 0)) = 7 ∧ levelS (opE (args.getD 0 (.mk 0 [] [] 0 [] [] 0))) < levelS op)) (t.getD 0 []) ++ [32] ++ op ++ [32] ++
        encl (decide (kd (args.getD 1 (.mk 0 [] [] 0 [] [] 0)) = 7 ∧ levelS (opE (args.getD 1 (.mk 0 [] [] 0 [] [] 0))) ≤ levelS op)) (t.getD 1 [])
    else nm
def txEs : List E → List Bytes
  | [] => []
  | e :: es => txE e :: txEs es
end
mutual
def smE : E → Bool
  | .mk k _ _ v _ args _ => (k == 1 && decide (v < 10) && args.isEmpty || k == 3 && args.isEmpty || k == 7 && args.length == 2) && smEs args
def smEs : List E → Bool
  | [] => true
  | e :: es => smE e && smEs es
end
theorem txEs_map : ∀ (l : List E), txEs l = l.map txE
  | [] => rfl
  | e :: l => by rw [txEs, txEs_map l]; rfl
theorem encl_len (b : Bool) (s : Bytes) : s.length ≤ (encl b s).length := by unfold encl; split <;> simp; omega
end Go.Sx
namespace Go.Proofs.D
open Go Go.Den Go.Sx
set_option maxRecDepth 100000
attribute [local irreducible] IntKind.wrap Tri parseS
section
variable {s : Bytes} {h h' : PHeap}

theorem Own.str {a : OA} {n k : Nat} {L : List Bytes} (hn : n = L.length) (ho : Own h 9 1 (vL a n k) n (L.map fun l => vS l)) : StrAt h a L := by
  subst hn
  rcases ho.2 with ⟨_, h1⟩ | ⟨b, cap, rest, h1, h2, _, _⟩
  · exact .inl (List.eq_nil_of_length_eq_zero h1)
  · injection h1 with h1 _ _
    refine .inr ⟨b, 0, h1, fun j l hj => ?_⟩
    rw [cell_of h2]
    have : j < L.length := (List.getElem?_eq_some_iff.1 hj).1
    rw [List.getElem?_append_left (by simpa using this)]
    simp [hj]

theorem encl_t (b : Bool) (l : Bytes) (hl : l.length ≤ 1000000) (h : PHeap) : Tri Tryz.prog 110 [vS l, vB b] h fun v h' => v = vS (encl b l) ∧ h' = h := by
  refine T110 ?_
  unfold R110
  refine br_split (fun e => ?_) (fun e => ?_)
  · subst e
    refine ⟨by simp; omega, by simp; omega, rfl, rfl⟩
  · subst e; exact ⟨rfl, rfl⟩

theorem itoa_t (v : Nat) (hv : v < 10) (h : PHeap) : Tri Tryz.prog 80 [vI v] h fun r h' => r = vS [UInt8.ofNat (48 + v)] ∧ h' = h := by
  refine T80 ?_
  unfold R80
  suffices hs : Tri Tryz.prog 126 [vI v] h fun r h' => r = vS [UInt8.ofNat (48 + v)] ∧ h' = h by
    refine Tri.mono hs ?_
    rintro _ h ⟨rfl, rfl⟩
    exact ⟨_, rfl, rfl, rfl⟩
  refine T126 ?_
  unfold R126
  suffices hs : Tri Tryz.prog 159 [vI v, vI 10] h fun r h' => r = vS [UInt8.ofNat (48 + v)] ∧ h' = h by
    refine Tri.mono hs ?_
    rintro _ h ⟨rfl, rfl⟩
    exact ⟨_, rfl, rfl, rfl⟩
  refine T159 ?_
  unfold R159
  refine br_pos rfl (br_pos (by simp) (br_pos (by simp; omega) ?_))
  suffices hs : Tri Tryz.prog 180 [vI v] h fun r h' => r = vS [UInt8.ofNat (48 + v)] ∧ h' = h by
    refine Tri.mono hs ?_
    rintro _ h ⟨rfl, rfl⟩
    exact ⟨_, rfl, rfl, rfl⟩
  refine T180 ?_
  unfold R180
  refine br_pos (by simp; omega) ?_
  rw [wrap64 (by omega) (by omega)]
  refine ⟨⟨by omega, by omega, by omega⟩, ?_, rfl⟩
  rw [show (((v : Nat) : Int) + 1).toNat - ((v : Nat) : Int).toNat = 1 by omega, Int.toNat_natCast]
  have : ∀ v, v < 10 → ((([48, 49, 50, 51, 52, 53, 54, 55, 56, 57, 97, 98, 99, 100, 101, 102, 103, 104, 105, 106, 107, 108, 109, 110, 111, 112, 113, 114, 115, 116, 117, 118, 119, 120, 121, 122] : Bytes).drop v).take 1) = [UInt8.ofNat (48 + v)] := by decide
  rw [this v hv]

theorem flat_vS : ∀ (l : List E), (l.map fun e => [vS (txE e)]).flatten = (l.map txE).map fun l => vS l
  | [] => rfl
  | x :: l => by rw [List.map_cons, List.flatten_cons, flat_vS l]; rfl
theorem smEs_iff : ∀ {l : List E}, smEs l = true ↔ ∀ e ∈ l, smE e = true
  | [] => by simp [smEs]
  | e :: l => by simp [smEs, smEs_iff (l := l)]

theorem exp_t : ∀ k e, cntE e ≤ k → k ≤ 100000 → smE e = true → (txE e).length ≤ 1000000 → ∀ cs h, RE (plP s) 8 h e cs → Tri Tryz.prog 67 [vA cs] h fun v h' => v = vS (txE e) ∧ Ext h h' := by
  intro k
  induction k with
  | zero => intro e he; have := cntE_pos e; omega
  | succ k ih =>
    intro e he hk5 hsm hle cs h hrel
    match e, he, hsm, hle, hrel with
    | .mk kd op nm vl tx args pos, he, hsm, hle, hrel =>
    obtain ⟨a1, c1, rfl, hA1⟩ := RE_iff.1 hrel
    simp only [cntE] at he
    have hlen := cntEs_len args
    simp only [smE, Bool.and_eq_true] at hsm
    obtain ⟨hsm1, hsm2⟩ := hsm
    have hsub : ∀ e ∈ args, (txE e).length ≤ 1000000 := fun e hm => by
      simp only [Bool.or_eq_true, Bool.and_eq_true, beq_iff_eq, decide_eq_true_eq] at hsm1
      rcases hsm1 with (⟨_, hn⟩ | ⟨_, hn⟩) | ⟨rfl, h2⟩
      · simp at hn; subst hn; cases hm
      · simp at hn; subst hn; cases hm
      · obtain ⟨x, y, rfl⟩ : ∃ x y, args = [x, y] := match args, h2 with | [x, y], _ => ⟨x, y, rfl⟩
        simp only [txE, txEs, List.getD_cons_zero, List.getD_cons_succ, if_neg (show ¬ (7 : Nat) = 1 by decide), if_true, List.length_append] at hle
        simp only [List.mem_cons, List.not_mem_nil, or_false] at hm
        rcases hm with rfl | rfl
        · have := encl_len (decide (Go.Sx.kd e = 7 ∧ levelS (opE e) < levelS op)) (txE e); omega
        · have := encl_len (decide (Go.Sx.kd e = 7 ∧ levelS (opE e) ≤ levelS op)) (txE e); omega
    refine T67 ?_
    unfold R67
    refine ⟨fun m a n k i h' => ∃ j : Nat, i = j ∧ j + m = args.length ∧ n = j ∧ Ext h h' ∧ LM 9 1 h h' a n k ((args.take j).map fun e => [vS (txE e)]), ⟨args.length, 0, rfl, by omega, rfl, Ext.refl _, LM.nil⟩, ?_⟩
    rintro m a2 n2 k2 _ h1 ⟨j, rfl, hjm, rfl, hx1, hM1⟩
    refine br_split (fun e2 => ?_) (fun e2 => ?_)
    · have hj : n2 < args.length := by
        have := of_decide_eq_true e2
        omega
      obtain ⟨b, o, cs, rfl, hr, hrel⟩ := hA1.get hj
      have hmem := List.getElem_mem hj
      have ihj := ih _ (by have := cntEs_mem hmem; omega) (by omega) (smEs_iff.1 hsm2 _ hmem) (hsub _ hmem) cs h1 (hrel.ext hx1)
      have htake := List.take_append_getElem hj
      generalize args[n2] = x at *
      match x, hrel with
      | .mk kd' op' nm' vl' tx' args' pos', hrel =>
      obtain ⟨a3, c3, rfl, hA3⟩ := RE_iff.1 hrel
      refine ⟨b, o, rfl, ⟨by omega, by omega⟩, _, _, _, _, _, _, _, _, _, _, row_ext (fun ob => hx1 b ob) hr, ?_⟩
      refine Tri.mono ihj ?_
      rintro _ h2 ⟨rfl, hx2⟩
      refine ⟨_, rfl, ?_⟩
      intro b2 hb2 h3 hh3
      refine Raw.mono (LM.append (h0 := h) (cs := [vS _]) und51 elem9 rfl rfl rfl rfl rfl (hM1.ext hx2) hb2 hh3 rfl rfl (by omega) (hx1.trans hx2).dom) ?_
      rintro _ h4 ⟨b4, cap4, rfl, hk4, hd4, hn4, hq4, hM4, hR4⟩
      refine ⟨_, _, _, rfl, m - 1, by omega, ⟨n2 + 1, ?_, by omega, rfl, fun q o hq => hk4 q o (ne_of hq) ((hx1.trans hx2) q o hq), ?_⟩, rfl, trivial⟩
      · rw [wrap64 (by omega) (by omega)]; rfl
      · rw [← htake, List.map_append]; exact hM4
    have hjl : n2 = args.length := by
      have := of_decide_eq_false e2
      omega
    subst hjl
    rw [List.take_length] at hM1
    have hstr : StrAt h1 a2 (args.map txE) := Own.str (n := args.length) (by simp) (by have := hM1.row; rwa [flat_vS] at this)
    simp only [Bool.or_eq_true, Bool.and_eq_true, beq_iff_eq, decide_eq_true_eq] at hsm1
    rcases hsm1 with (⟨⟨rfl, hv⟩, hn⟩ | ⟨rfl, hn⟩) | ⟨rfl, h2⟩
    · refine br_pos rfl ?_
      refine Tri.mono (itoa_t vl hv h1) ?_
      rintro _ h1 ⟨rfl, rfl⟩
      exact ⟨_, rfl, rfl, hx1⟩
    · (repeat refine br_neg rfl ?_)
      exact ⟨rfl, hx1⟩
    · obtain ⟨x, y, rfl⟩ : ∃ x y, args = [x, y] := match args, h2 with | [x, y], _ => ⟨x, y, rfl⟩
      iterate 5 refine br_neg rfl ?_
      refine br_pos rfl ?_
      rcases hstr with hstr | ⟨sb, so, rfl, hstr⟩
      · cases hstr
      rcases hA1 with hA1 | ⟨eb, eo, rfl, hA1⟩
      · cases hA1
      have hs0 := hstr 0 _ rfl
      have hs1 := hstr 1 _ rfl
      obtain ⟨cs0, hr0, hrel0⟩ := hA1 0 x rfl
      obtain ⟨cs1, hr1, hrel1⟩ := hA1 1 y rfl
      have hlx := hsub x (by simp)
      have hly := hsub y (by simp)
      have hex : txE (.mk 7 op nm vl tx [x, y] pos) = encl (decide (Go.Sx.kd x = 7 ∧ levelS (opE x) < levelS op)) (txE x) ++ [32] ++ op ++ [32] ++ encl (decide (Go.Sx.kd y = 7 ∧ levelS (opE y) ≤ levelS op)) (txE y) := rfl
      rw [hex] at hle ⊢
      simp only [List.length_append] at hle
      match x, y, hrel0, hrel1 with
      | .mk k0 op0 nm0 v0 tx0 args0 pos0, .mk k1 op1 nm1 v1 tx1 args1 pos1, hrel0, hrel1 =>
      obtain ⟨a3, c3, rfl, hA3⟩ := RE_iff.1 hrel0
      obtain ⟨a4, c4, rfl, hA4⟩ := RE_iff.1 hrel1
      have hr0 := row_ext (fun ob => hx1 eb ob) hr0
      have hr1 := row_ext (fun ob => hx1 eb ob) hr1
      refine Tri.mono (level_tri op h1) ?_
      rintro _ h1 ⟨rfl, rfl⟩
      have hdl : decide (Go.Sx.kd (.mk k0 op0 nm0 v0 tx0 args0 pos0) = 7 ∧ levelS (opE (.mk k0 op0 nm0 v0 tx0 args0 pos0)) < levelS op) = (decide (k0 = 7) && decide (levelS op0 < levelS op)) := Bool.decide_and ..
      have hdr : decide (Go.Sx.kd (.mk k1 op1 nm1 v1 tx1 args1 pos1) = 7 ∧ levelS (opE (.mk k1 op1 nm1 v1 tx1 args1 pos1)) ≤ levelS op) = (decide (k1 = 7) && decide (levelS op1 ≤ levelS op)) := Bool.decide_and ..
      rw [hdl, hdr] at hle ⊢
      have hlt : decide (((levelS op0 : Nat) : Int) < ((levelS op : Nat) : Int)) = decide (levelS op0 < levelS op) := by rw [Bool.eq_iff_iff]; simp
      have hlr : decide (((levelS op1 : Nat) : Int) ≤ ((levelS op : Nat) : Int)) = decide (levelS op1 ≤ levelS op) := by rw [Bool.eq_iff_iff]; simp
      refine ⟨_, rfl, sb, so, rfl, ⟨by decide, by simp⟩, _, hs0, eb, eo, rfl, ⟨by decide, by simp⟩, _, hr0.1, br_split (fun e => ?_) (fun e => ?_)⟩
      · have e : k0 = 7 := by have := beq_iff_eq.1 e; omega
        refine ⟨eb, eo, rfl, ⟨by decide, by simp⟩, _, hr0.2.1, ?_⟩
        refine Tri.mono (level_tri op0 h1) ?_
        rintro _ h1 ⟨rfl, rfl⟩
        refine ⟨_, rfl, rfl, hr0.1, rfl, hs0, ?_⟩
        refine Tri.mono (encl_t _ _ hlx h1) ?_
        rintro _ h1 ⟨rfl, rfl⟩
        rw [hlt]
        have hdl2 : (decide (k0 = 7) && decide (levelS op0 < levelS op)) = decide (levelS op0 < levelS op) := by rw [e]; rfl
        rw [hdl2] at hle ⊢
        refine ⟨_, rfl, rfl, hr0.1, rfl, sb, so, rfl, ⟨by decide, by simp⟩, _, hs1, eb, eo, rfl, ⟨by decide, by simp⟩, _, hr1.1, br_split (fun e' => ?_) (fun e' => ?_)⟩
        · have e' : k1 = 7 := by have := beq_iff_eq.1 e'; omega
          refine ⟨eb, eo, rfl, ⟨by decide, by simp⟩, _, hr1.2.1, ?_⟩
          refine Tri.mono (level_tri op1 h1) ?_
          rintro _ h1 ⟨rfl, rfl⟩
          refine ⟨_, rfl, rfl, hr1.1, rfl, hs1, ?_⟩
          refine Tri.mono (encl_t _ _ hly h1) ?_
          rintro _ h1 ⟨rfl, rfl⟩
          rw [hlr]
          have hdr2 : (decide (k1 = 7) && decide (levelS op1 ≤ levelS op)) = decide (levelS op1 ≤ levelS op) := by rw [e']; rfl
          rw [hdr2] at hle ⊢
          exact ⟨_, rfl, rfl, hr1.1, rfl, by omega, by simp only [List.length_append]; omega, by simp only [List.length_append]; omega, by simp only [List.length_append]; omega, rfl, hx1⟩
        · have e' : k1 ≠ 7 := fun q => by subst q; cases e'
          refine ⟨hr1.1, rfl, hs1, ?_⟩
          refine Tri.mono (encl_t _ _ hly h1) ?_
          rintro _ h1 ⟨rfl, rfl⟩
          have hdr2 : (decide (k1 = 7) && decide (levelS op1 ≤ levelS op)) = false := by rw [decide_eq_false e']; rfl
          rw [hdr2] at hle ⊢
          exact ⟨_, rfl, hr1.1, rfl, by omega, by simp only [List.length_append]; omega, by simp only [List.length_append]; omega, by simp only [List.length_append]; omega, rfl, hx1⟩
      · have e : k0 ≠ 7 := fun q => by subst q; cases e
        refine ⟨hr0.1, rfl, hs0, ?_⟩
        refine Tri.mono (encl_t _ _ hlx h1) ?_
        rintro _ h1 ⟨rfl, rfl⟩
        have hdl2 : (decide (k0 = 7) && decide (levelS op0 < levelS op)) = false := by rw [decide_eq_false e]; rfl
        rw [hdl2] at hle ⊢
        refine ⟨_, rfl, hr0.1, rfl, sb, so, rfl, ⟨by decide, by simp⟩, _, hs1, eb, eo, rfl, ⟨by decide, by simp⟩, _, hr1.1, br_split (fun e' => ?_) (fun e' => ?_)⟩
        · have e' : k1 = 7 := by have := beq_iff_eq.1 e'; omega
          refine ⟨eb, eo, rfl, ⟨by decide, by simp⟩, _, hr1.2.1, ?_⟩
          refine Tri.mono (level_tri op1 h1) ?_
          rintro _ h1 ⟨rfl, rfl⟩
          refine ⟨_, rfl, rfl, hr1.1, rfl, hs1, ?_⟩
          refine Tri.mono (encl_t _ _ hly h1) ?_
          rintro _ h1 ⟨rfl, rfl⟩
          rw [hlr]
          have hdr2 : (decide (k1 = 7) && decide (levelS op1 ≤ levelS op)) = decide (levelS op1 ≤ levelS op) := by rw [e']; rfl
          rw [hdr2] at hle ⊢
          exact ⟨_, rfl, rfl, hr1.1, rfl, by omega, by simp only [List.length_append]; omega, by simp only [List.length_append]; omega, by simp only [List.length_append]; omega, rfl, hx1⟩
        · have e' : k1 ≠ 7 := fun q => by subst q; cases e'
          refine ⟨hr1.1, rfl, hs1, ?_⟩
          refine Tri.mono (encl_t _ _ hly h1) ?_
          rintro _ h1 ⟨rfl, rfl⟩
          have hdr2 : (decide (k1 = 7) && decide (levelS op1 ≤ levelS op)) = false := by rw [decide_eq_false e']; rfl
          rw [hdr2] at hle ⊢
          exact ⟨_, rfl, hr1.1, rfl, by omega, by simp only [List.length_append]; omega, by simp only [List.length_append]; omega, by simp only [List.length_append]; omega, rfl, hx1⟩

/-- The text of the example. -/
def exT : Bytes := [102, 117, 110, 99, 32, 109, 97, 105, 110, 40, 41, 32, 123, 32, 120, 32, 61, 32, 97, 32, 45, 32, 40, 98, 32, 45, 32, 99, 41, 32, 42, 32, 40, 50, 41, 59, 32, 125]
def exE : E := .mk 7 [45] [] 0 [] [.mk 3 [] [97] 0 [] [] 18, .mk 7 [42] [] 0 [] [.mk 7 [45] [] 0 [] [.mk 3 [] [98] 0 [] [] 23, .mk 3 [] [99] 0 [] [] 27] 25, .mk 1 [] [] 2 [] [] 33] 30] 20
def exP : Pg := ⟨[], [⟨[109, 97, 105, 110], [], [.mk 2 [120] [exE] [] [] 14], 5⟩]⟩
theorem ex_parse : parseS exT = .ok exP := by kernel_rfl
theorem ex_check : (checkS exP).map (·.1) = some 37 := by decide +kernel
theorem ex_text : smE exE = true ∧ txE exE = [97, 32, 45, 32, 40, 98, 32, 45, 32, 99, 41, 32, 42, 32, 50] := by decide +kernel

theorem known_ok : KnownOk := by
  intro h ht
  refine T16 ?_
  unfold R16
  refine Tri.mono (parse_tri exT h ht) ?_
  rintro v h1 ⟨hx1, hv⟩
  rw [ex_parse] at hv
  obtain ⟨ga, gc, fa, fc, rfl, hG, hF⟩ := hv
  have hG := hG.whole (RG_mono _) (Ext.refl _)
  have hF := hF.whole (RF_mono _ _ _) (Ext.refl _)
  refine ⟨_, _, _, _, _, _, _, _, _, rfl, br_neg rfl (br_neg rfl ?_)⟩
  obtain ⟨b1, o1, cs, ha, hr, hrel⟩ := hF.get (n := 0) (by decide)
  obtain ⟨pa, pc, ba, bc, rfl, hP, hB, _⟩ := hrel
  obtain ⟨b2, o2, cs2, hb, hr2, hrel2⟩ := hB.get (n := 0) (by decide)
  obtain ⟨aa, ac, _, _, _, _, rfl, hE, _, _⟩ := RS_iff.1 hrel2
  obtain ⟨b3, o3, cs3, hc, hr3, hrel3⟩ := hE.get (n := 0) (by decide)
  have hw := parseS_wf ex_parse
  have hcnt := parseS_cnt ex_parse
  refine ⟨b1, o1, ha, ⟨by decide, by decide⟩, _, _, _, hr.2.2.1, br_neg rfl ⟨b1, o1, ha, ⟨by decide, by decide⟩, _, _, _, hr.2.2.1, b2, o2, hb, ⟨by decide, by decide⟩, _, _, _, hr2.2.2.1, br_neg rfl ?_⟩⟩
  refine Tri.mono (check_tri hw hcnt hG hF) ?_
  rintro _ h2 ⟨rfl, hx2⟩
  have hr' := row_ext (fun ob => hx2 b1 ob) hr
  have hr2' := row_ext (fun ob => hx2 b2 ob) hr2
  have hr3' := row_ext (fun ob => hx2 b3 ob) hr3
  refine ⟨_, _, _, rfl, b1, o1, ha, ⟨by decide, by decide⟩, _, _, _, hr'.2.2.1, b2, o2, hb, ⟨by decide, by decide⟩, _, _, _, hr2'.2.2.1, b3, o3, hc, ⟨by decide, by decide⟩, ?_⟩
  have hrel3 : RE (plP exT) 8 h1 exE cs3 := hrel3
  obtain ⟨a8, c8, rfl, hA8⟩ := RE_iff.1 hrel3
  refine ⟨_, _, _, _, _, _, _, _, _, _, hr3', ?_⟩
  have hwe : wfE exE := by
    have := wfSs_iff.1 (hw _ (List.mem_cons_self ..)) _ (List.mem_cons_self ..)
    exact (wfEs_iff.1 this.2.1 _ (List.mem_cons_self ..))
  have hout : Tri Tryz.prog 22 [vA ([vI (7 : Nat), vS [45], vS [], vI (0 : Nat), vS [], vL a8 2 c8] ++ plP exT 20)] h2 fun v h' => v = vS (txE exE) ∧ Ext h2 h' := by
    refine T22 ?_
    unfold R22
    intro b4 hb4 h3 hh3
    have hx3 := Put.ext hh3 hb4
    refine Tri.mono (texpr (s := exT) hb4 (cntE exE) exE (Nat.le_refl _) hwe _ (hrel3.ext hx2) h3 (4096 - cntE exE) hx3 ⟨by decide +kernel, Put.at hh3⟩) ?_
    rintro _ h4 ⟨rfl, ha4, hc4⟩
    have hx4 := ext_away hb4 hx3 ha4
    refine ⟨_, rfl, br_neg rfl ?_⟩
    refine Tri.mono (exp_t (s := exT) _ exE (Nat.le_refl _) (by decide +kernel) ex_text.1 (by decide +kernel) _ h4 (hrel3.ext (hx2.trans hx4))) ?_
    rintro _ h5 ⟨rfl, hx5⟩
    exact ⟨_, rfl, rfl, hx4.trans hx5⟩
  refine Tri.mono hout ?_
  rintro _ h3 ⟨rfl, hx3⟩
  refine ⟨_, rfl, br_pos (by rw [ex_text.2]; rfl) ⟨?_, (hx1.trans hx2).trans hx3⟩⟩
  have : (erp exT (checkS exP)).2.2 = 37 := by
    have h0 := ex_check
    cases hq : checkS exP with
    | none => rw [hq] at h0; cases h0
    | some x =>
      rw [hq] at h0
      obtain ⟨c, p⟩ := x
      have h0 : c = 37 := by simpa using h0
      subst h0
      cases p <;> rfl
  rw [this]; rfl
end
end Go.Proofs.D
/- The texts of the law SyntaxLimits, in plain Lean. -/
namespace Go.Sx
set_option maxRecDepth 1000000
def num3 (i : Nat) : Bytes := [UInt8.ofNat (48 + i / 100 % 10), UInt8.ofNat (48 + i / 10 % 10), UInt8.ofNat (48 + i % 10)]
def lim0 : Nat → Bytes
  | 0 => []
  | i + 1 => ((lim0 i ++ [118, 97, 114, 32, 103]) ++ num3 i) ++ [59, 32]
def lim1 : Nat → Bytes
  | 0 => [102, 117, 110, 99, 32, 109, 97, 105, 110, 40, 41, 32, 123, 32, 125, 32]
  | i + 1 => ((lim1 i ++ [102, 117, 110, 99, 32, 102]) ++ num3 (i + 1)) ++ [40, 41, 32, 123, 32, 125, 32]
def lim2 : Nat → Bytes
  | 0 => [102, 117, 110, 99, 32, 109, 97, 105, 110, 40, 41, 32, 123, 32, 125, 32, 102, 117, 110, 99, 32, 102, 40]
  | i + 1 => if 0 < i then ((lim2 i ++ [44, 32]) ++ [112]) ++ num3 i else (lim2 i ++ [112]) ++ num3 i
def lim3 : Nat → Bytes
  | 0 => [102, 117, 110, 99, 32, 109, 97, 105, 110, 40, 41, 32, 123, 32, 125, 32, 102, 117, 110, 99, 32, 102, 40, 112, 41, 32, 123, 32]
  | i + 1 => lim3 i ++ [105, 102, 32, 40, 49, 41, 32, 123, 32, 118, 97, 114, 32, 118, 59, 32, 118, 32, 61, 32, 50, 59, 32, 125, 32]
def limC (t : Bytes) (ok : Bool) : Bool :=
  match parseS t with
  | .error _ => false
  | .ok p => match checkS p with
    | none => ok
    | some (e, _) => !ok && Nat.beq e 9
theorem limK0 : ∀ j, j < 8 → limC (lim0 (60 + j) ++ [102, 117, 110, 99, 32, 109, 97, 105, 110, 40, 41, 32, 123, 32, 125]) (decide (60 + j ≤ 64)) = true := by decide +kernel
theorem limK1 : ∀ j, j < 8 → limC (lim1 (59 + j)) (decide (60 + j ≤ 64)) = true := by decide +kernel
theorem limK2 : ∀ j, j < 9 → limC (lim2 j ++ [41, 32, 123, 32, 125]) (decide (j ≤ 6)) = true := by decide +kernel
theorem limK3 : ∀ j, j < 8 → limC (lim3 (27 + j) ++ [125]) (decide (28 + j ≤ 32)) = true := by decide +kernel
/-- What the plain check says. -/
theorem limC_of {t : Bytes} {ok : Bool} (h : limC t ok = true) : ∃ p, parseS t = .ok p ∧ ((checkS p = none ∧ ok = true) ∨ (∃ x, checkS p = some (9, x)) ∧ ok = false) := by
  unfold limC at h
  split at h
  · cases h
  · rename_i p hp
    refine ⟨p, hp, ?_⟩
    split at h
    · rename_i hc; exact .inl ⟨hc, h⟩
    · rename_i e x hc
      simp only [Bool.and_eq_true, Bool.not_eq_true'] at h
      have := Nat.eq_of_beq_eq_true h.2
      subst this
      exact .inr ⟨⟨x, hc⟩, h.1⟩
theorem lim0_len : ∀ i, (lim0 i).length ≤ 100 * i
  | 0 => by simp [lim0]
  | i + 1 => by have := lim0_len i; simp only [lim0, num3, List.length_append, List.length_cons, List.length_nil]; omega
theorem lim1_len : ∀ i, (lim1 i).length ≤ 100 * i + 100
  | 0 => by simp [lim1]
  | i + 1 => by have := lim1_len i; simp only [lim1, num3, List.length_append, List.length_cons, List.length_nil]; omega
theorem lim2_len : ∀ i, (lim2 i).length ≤ 100 * i + 100
  | 0 => by simp [lim2]
  | i + 1 => by have := lim2_len i; simp only [lim2]; split <;> simp only [num3, List.length_append, List.length_cons, List.length_nil] <;> omega
theorem lim3_len : ∀ i, (lim3 i).length ≤ 100 * i + 100
  | 0 => by simp [lim3]
  | i + 1 => by have := lim3_len i; simp only [lim3, List.length_append, List.length_cons, List.length_nil]; omega
end Go.Sx
namespace Go.Proofs.D
open Go Go.Den
set_option maxRecDepth 100000
set_option maxHeartbeats 4000000
/- replevin/replevinlaw22.SyntaxLimits -/
noncomputable def d8 : DCode := up ⟨[(35, .c (.one false [.str])), (54, .c (.one false [.str])), (74, .c (.one false [.str])), (95, .c (.tup [(true, [.slice, .slice]), (false, [qi]), (false, [qi]), (false, [qi])])), (101, .l [.slice, .slice]), (102, .c (.tup [(false, [qi]), (false, [qi]), (false, [qi])])), (106, .c (.one false [.bool]))], [], [(27, 13, [(5, .str), (8, qi)], []), (46, 13, [(5, .str), (9, qi)], []), (62, 16, [(5, .str), (10, qi)], []), (84, 9, [(5, .str), (11, qi)], [])]⟩ (low Tryz.prog (fun _ => false) (Tryz.f8.body.getD .skip))
theorem low8 : low Tryz.prog (fun _ => false) (Tryz.f8.body.getD .skip) = some (eC d8) := by kernel_rfl
def R8 (i1 : Int) (i2 : Int) (h : PHeap) (Q : Value → PHeap → Prop) : Prop :=
 br ((Int.tmod i1 4) == 0)
 (∃ (I_1 : Nat → Bs → Int → PHeap → Prop), (∃ (m2 : Nat), I_1 m2 [] (0 : Int) h) ∧
 ∀ (m1 : Nat) (l1 : Bs) (i3 : Int) (h_1 : PHeap), I_1 m1 l1 i3 h_1 →
 br (decide (i3 < (IntKind.i64.wrap (60 + (Int.tmod (IntKind.i64.wrap (i2)) 8)))))
 (l1.length + ([118, 97, 114, 32, 103] : Bs).length ≤ 9223372036854775807 ∧
 Tri Tryz.prog 28 [vI i3] h_1 fun v_1 h_2 =>
 ∃ (l2 : Bs), v_1 = vS l2 ∧
 (l1 ++ ([118, 97, 114, 32, 103] : Bs)).length + l2.length ≤ 9223372036854775807 ∧
 ((l1 ++ ([118, 97, 114, 32, 103] : Bs)) ++ l2).length + ([59, 32] : Bs).length ≤ 9223372036854775807 ∧
 ∃ (m3 : Nat), m3 < m1 ∧ I_1 m3 (((l1 ++ ([118, 97, 114, 32, 103] : Bs)) ++ l2) ++ ([59, 32] : Bs)) (IntKind.i64.wrap (i3 + 1)) h_2 ∧
 True)
 (l1.length + ([102, 117, 110, 99, 32, 109, 97, 105, 110, 40, 41, 32, 123, 32, 125] : Bs).length ≤ 9223372036854775807 ∧
 Tri Tryz.prog 14 [vS (l1 ++ ([102, 117, 110, 99, 32, 109, 97, 105, 110, 40, 41, 32, 123, 32, 125] : Bs))] h_1 fun v_2 h_3 =>
 ∃ (a1 : OA) (n1 k1 : Nat) (a2 : OA) (n2 k2 : Nat) (i4 i5 i6 : Int), v_2 = vT [vA [vL a1 n1 k1, vL a2 n2 k2], vI i4, vI i5, vI i6] ∧
 Tri Tryz.prog 19 [vA [vL a1 n1 k1, vL a2 n2 k2]] h_3 fun v_3 h_4 =>
 ∃ (i7 i8 i9 : Int), v_3 = vT [vI i7, vI i8, vI i9] ∧
 Tri Tryz.prog 16 [] h_4 fun v_4 h_5 =>
 ∃ (c1 : Bool), v_4 = vB c1 ∧
 br c1
 (br (i6 == 0)
 (br ((i9 == 0) == (decide ((IntKind.i64.wrap (60 + (Int.tmod (IntKind.i64.wrap (i2)) 8))) ≤ 64)))
 (br (i9 == 0)
 (Q (vB true) h_5)
 (Q (vB (i9 == 9)) h_5))
 (Q (vB false) h_5))
 (Q (vB false) h_5))
 (Q (vB false) h_5)))
 (br ((Int.tmod i1 4) == 1)
 (∃ (I_2 : Nat → Bs → Int → PHeap → Prop), (∃ (m5 : Nat), I_2 m5 [102, 117, 110, 99, 32, 109, 97, 105, 110, 40, 41, 32, 123, 32, 125, 32] (1 : Int) h) ∧
 ∀ (m4 : Nat) (l3 : Bs) (i10 : Int) (h_6 : PHeap), I_2 m4 l3 i10 h_6 →
 br (decide (i10 < (IntKind.i64.wrap (60 + (Int.tmod (IntKind.i64.wrap (i2)) 8)))))
 (l3.length + ([102, 117, 110, 99, 32, 102] : Bs).length ≤ 9223372036854775807 ∧
 Tri Tryz.prog 28 [vI i10] h_6 fun v_5 h_7 =>
 ∃ (l4 : Bs), v_5 = vS l4 ∧
 (l3 ++ ([102, 117, 110, 99, 32, 102] : Bs)).length + l4.length ≤ 9223372036854775807 ∧
 ((l3 ++ ([102, 117, 110, 99, 32, 102] : Bs)) ++ l4).length + ([40, 41, 32, 123, 32, 125, 32] : Bs).length ≤ 9223372036854775807 ∧
 ∃ (m6 : Nat), m6 < m4 ∧ I_2 m6 (((l3 ++ ([102, 117, 110, 99, 32, 102] : Bs)) ++ l4) ++ ([40, 41, 32, 123, 32, 125, 32] : Bs)) (IntKind.i64.wrap (i10 + 1)) h_7 ∧
 True)
 (Tri Tryz.prog 14 [vS l3] h_6 fun v_6 h_8 =>
 ∃ (a3 : OA) (n3 k3 : Nat) (a4 : OA) (n4 k4 : Nat) (i11 i12 i13 : Int), v_6 = vT [vA [vL a3 n3 k3, vL a4 n4 k4], vI i11, vI i12, vI i13] ∧
 Tri Tryz.prog 19 [vA [vL a3 n3 k3, vL a4 n4 k4]] h_8 fun v_7 h_9 =>
 ∃ (i14 i15 i16 : Int), v_7 = vT [vI i14, vI i15, vI i16] ∧
 Tri Tryz.prog 16 [] h_9 fun v_8 h_10 =>
 ∃ (c2 : Bool), v_8 = vB c2 ∧
 br c2
 (br (i13 == 0)
 (br ((i16 == 0) == (decide ((IntKind.i64.wrap (60 + (Int.tmod (IntKind.i64.wrap (i2)) 8))) ≤ 64)))
 (br (i16 == 0)
 (Q (vB true) h_10)
 (Q (vB (i16 == 9)) h_10))
 (Q (vB false) h_10))
 (Q (vB false) h_10))
 (Q (vB false) h_10)))
 (br ((Int.tmod i1 4) == 2)
 (∃ (I_3 : Nat → Bs → Int → PHeap → Prop), (∃ (m8 : Nat), I_3 m8 [102, 117, 110, 99, 32, 109, 97, 105, 110, 40, 41, 32, 123, 32, 125, 32, 102, 117, 110, 99, 32, 102, 40] (0 : Int) h) ∧
 ∀ (m7 : Nat) (l5 : Bs) (i17 : Int) (h_11 : PHeap), I_3 m7 l5 i17 h_11 →
 br (decide (i17 < (Int.tmod (IntKind.i64.wrap (i2)) 9)))
 (br (decide (i17 > 0))
 (l5.length + ([44, 32] : Bs).length ≤ 9223372036854775807 ∧
 (l5 ++ ([44, 32] : Bs)).length + ([112] : Bs).length ≤ 9223372036854775807 ∧
 Tri Tryz.prog 28 [vI i17] h_11 fun v_9 h_12 =>
 ∃ (l6 : Bs), v_9 = vS l6 ∧
 ((l5 ++ ([44, 32] : Bs)) ++ ([112] : Bs)).length + l6.length ≤ 9223372036854775807 ∧
 ∃ (m9 : Nat), m9 < m7 ∧ I_3 m9 (((l5 ++ ([44, 32] : Bs)) ++ ([112] : Bs)) ++ l6) (IntKind.i64.wrap (i17 + 1)) h_12 ∧
 True)
 (l5.length + ([112] : Bs).length ≤ 9223372036854775807 ∧
 Tri Tryz.prog 28 [vI i17] h_11 fun v_10 h_13 =>
 ∃ (l7 : Bs), v_10 = vS l7 ∧
 (l5 ++ ([112] : Bs)).length + l7.length ≤ 9223372036854775807 ∧
 ∃ (m10 : Nat), m10 < m7 ∧ I_3 m10 ((l5 ++ ([112] : Bs)) ++ l7) (IntKind.i64.wrap (i17 + 1)) h_13 ∧
 True))
 (l5.length + ([41, 32, 123, 32, 125] : Bs).length ≤ 9223372036854775807 ∧
 Tri Tryz.prog 14 [vS (l5 ++ ([41, 32, 123, 32, 125] : Bs))] h_11 fun v_11 h_14 =>
 ∃ (a5 : OA) (n5 k5 : Nat) (a6 : OA) (n6 k6 : Nat) (i18 i19 i20 : Int), v_11 = vT [vA [vL a5 n5 k5, vL a6 n6 k6], vI i18, vI i19, vI i20] ∧
 Tri Tryz.prog 19 [vA [vL a5 n5 k5, vL a6 n6 k6]] h_14 fun v_12 h_15 =>
 ∃ (i21 i22 i23 : Int), v_12 = vT [vI i21, vI i22, vI i23] ∧
 Tri Tryz.prog 16 [] h_15 fun v_13 h_16 =>
 ∃ (c3 : Bool), v_13 = vB c3 ∧
 br c3
 (br (i20 == 0)
 (br ((i23 == 0) == (decide ((Int.tmod (IntKind.i64.wrap (i2)) 9) ≤ 6)))
 (br (i23 == 0)
 (Q (vB true) h_16)
 (Q (vB (i23 == 9)) h_16))
 (Q (vB false) h_16))
 (Q (vB false) h_16))
 (Q (vB false) h_16)))
 (br ((Int.tmod i1 4) == 3)
 (∃ (I_4 : Nat → Bs → Int → PHeap → Prop), (∃ (m12 : Nat), I_4 m12 [102, 117, 110, 99, 32, 109, 97, 105, 110, 40, 41, 32, 123, 32, 125, 32, 102, 117, 110, 99, 32, 102, 40, 112, 41, 32, 123, 32] (1 : Int) h) ∧
 ∀ (m11 : Nat) (l8 : Bs) (i24 : Int) (h_17 : PHeap), I_4 m11 l8 i24 h_17 →
 br (decide (i24 < (IntKind.i64.wrap (28 + (Int.tmod (IntKind.i64.wrap (i2)) 8)))))
 (l8.length + ([105, 102, 32, 40, 49, 41, 32, 123, 32, 118, 97, 114, 32, 118, 59, 32, 118, 32, 61, 32, 50, 59, 32, 125, 32] : Bs).length ≤ 9223372036854775807 ∧
 ∃ (m13 : Nat), m13 < m11 ∧ I_4 m13 (l8 ++ ([105, 102, 32, 40, 49, 41, 32, 123, 32, 118, 97, 114, 32, 118, 59, 32, 118, 32, 61, 32, 50, 59, 32, 125, 32] : Bs)) (IntKind.i64.wrap (i24 + 1)) h_17 ∧
 True)
 (l8.length + ([125] : Bs).length ≤ 9223372036854775807 ∧
 Tri Tryz.prog 14 [vS (l8 ++ ([125] : Bs))] h_17 fun v_14 h_18 =>
 ∃ (a7 : OA) (n7 k7 : Nat) (a8 : OA) (n8 k8 : Nat) (i25 i26 i27 : Int), v_14 = vT [vA [vL a7 n7 k7, vL a8 n8 k8], vI i25, vI i26, vI i27] ∧
 Tri Tryz.prog 19 [vA [vL a7 n7 k7, vL a8 n8 k8]] h_18 fun v_15 h_19 =>
 ∃ (i28 i29 i30 : Int), v_15 = vT [vI i28, vI i29, vI i30] ∧
 Tri Tryz.prog 16 [] h_19 fun v_16 h_20 =>
 ∃ (c4 : Bool), v_16 = vB c4 ∧
 br c4
 (br (i27 == 0)
 (br ((i30 == 0) == (decide ((IntKind.i64.wrap (28 + (Int.tmod (IntKind.i64.wrap (i2)) 8))) ≤ 32)))
 (br (i30 == 0)
 (Q (vB true) h_20)
 (Q (vB (i30 == 9)) h_20))
 (Q (vB false) h_20))
 (Q (vB false) h_20))
 (Q (vB false) h_20)))
 (Tri Tryz.prog 14 [vS []] h fun v_17 h_21 =>
 ∃ (a9 : OA) (n9 k9 : Nat) (a10 : OA) (n10 k10 : Nat) (i31 i32 i33 : Int), v_17 = vT [vA [vL a9 n9 k9, vL a10 n10 k10], vI i31, vI i32, vI i33] ∧
 Tri Tryz.prog 19 [vA [vL a9 n9 k9, vL a10 n10 k10]] h_21 fun v_18 h_22 =>
 ∃ (i34 i35 i36 : Int), v_18 = vT [vI i34, vI i35, vI i36] ∧
 Tri Tryz.prog 16 [] h_22 fun v_19 h_23 =>
 ∃ (c5 : Bool), v_19 = vB c5 ∧
 br c5
 (br (i33 == 0)
 (br ((i36 == 0) == true)
 (br (i36 == 0)
 (Q (vB true) h_23)
 (Q (vB (i36 == 9)) h_23))
 (Q (vB false) h_23))
 (Q (vB false) h_23))
 (Q (vB false) h_23)))))
theorem T8 {i1 : Int} {i2 : Int} {h : PHeap} {Q : Value → PHeap → Prop} (hR : R8 i1 i2 h Q) : Tri Tryz.prog 8 [vU i1, vU i2] h Q :=
 tri_of_dn mixed Tryz.func8 rfl (by kernel_rfl) low8 (rs := [.tmp 4]) (by kernel_rfl) rfl (Eq.mpr (by kernel_rfl : dnF Tryz.prog Tryz.f8.ntmps d8 [.tmp 4] [vU i1, vU i2] h Q = R8 i1 i2 h Q) hR)
/- replevin/replevinlaw22.number -/
noncomputable def d28 : DCode := up ⟨[], [], []⟩ (low Tryz.prog (fun _ => false) (Tryz.f28.body.getD .skip))
theorem low28 : low Tryz.prog (fun _ => false) (Tryz.f28.body.getD .skip) = some (eC d28) := by kernel_rfl
def R28 (i1 : Int) (h : PHeap) (Q : Value → PHeap → Prop) : Prop :=
 ∀ (b1 : Nat), h b1 = none → ∀ (h_1 : PHeap), h_1 = h.put b1 (.cells ⟨[vU (IntKind.u8.wrap (48 + (IntKind.u8.wrap ((Int.tmod (IntKind.i64.wrap (Int.tdiv i1 100)) 10))))), vU (IntKind.u8.wrap (48 + (IntKind.u8.wrap ((Int.tmod (IntKind.i64.wrap (Int.tdiv i1 10)) 10))))), vU (IntKind.u8.wrap (48 + (IntKind.u8.wrap ((Int.tmod i1 10)))))]⟩ 5) →
 ∃ (l1 : Bs), BytesAt h_1 (ad b1 0) 3 l1 ∧
 Q (vS l1) h_1
theorem T28 {i1 : Int} {h : PHeap} {Q : Value → PHeap → Prop} (hR : R28 i1 h Q) : Tri Tryz.prog 28 [vI i1] h Q :=
 tri_of_dn mixed Tryz.func28 rfl (by kernel_rfl) low28 (rs := [.tmp 2]) (by kernel_rfl) rfl (Eq.mpr (by kernel_rfl : dnF Tryz.prog Tryz.f28.ntmps d28 [.tmp 2] [vI i1] h Q = R28 i1 h Q) hR)
end Go.Proofs.D
/- The law SyntaxLimits. -/
namespace Go.Proofs.D
open Go Go.Den Go.Sx
set_option maxRecDepth 100000
theorem num3_ok : ∀ i : Nat, i < 68 → IntKind.u8.wrap (48 + (IntKind.u8.wrap ((Int.tmod (IntKind.i64.wrap (Int.tdiv (i : Int) 100)) 10)))) = ((UInt8.ofNat (48 + i / 100 % 10)).toNat : Int) ∧
    IntKind.u8.wrap (48 + (IntKind.u8.wrap ((Int.tmod (IntKind.i64.wrap (Int.tdiv (i : Int) 10)) 10)))) = ((UInt8.ofNat (48 + i / 10 % 10)).toNat : Int) ∧ IntKind.u8.wrap (48 + (IntKind.u8.wrap ((Int.tmod (i : Int) 10)))) = ((UInt8.ofNat (48 + i % 10)).toNat : Int) := by decide +kernel
attribute [local irreducible] IntKind.wrap Tri parseS checkS limC lim0 lim1 lim2 lim3

theorem num3_t (i : Nat) (hi : i < 68) (h : PHeap) : Tri Tryz.prog 28 [vI i] h fun v h' => v = vS (num3 i) ∧ Ext h h' := by
  refine T28 ?_
  unfold R28
  intro b hb h1 hh1
  obtain ⟨g1, g2, g3⟩ := num3_ok i hi
  rw [g1, g2, g3] at hh1
  refine ⟨num3 i, .inr ⟨b, 0, rfl, rfl, row_lit (Put.at hh1) fun j v hj => by rw [Nat.zero_add]; exact hj⟩, rfl, Put.ext hh1 hb⟩

/-- The end of the law. -/
theorem limF {h0 h : PHeap} (ht : L.EscTab h) (hx : Ext h0 h) {t : Bytes} {C : Bool} (hc : limC t C = true) :
    Tri Tryz.prog 14 [vS t] h fun v_2 h_3 => ∃ (a1 : OA) (n1 k1 : Nat) (a2 : OA) (n2 k2 : Nat) (i4 i5 i6 : Int), v_2 = vT [vA [vL a1 n1 k1, vL a2 n2 k2], vI i4, vI i5, vI i6] ∧
      Tri Tryz.prog 19 [vA [vL a1 n1 k1, vL a2 n2 k2]] h_3 fun v_3 h_4 => ∃ (i7 i8 i9 : Int), v_3 = vT [vI i7, vI i8, vI i9] ∧
        Tri Tryz.prog 16 [] h_4 fun v_4 h_5 => ∃ (c1 : Bool), v_4 = vB c1 ∧
          br c1 (br (i6 == 0) (br ((i9 == 0) == C) (br (i9 == 0) (vB true = vB true ∧ Ext h0 h_5) (vB (i9 == 9) = vB true ∧ Ext h0 h_5)) (vB false = vB true ∧ Ext h0 h_5)) (vB false = vB true ∧ Ext h0 h_5)) (vB false = vB true ∧ Ext h0 h_5) := by
  obtain ⟨p, hp, hck⟩ := limC_of hc
  refine Tri.mono (parse_tri t h ht) ?_
  rintro v h1 ⟨hx1, hv⟩
  rw [hp] at hv
  obtain ⟨ga, gc, fa, fc, rfl, hG, hF⟩ := hv
  refine ⟨_, _, _, _, _, _, _, _, _, rfl, ?_⟩
  refine Tri.mono (check_tri (parseS_wf hp) (parseS_cnt hp) (hG.whole (RG_mono _) (Ext.refl _)) (hF.whole (RF_mono _ _ _) (Ext.refl _))) ?_
  rintro _ h2 ⟨rfl, hx2⟩
  refine ⟨_, _, _, rfl, ?_⟩
  refine Tri.mono (known_ok h2 (ht.ext (hx1.trans hx2))) ?_
  rintro _ h3 ⟨rfl, hx3⟩
  have hxx := hx.trans ((hx1.trans hx2).trans hx3)
  refine ⟨_, rfl, br_pos rfl (br_pos rfl ?_)⟩
  rcases hck with ⟨h1, h2⟩ | ⟨⟨x, h1⟩, h2⟩
  · rw [h1, h2]
    exact br_pos rfl (br_pos rfl ⟨rfl, hxx⟩)
  · rw [h1, h2]
    have : (erp t (some (9, x))).2.2 = 9 := by cases x <;> rfl
    rw [this]
    exact br_pos rfl (br_neg rfl ⟨rfl, hxx⟩)

theorem tm8 {n c : Nat} (hn : n < 256) : Int.tmod (IntKind.i64.wrap (n : Int)) 8 = ((n % 8 : Nat) : Int) := by
  rw [wrap64 (by omega) (by omega)]; rfl

theorem limits_tri {h : PHeap} (ht : L.EscTab h) {k n : Nat} (hk : k < 256) (hn : n < 256) : Tri Tryz.prog 8 [.int .u8 k, .int .u8 n] h fun v h' => v = vB true ∧ Ext h h' := by
  refine T8 ?_
  unfold R8
  have hm : Int.tmod (k : Int) 4 = ((k % 4 : Nat) : Int) := rfl
  have h8 : Int.tmod (IntKind.i64.wrap (n : Int)) 8 = ((n % 8 : Nat) : Int) := by rw [wrap64 (by omega) (by omega)]; rfl
  have h9 : Int.tmod (IntKind.i64.wrap (n : Int)) 9 = ((n % 9 : Nat) : Int) := by rw [wrap64 (by omega) (by omega)]; rfl
  have hj8 : n % 8 < 8 := Nat.mod_lt _ (by decide)
  have hj9 : n % 9 < 9 := Nat.mod_lt _ (by decide)
  have h60 : IntKind.i64.wrap (60 + ((n % 8 : Nat) : Int)) = ((60 + n % 8 : Nat) : Int) := by rw [wrap64 (by omega) (by omega)]; omega
  have h28 : IntKind.i64.wrap (28 + ((n % 8 : Nat) : Int)) = ((28 + n % 8 : Nat) : Int) := by rw [wrap64 (by omega) (by omega)]; omega
  rw [hm, h8, h9, h60, h28]
  have hdec : ∀ a b : Nat, decide (((a : Nat) : Int) ≤ ((b : Nat) : Int)) = decide (a ≤ b) := fun a b => by rw [Bool.eq_iff_iff]; simp
  generalize n % 8 = j8 at *
  generalize n % 9 = j9 at *
  have hkm : k % 4 < 4 := Nat.mod_lt _ (by decide)
  generalize k % 4 = q at *
  match q, hkm with
  | 0, _ =>
    refine br_pos rfl ⟨fun m l i h' => Ext h h' ∧ ∃ c : Nat, i = c ∧ c + m = 60 + j8 ∧ l = lim0 c, ⟨60 + j8, Ext.refl _, 0, rfl, by omega, by with_unfolding_all rfl⟩, ?_⟩
    rintro m _ _ h1 ⟨hx1, c, rfl, hcm, rfl⟩
    have hl := lim0_len c
    refine br_split (fun e => ?_) (fun e => ?_)
    · have hc : c < 60 + j8 := by have := of_decide_eq_true e; omega
      refine ⟨by simp; omega, ?_⟩
      refine Tri.mono (num3_t c (by omega) h1) ?_
      rintro _ h2 ⟨rfl, hx2⟩
      refine ⟨_, rfl, by simp [num3]; omega, by simp [num3]; omega, m - 1, by omega, ⟨hx1.trans hx2, c + 1, ?_, by omega, ?_⟩, trivial⟩
      · rw [wrap64 (by omega) (by omega)]; rfl
      · with_unfolding_all rfl
    · have hc : c = 60 + j8 := by have := of_decide_eq_false e; omega
      subst hc
      refine ⟨by simp; omega, ?_⟩
      exact limF (ht.ext hx1) hx1 (by rw [show decide (((60 + j8 : Nat) : Int) ≤ 64) = decide (60 + j8 ≤ 64) from hdec _ 64]; exact limK0 j8 hj8)
  | 1, _ =>
    refine br_neg rfl (br_pos rfl ⟨fun m l i h' => Ext h h' ∧ ∃ c : Nat, i = ((c + 1 : Nat) : Int) ∧ c + m = 59 + j8 ∧ l = lim1 c, ⟨59 + j8, Ext.refl _, 0, rfl, by omega, by with_unfolding_all rfl⟩, ?_⟩)
    rintro m _ _ h1 ⟨hx1, c, rfl, hcm, rfl⟩
    have hl := lim1_len c
    refine br_split (fun e => ?_) (fun e => ?_)
    · have hc : c + 1 < 60 + j8 := by have := of_decide_eq_true e; omega
      refine ⟨by simp; omega, ?_⟩
      refine Tri.mono (num3_t (c + 1) (by omega) h1) ?_
      rintro _ h2 ⟨rfl, hx2⟩
      refine ⟨_, rfl, by simp [num3]; omega, by simp [num3]; omega, m - 1, by omega, ⟨hx1.trans hx2, c + 1, ?_, by omega, ?_⟩, trivial⟩
      · rw [wrap64 (by omega) (by omega)]; rfl
      · with_unfolding_all rfl
    · have hc : c = 59 + j8 := by have := of_decide_eq_false e; omega
      subst hc
      exact limF (ht.ext hx1) hx1 (by rw [show decide (((60 + j8 : Nat) : Int) ≤ 64) = decide (60 + j8 ≤ 64) from hdec _ 64]; exact limK1 j8 hj8)
  | 2, _ =>
    refine br_neg rfl (br_neg rfl (br_pos rfl ⟨fun m l i h' => Ext h h' ∧ ∃ c : Nat, i = c ∧ c + m = j9 ∧ l = lim2 c, ⟨j9, Ext.refl _, 0, rfl, by omega, by with_unfolding_all rfl⟩, ?_⟩))
    rintro m _ _ h1 ⟨hx1, c, rfl, hcm, rfl⟩
    have hl := lim2_len c
    refine br_split (fun e => ?_) (fun e => ?_)
    · have hc : c < j9 := by have := of_decide_eq_true e; omega
      refine br_split (fun e' => ?_) (fun e' => ?_)
      · have hc' : 0 < c := by have := of_decide_eq_true e'; omega
        refine ⟨by simp; omega, by simp; omega, ?_⟩
        refine Tri.mono (num3_t c (by omega) h1) ?_
        rintro _ h2 ⟨rfl, hx2⟩
        refine ⟨_, rfl, by simp [num3]; omega, m - 1, by omega, ⟨hx1.trans hx2, c + 1, ?_, by omega, ?_⟩, trivial⟩
        · rw [wrap64 (by omega) (by omega)]; rfl
        · have : lim2 (c + 1) = if 0 < c then ((lim2 c ++ [44, 32]) ++ [112]) ++ num3 c else (lim2 c ++ [112]) ++ num3 c := by with_unfolding_all rfl
          rw [this, if_pos hc']
      · have hc' : ¬ 0 < c := by have := of_decide_eq_false e'; omega
        refine ⟨by simp; omega, ?_⟩
        refine Tri.mono (num3_t c (by omega) h1) ?_
        rintro _ h2 ⟨rfl, hx2⟩
        refine ⟨_, rfl, by simp [num3]; omega, m - 1, by omega, ⟨hx1.trans hx2, c + 1, ?_, by omega, ?_⟩, trivial⟩
        · rw [wrap64 (by omega) (by omega)]; rfl
        · have : lim2 (c + 1) = if 0 < c then ((lim2 c ++ [44, 32]) ++ [112]) ++ num3 c else (lim2 c ++ [112]) ++ num3 c := by with_unfolding_all rfl
          rw [this, if_neg hc']
    · have hc : c = j9 := by have := of_decide_eq_false e; omega
      subst hc
      refine ⟨by simp; omega, ?_⟩
      exact limF (ht.ext hx1) hx1 (by rw [show decide (((c : Nat) : Int) ≤ 6) = decide (c ≤ 6) from hdec _ 6]; exact limK2 c hj9)
  | 3, _ =>
    refine br_neg rfl (br_neg rfl (br_neg rfl (br_pos rfl ⟨fun m l i h' => Ext h h' ∧ ∃ c : Nat, i = ((c + 1 : Nat) : Int) ∧ c + m = 27 + j8 ∧ l = lim3 c, ⟨27 + j8, Ext.refl _, 0, rfl, by omega, by with_unfolding_all rfl⟩, ?_⟩)))
    rintro m _ _ h1 ⟨hx1, c, rfl, hcm, rfl⟩
    have hl := lim3_len c
    refine br_split (fun e => ?_) (fun e => ?_)
    · have hc : c + 1 < 28 + j8 := by have := of_decide_eq_true e; omega
      refine ⟨by simp; omega, m - 1, by omega, ⟨hx1, c + 1, ?_, by omega, ?_⟩, trivial⟩
      · rw [wrap64 (by omega) (by omega)]; rfl
      · with_unfolding_all rfl
    · have hc : c = 27 + j8 := by have := of_decide_eq_false e; omega
      subst hc
      refine ⟨by simp; omega, ?_⟩
      exact limF (ht.ext hx1) hx1 (by rw [show decide (((28 + j8 : Nat) : Int) ≤ 32) = decide (28 + j8 ≤ 32) from hdec _ 32]; exact limK3 j8 hj8)
end Go.Proofs.D
/- From a triple to what a row asks. -/
namespace Go.Fr
open Go Go.Den Go.ChangeShapes Go.RowKit

/-- Of what was there nothing turns. -/
def Kept (w w' : World) : Prop := w'.os = w.os ∧ w'.output = w.output ∧ w.heap.size ≤ w'.heap.size ∧ ∀ k, k < w.heap.size → w'.heap[k]? = w.heap[k]?

theorem calls_of_tri {P : Program} {f : FuncId} {fn : Func} {args : List Value} {Q : Value → Prop} {h : PHeap} (ht : Tri P f args h fun v h' => Q v ∧ ∀ k o, h k = some o → h' k = some o) (hf : P.funcs[f]? = some fn) (hb : fn.body.isSome = true) (hname : (fn.name == "runtime.NumGoroutine") = false) (w : World) (hs : Sub w h) :
    Calls P f args.toArray w fun e w' => ∃ v, e = .returned v ∧ Q v ∧ Kept w w' := by
  have h1 := ht w hs
  unfold CallR at h1
  have hcall : (callFunc f args.toArray).run P w = .ok (.enter f args.toArray) w := by
    unfold callFunc
    have hname' : ¬ fn.name = "runtime.NumGoroutine" := fun e => by rw [e] at hname; simp at hname
    cases hbb : fn.body with
    | none => rw [hbb] at hb; cases hb
    | some c => simp [program, Sem.run, hf, hname', hbb]
  rw [hcall] at h1
  refine Calls.mono h1 fun e w' he => ?_
  cases e with
  | returned v =>
    obtain ⟨h', ⟨hq, hx⟩, hs', hk⟩ := he
    refine ⟨v, rfl, hq, hk.os, hk.output, hk.size, fun k hk' => ?_⟩
    cases hh : h k with
    | none => exact (hk.out k hk' hh).2
    | some o => rw [hs k o hh, hs' k o (hx k o hh)]
  | _ => exact he.elim

/-- The part of a world that is one block. -/
def one (w : World) (b : Nat) : PHeap := fun k => if k = b then w.heap[b]? else none
theorem one_sub (w : World) (b : Nat) : Sub w (one w b) := fun k o hk => by
  unfold one at hk; split at hk
  · rename_i e; subst e; exact hk
  · cases hk
theorem one_cell {w : World} {b i : Nat} {v : Value} (h : w.cell? ⟨b, i, none⟩ = some v) : (one w b).cell b i = some v := by
  unfold World.cell? at h
  unfold PHeap.cell one
  rw [if_pos rfl]
  cases hb : w.heap[b]? with
  | none => simp [hb] at h
  | some o =>
    cases o with
    | cells c t z => simpa [hb] using h
    | _ => simp [hb] at h

theorem Kept.but {w w' : World} (h : Kept w w') (may : MemPlace → Prop) : w.keptBut w' may := by
  obtain ⟨h1, h2, h3, h4⟩ := h
  obtain ⟨_, _, r⟩ := World.keptBut_refl w may
  refine ⟨h1, h2, fun i hi => ?_⟩
  have := r i hi
  rw [h4 i hi]
  exact this

theorem Kept.frozen {w w' : World} (h : Kept w w') (b off : Nat) (hb : b < w.heap.size) : w'.frozen? ⟨b, off, none⟩ = w.frozen? ⟨b, off, none⟩ := by
  simp only [World.frozen?, h.2.2.2 b hb]

section
variable {H : Type} {enc : TypeId × Value → H} {P : Program}

/-- The arguments read as they did; the results have no places. -/
theorem post_kept {f : Func} {s : ChangeSpec} {apart fresh handsOn again : Bool} {W W' : World} {args : Array Value} {v : Value} {ds gs : List (DataW H)} {before pa pv : List MemPlace}
    (hW : DataW.Whole enc P f.params.toList s.vars apart W args.toList ds gs before)
    (hres : ∀ (b : Nat) (sp : Nat → Bool) (hd : Bool), DataW.TrodAll enc P W' b sp hd f.resultTypes.toList (v.resultList f.resultTypes.size) (s.fn H (ds ++ gs)).results [])
    (hargs : ∀ sp : Nat → Bool, (∀ p ∈ before, sp p.block = true) → DataW.TrodAll enc P W' 0 sp true f.params.toList args.toList (s.fn H (ds ++ gs)).args pa)
    (hvars : ∀ sp : Nat → Bool, (∀ p ∈ before, sp p.block = true) → DataW.TrodVars enc P W' sp s.vars (s.fn H (ds ++ gs)).vars pv)
    (hps : before = pa ++ pv) (hk : Kept W W')
    (hok : ∀ (j : Nat) (t : TypeId) (r : Value), f.resultTypes[j]? = some t → (v.resultList f.resultTypes.size)[j]? = some r → Value.okWide P W' .any 0 t r) :
    s.post enc P f apart fresh handsOn again W args v W' := by
  have hlt : ∀ p ∈ before, p.block < W.heap.size := fun p hp => hW.lt p hp
  have hold : ∀ p ∈ before, (fun b => decide (b < W.heap.size)) p.block = true := fun p hp => by simpa using hlt p hp
  refine ⟨ds, gs, before, [], pa, pv, hW, hres _ _ _, hargs _ hold, hvars _ hold, World.keptBut_mono (fun p hp => ⟨hp, ?_⟩) (hk.but _), fun _ => ?_⟩
  · rw [hps, List.mem_append] at hp
    exact Or.inr hp
  · obtain ⟨_, _, _, _, _, hz, hn⟩ := hW
    refine ⟨hok, _, _, ([] ++ pa) ++ pv, ⟨[] ++ pa, pv, trodAll_append (hargs _ (fun _ _ => rfl)) (hres _ _ _), hvars _ (fun _ _ => rfl), rfl, ?_, ?_⟩, ?_⟩
    · intro b off hp
      have hp' : MemPlace.cell b off ∈ before := by rw [hps]; simpa using hp
      rw [hk.frozen b off (hlt _ hp')]
      exact hz b off hp'
    · intro ha
      have := hn ha
      rw [hps] at this
      simpa using this
    · intro p hp _
      rw [hps]
      simpa using hp
end
end Go.Fr
