import Derived.Test.YtifjnoabmbckpaaGreatDoorDenS10
namespace Go.Den
open Go
section
variable {P : Program} {n : Nat} {w0 : World} {h0 : PHeap} {esc : Nat → Bool}

theorem Rel.draw {s : St} {bs : Nat → Nat} {h : PHeap} {a : Act} {w : World} (r : Rel n w0 h0 s bs h a w) : Rel n w0 h0 s bs h a { w with drawn := w.drawn + 1 } :=
  ⟨r.size, r.defers, r.regs, r.big, r.sub, ⟨r.keep.os, r.keep.tape, r.keep.output, r.keep.size, r.keep.out⟩, r.loc, r.inj, r.lt⟩

theorem low_sound (hm : P.follows .mixedOrders = true) : ∀ {c : Code} {sc : SCode} {s : St} {bs : Nat → Nat} {h : PHeap} {a : Act} {w : World} {Q : Ex → St → PHeap → Prop},
    low P esc c = some sc → den P n sc Q s h → Rel n w0 h0 s bs h a w → c.wp P (QR n w0 h0 Q) a w
  | .skip, sc, s, bs, h, a, w, Q, hl, hd, r => by cases hl; exact wp_skip ⟨s, bs, h, hd, r⟩
  | .region id ops false, sc, s, bs, h, a, w, Q, hl, hd, r => by
    simp only [low] at hl
    cases hx : lowOpers P esc ops ops.toList with
    | none => rw [hx] at hl; cases hl
    | some l =>
      rw [hx] at hl; cases hl
      exact wp_region_list (denL_sound hx r hd)
  | .region id ops true, sc, s, bs, h, a, w, Q, hl, hd, r => by
    simp only [low] at hl
    split at hl
    · rename_i l hap hx
      cases hl
      have hlen : l.length = ops.size := by
        have h1 : ∀ (xs : List Oper) (ys : List (SOper × List Nat)), lowDraw P esc ops xs = some ys → ys.length = xs.length := by
          intro xs
          induction xs with
          | nil => intro ys hy; cases hy; rfl
          | cons x xs ih =>
            intro ys hy
            unfold lowDraw at hy
            split at hy
            · rename_i _ _ _ hys; cases hy; simp [ih _ hys]
            · cases hy
        have := h1 _ _ hx
        simpa using this
      refine wp_region_any hm (wpAny_of_T (W := fun i k => waitsN l k i) _ _ [] _ _ ?_)
      have hd' : denA P n l (Q .normal) ops.size [] [] s h := by rw [← hlen]; exact hd
      refine denA_sound hx hap (done := []) ⟨by simp, fun i hi => by simp [memN, hi], fun i hi => by cases hi⟩ ?_ r.draw (ps := []) (qs := []) trivial (fun q hq => by cases hq) hd'
      intro i o ho hli
      have : (Array.replicate ops.size false).getD i false = false := by
        rw [Array.getD_eq_getD_getElem?, Array.getElem?_replicate]; split <;> rfl
      rw [this] at hli; cases hli
    · cases hl
  | .seq x y, sc, s, bs, h, a, w, Q, hl, hd, r => by
    simp only [low] at hl
    split at hl
    · rename_i x' y' hx hy
      cases hl
      refine wp_seq (wp_mono (low_sound hm hx hd r) fun e a' w' hq => ?_)
      cases e with
      | normal => obtain ⟨s', bs', h', hq, r'⟩ := hq; exact low_sound hm hy hq r'
      | exit k => exact hq
      | ret => exact hq
      | goto l => exact hq.elim
      | panic ch => exact hq.elim
      | outgrown => exact hq.elim
    · cases hl
  | .cond c x y, sc, s, bs, h, a, w, Q, hl, hd, r => by
    simp only [low] at hl
    split at hl
    · rename_i x' y' hx hy
      cases hl
      simp only [den] at hd
      split at hd
      · rename_i b hb
        have hc := (r.vv hb).1
        cases b <;> simp only [br, litO_eq hb] at hd
        · exact wp_cond hc (low_sound hm hy hd r)
        · exact wp_cond hc (low_sound hm hx hd r)
      · exact hd.elim
    · cases hl
  | .block id c, sc, s, bs, h, a, w, Q, hl, hd, r => by
    simp only [low] at hl
    cases hx : low P esc c with
    | none => rw [hx] at hl; cases hl
    | some x =>
      rw [hx] at hl; cases hl
      refine wp_block (wp_mono (low_sound hm hx hd r) fun e a' w' hq => ?_)
      cases e with
      | normal => exact hq
      | exit k =>
        obtain ⟨s', bs', h', hq, r'⟩ := hq
        simp only [Exit.inBlock]
        simp only at hq
        split at hq
        · rename_i hb
          rw [if_pos (Nat.eq_of_beq_eq_true hb)]
          exact ⟨s', bs', h', hq, r'⟩
        · rename_i hb
          rw [if_neg (fun e => by rw [e, beqSelf] at hb; cases hb)]
          exact ⟨s', bs', h', hq, r'⟩
      | ret => exact hq
      | goto l => exact hq.elim
      | panic ch => exact hq.elim
      | outgrown => exact hq.elim
  | .loop c, sc, s, bs, h, a, w, Q, hl, hd, r => by
    simp only [low] at hl
    cases hx : low P esc c with
    | none => rw [hx] at hl; cases hl
    | some x =>
      rw [hx] at hl
      simp only [Option.map_some, Option.some.injEq] at hl
      subst hl
      simp only [den] at hd
      obtain ⟨α, I, V, L, μ, ⟨x0, hI0, hfR, hfL⟩, hv, hround⟩ := hd
      refine wp_loopM (P := P) (fun m a' w' => ∃ y h' bs', I y h' ∧ μ y h' = m ∧ Rel n w0 h0 (mkSt s (dedupN (swrites x)) (V y) (L y)) bs' h' a' w')
        (fun m a' w' hI => ?_) ⟨x0, h, bs, hI0, rfl, r.toLoop r (hv x0) hfR hfL (Nat.le_refl _) (fun _ _ => rfl)⟩
      obtain ⟨y, h', bs', hIy, hm', r'⟩ := hI
      refine wp_mono (low_sound hm hx (den_frame (hround y h' hIy) (Q' := fun e s2 h2 => (match e with
        | .normal => ∃ x', I x' h2 ∧ μ x' h2 < μ y h' ∧ fitR s2.regs (V x') ∧ fitL s2.locs (mkSt s (dedupN (swrites x)) (V x') (L x')).locs s.nl
        | .exit k => Q (.exit k) s2 h2
        | .ret => Q .ret s2 h2) ∧ (∀ j, memN j (swrites x) = false → s2.regs j = (mkSt s (dedupN (swrites x)) (V y) (L y)).regs j) ∧ s.nl ≤ s2.nl)
        fun e s2 h2 q hj hnl => ⟨q, hj, hnl⟩) r') fun e a2 w2 hq => ?_
      cases e with
      | normal =>
        obtain ⟨s2, bs2, h2, ⟨⟨x', hI', hlt, h1, h2'⟩, hj, hnl⟩, r2⟩ := hq
        refine ⟨μ x' h2, by omega, x', h2, bs2, hI', rfl, r.toLoop r2 (hv x') h1 h2' hnl fun j hjm => ?_⟩
        rw [hj j (by rw [← dedupN_mem]; exact hjm)]
        exact mkSt_regs (hv y) hjm
      | exit k => obtain ⟨s2, bs2, h2, ⟨q, _⟩, r2⟩ := hq; exact ⟨s2, bs2, h2, q, r2⟩
      | ret => obtain ⟨s2, bs2, h2, ⟨q, _⟩, r2⟩ := hq; exact ⟨s2, bs2, h2, q, r2⟩
      | goto l => exact hq.elim
      | panic ch => exact hq.elim
      | outgrown => exact hq.elim
  | .scope _, sc, s, bs, h, a, w, Q, hl, hd, r | .label _, sc, s, bs, h, a, w, Q, hl, hd, r | .goto _, sc, s, bs, h, a, w, Q, hl, hd, r | .refuse _, sc, s, bs, h, a, w, Q, hl, hd, r | .rangeFunc .., sc, s, bs, h, a, w, Q, hl, hd, r => by cases hl; exact hd.elim
  | .exit id, sc, s, bs, h, a, w, Q, hl, hd, r => by cases hl; exact wp_exit ⟨s, bs, h, hd, r⟩
  | .ret, sc, s, bs, h, a, w, Q, hl, hd, r => by cases hl; exact wp_ret ⟨s, bs, h, hd, r⟩

/-- Two ways at a test, in a proof. -/
theorem br_split {c : Bool} {X Y : Prop} (ht : c = true → X) (hf : c = false → Y) : br c X Y := by
  cases c
  · exact hf rfl
  · exact ht rfl

/-! ### A function -/

/-- Where a function's results lie. -/
inductive SRes where
  | tmp (t : Nat)
  | cell (t : Nat) (agg : Bool) (k : Nat)

def lowRes (P : Program) : List ResultVar → Option (List SRes)
  | [] => some []
  | .tmp t :: l => (lowRes P l).map (.tmp t :: ·)
  | .cell x t :: l => match isAggT P t, sizeT P t, lowRes P l with
    | some true, some k, some l => some (.cell x true k :: l)
    | some false, some _, some l => some (.cell x false 1 :: l)
    | _, _, _ => none

def denRes (s : St) (h : PHeap) : List SRes → (List Value → Prop) → Prop
  | [], K => K []
  | .tmp t :: l, K => match s.regs t with
    | .val v => denRes s h l fun vs => K (v :: vs)
    | _ => False
  | .cell x agg k :: l, K => match s.regs x with
    | .loc i off => match Nat.ble (off + k) (s.locs i).length with
      | true => denRes s h l fun vs => K (packV agg (((s.locs i).drop off).take k) :: vs)
      | false => False
    | .val (.pointer (some ⟨b, off, none⟩)) => ∃ vs : List Value, vs.length = k ∧ h.row b off vs ∧ denRes s h l fun us => K (packV agg vs :: us)
    | _ => False

def retV : List Value → Value
  | [v] => v
  | l => .tuple ⟨l⟩

def st0 (args : List Value) : St where
  regs := fun j => match args[j]? with
    | some v => .val v
    | none => .val undef
  nl := 0
  locs := fun _ => []

def denF (P : Program) (n : Nat) (c : SCode) (rs : List SRes) (args : List Value) (h : PHeap) (Q : Value → PHeap → Prop) : Prop :=
  den P n c (fun e s h => match e with
    | .exit _ => False
    | .normal => denRes s h rs fun vs => Q (retV vs) h
    | .ret => denRes s h rs fun vs => Q (retV vs) h) (st0 args) h

def resF (tmps : Array Value) : ResultVar → Sem Value
  | .tmp t => pure (tmps.getD t undef)
  | .cell a t => do loadVar t (← asAddr (tmps.getD a undef))

theorem results_eq (fn : Func) (tmps : Array Value) : results fn tmps = (do
    let vs ← fn.results.mapM (resF tmps)
    pure (if h : vs.size = 1 then vs[0] else .tuple vs)) := by
  have : (fun x : ResultVar => (match x with
    | .tmp t => pure (tmps.getD t undef)
    | .cell a t => do loadVar t (← asAddr (tmps.getD a undef)) : Sem Value)) = resF tmps := by
    funext x; cases x <;> rfl
  rw [← this]
  rfl

theorem retV_run {fn : Func} {tmps : Array Value} {w : World} {vs : List Value} (hr : (fn.results.toList.mapM (resF tmps)).run P w = .ok vs w) : (results fn tmps).run P w = .ok (retV vs) w := by
  rw [results_eq, Array.mapM_eq_mapM_toList]
  simp only [Sem.run_bind, Sem.run_map, hr, Result.andThen_ok, Sem.run_pure]
  match vs with
  | [] => rfl
  | [v] => rfl
  | v :: u :: l => rfl

theorem denRes_sound {s : St} {bs : Nat → Nat} {h : PHeap} {a : Act} {w : World} (r : Rel n w0 h0 s bs h a w) : ∀ {l : List ResultVar} {rs : List SRes} {K : List Value → Prop}, lowRes P l = some rs → denRes s h rs K →
    ∃ vs, K vs ∧ (l.mapM (resF a.tmps)).run P w = .ok vs w
  | [], rs, K, hl, hd => by cases hl; exact ⟨[], hd, by simp⟩
  | .tmp t :: l, rs, K, hl, hd => by
    simp only [lowRes] at hl
    cases hx : lowRes P l with
    | none => rw [hx] at hl; cases hl
    | some rs' =>
      rw [hx] at hl; cases hl
      simp only [denRes] at hd
      split at hd
      · rename_i v hv
        obtain ⟨vs, hk, hrun⟩ := denRes_sound r hx hd
        have he : a.eval (.tmp t) = v := (r.vv (x := .tmp t) hv).1
        have he : a.tmps.getD t undef = v := he
        exact ⟨v :: vs, hk, by rw [List.mapM_cons]; simp only [resF, Sem.run_bind, he, Sem.run_pure, Result.andThen_ok, hrun]⟩
      · exact hd.elim
  | .cell x t :: l, rs, K, hl, hd => by
    have key : ∀ (agg : Bool) (k : Nat) (rs' : List SRes), isAggT P t = some agg → (agg = true → sizeT P t = some k) → (agg = false → k = 1) → lowRes P l = some rs' → denRes s h (.cell x agg k :: rs') K →
        ∃ vs, K vs ∧ ((.cell x t :: l : List ResultVar).mapM (resF a.tmps)).run P w = .ok vs w := by
      intro agg k rs' h1 h2 h3 hx hd
      have fin : ∀ (b off : Nat) (us : List Value), a.tmps.getD x undef = .pointer (some ⟨b, off, none⟩) → us.length = k → (∀ j v, us[j]? = some v → w.cell? ((⟨b, off, none⟩ : Addr).add j) = some v) →
          (denRes s h rs' fun vs => K (packV agg us :: vs)) → ∃ vs, K vs ∧ ((.cell x t :: l : List ResultVar).mapM (resF a.tmps)).run P w = .ok vs w := by
        intro b off us he hlen hc hd
        obtain ⟨vs, hk, hrun⟩ := denRes_sound r hx hd
        refine ⟨packV agg us :: vs, hk, ?_⟩
        have hload : (loadVar t ⟨b, off, none⟩).run P w = .ok (packV agg us) w := by
          cases agg with
          | true => exact run_loadAgg h1 (by rw [hlen]; exact h2 rfl) hc
          | false =>
            match us, hlen.trans (h3 rfl) with
            | [v], _ =>
              have := hc 0 v rfl
              rw [addNone, Nat.add_zero] at this
              exact run_loadOne h1 this
        rw [List.mapM_cons]
        simp only [resF, Sem.run_bind, he, asAddr, Sem.run_pure, Result.andThen_ok, hload, hrun]
      simp only [denRes] at hd
      split at hd
      · rename_i i off hv
        obtain ⟨he, hi⟩ := r.evloc (x := .tmp x) hv
        split at hd
        · rename_i hle
          have hle := Nat.le_of_ble_eq_true hle
          exact fin _ _ _ he (by simp; omega) (fun j v hj => by rw [addNone]; exact r.localCell hi (drop_take_get hj)) hd
        · exact hd.elim
      · rename_i b off hv
        obtain ⟨us, hlen, hrow, hd⟩ := hd
        exact fin _ _ us (r.vv (x := .tmp x) hv).1 hlen (fun j v hj => r.sub.row hrow j v hj) hd
      · exact hd.elim
    simp only [lowRes] at hl
    split at hl
    · rename_i h1 h2 h3; cases hl; exact key true _ _ h1 (fun _ => h2) (fun e => by cases e) h3 hd
    · rename_i h1 h2 h3; cases hl; exact key false 1 _ h1 (fun e => by cases e) (fun _ => rfl) h3 hd
    · cases hl

theorem st0_rel {args : List Value} {h : PHeap} {w : World} (hn : args.length ≤ n) (hs : Sub w h) (bs : Nat → Nat) :
    Rel n w h (st0 args) bs h { tmps := args.toArray ++ Array.replicate (n - args.toArray.size) undef, defers := [] } w where
  size := by simp; omega
  defers := rfl
  regs := fun j hj => by
    have hget : (args.toArray ++ Array.replicate (n - args.toArray.size) undef).getD j undef = args.getD j undef := by
      rw [Array.getD_eq_getD_getElem?, Array.getElem?_append, List.getD_eq_getElem?_getD]
      simp only [List.size_toArray, List.getElem?_toArray]
      split
      · rfl
      · rw [List.getElem?_eq_none (by omega), Array.getElem?_replicate]
        split <;> rfl
    rw [hget, List.getD_eq_getElem?_getD]
    simp only [st0]
    cases args[j]? <;> rfl
  big := fun j i o hj => by
    simp only [st0]
    rw [List.getElem?_eq_none (by omega)]
    exact ⟨(fun e => by cases e), fun v e => by cases e; rfl⟩
  sub := hs
  keep := Keep.refl w h
  loc := fun i hi => by simp [st0] at hi
  inj := fun i j hi => by simp [st0] at hi
  lt := fun j i o _ e => by
    simp only [st0] at e
    split at e <;> cases e

/-- **A function's triple, from its symbolic run.** -/
theorem tri_of_den (hm : P.follows .mixedOrders = true) {f : FuncId} {fn : Func} {c : Code} {sc : SCode} {rs : List SRes} {args : List Value} {h : PHeap} {Q : Value → PHeap → Prop}
    (hf : P.funcs[f]? = some fn) (hb : fn.body = some c) (hname : (fn.name == "runtime.NumGoroutine") = false) (hl : low P esc c = some sc) (hr : lowRes P fn.results.toList = some rs) (hn : Nat.ble args.length fn.ntmps = true)
    (hd : denF P fn.ntmps sc rs args h Q) : Tri P f args h Q := by
  intro w hs
  unfold CallR
  have hcall : (callFunc f args.toArray).run P w = .ok (.enter f args.toArray) w := by
    unfold callFunc
    have hname' : ¬ fn.name = "runtime.NumGoroutine" := fun e => by rw [e] at hname; simp at hname
    simp [program, Sem.run, hf, hname', hb]
  rw [hcall]
  refine calls_of_wp hf hb (wp_mono (low_sound hm hl hd (st0_rel (Nat.le_of_ble_eq_true hn) hs (fun _ => 0))) fun e a w' hq => ?_)
  have fin : ∀ (s : St) (bs : Nat → Nat) (h' : PHeap), (denRes s h' rs fun vs => Q (retV vs) h') → Rel fn.ntmps w h s bs h' a w' → a.defers = [] ∧ ∃ v, (results fn a.tmps).run P w' = .ok v w' ∧
      retR (fun v w' => ∃ h', Q v h' ∧ Sub w' h' ∧ Keep w h w' h') (.returned v) w' := fun s bs h' hq r => by
    obtain ⟨vs, hk, hrun⟩ := denRes_sound r hr hq
    exact ⟨r.defers, retV vs, retV_run hrun, h', hk, r.sub, r.keep⟩
  cases e with
  | normal => obtain ⟨s, bs, h', hq, r⟩ := hq; exact fin s bs h' hq r
  | ret => obtain ⟨s, bs, h', hq, r⟩ := hq; exact fin s bs h' hq r
  | exit k => obtain ⟨s, bs, h', hq, r⟩ := hq; exact hq.elim
  | goto l => exact hq.elim
  | panic ch => exact hq.elim
  | outgrown => exact hq.elim
end
end Go.Den
