import Derived.Test.YtifjnoabmbckpaaGreatDoorNes4
/- Code, loops, functions: the evaluator is sound. -/
namespace Go.Ev
open Go Go.Den

theorem memN_mem {x : Nat} : ∀ {l : List Nat}, memN x l = true ↔ x ∈ l
  | [] => by simp [memN]
  | y :: l => by
    unfold memN
    by_cases e : x = y
    · subst e; simp
    · rw [beqNe e]; simp [e, memN_mem (l := l)]

theorem subN_mem : ∀ {l m : List Nat}, subN l m = true → ∀ x ∈ l, x ∈ m
  | [], m, _, x, hx => by cases hx
  | y :: l, m, hs, x, hx => by
    simp only [subN, Bool.and_eq_true] at hs
    cases hx with
    | head => exact memN_mem.1 hs.1
    | tail _ ht => exact subN_mem hs.2 x ht

def noloc : SV → SV
  | .val v => .val v
  | _ => .junk

/-- The registers that a loop carries. -/
def carry (ws : List Nat) (f : Nat → SV) : List (Nat × SV) := ws.map fun j => (j, f j)

theorem lookN_carry {f : Nat → SV} : ∀ {ws : List Nat} {j : Nat}, lookN j (carry ws f) = if j ∈ ws then some (f j) else none
  | [], j => by simp [carry, lookN]
  | w :: ws, j => by
    unfold carry
    rw [List.map_cons, lookN]
    by_cases e : j = w
    · subst e; simp
    · rw [beqNe e, cond_false]
      have := lookN_carry (f := f) (ws := ws) (j := j)
      unfold carry at this
      rw [this]; simp [e]

theorem fitR_carry {f g : Nat → SV} : ∀ {ws : List Nat}, (∀ j ∈ ws, g j = f j) → fitR g (carry ws f)
  | [], _ => trivial
  | [w], h => h w (by simp)
  | w :: w2 :: ws, h => ⟨h w (by simp), fitR_carry (ws := w2 :: ws) fun j hj => h j (List.mem_cons_of_mem _ hj)⟩

theorem vOk_carry {k : Nat} {W : List Nat} {f : Nat → SV} (hf : ∀ j i o, f j ≠ .loc i o) : ∀ {ws : List Nat}, (∀ j ∈ ws, j ∈ W) → vOk k W (carry ws f)
  | [], _ => trivial
  | w :: ws, h => by
    have ih := vOk_carry (k := k) (W := W) hf (ws := ws) fun j hj => h j (List.mem_cons_of_mem _ hj)
    unfold carry at ih ⊢
    rw [List.map_cons]
    unfold vOk
    have h1 : memN w W = true := memN_mem.2 (h w List.mem_cons_self)
    simp only [h1, Bool.true_and]
    cases hw : f w with
    | loc i o => exact absurd hw (hf w i o)
    | val v => exact ih
    | junk => exact ih

theorem mkSt_regs (s : St) (ws : List Nat) (f : Nat → SV) (j : Nat) : (mkSt s ws (carry ws f) []).regs j = if j ∈ ws then f j else s.regs j := by
  unfold mkSt
  simp only [lookN_carry]
  by_cases e : j ∈ ws
  · simp [e]
  · have : memN j ws = false := by
      cases hb : memN j ws
      · rfl
      · exact absurd (memN_mem.1 hb) e
    simp [e, this]

structure LX where
  m : Nat
  R : T LV
  H : T Blk
  nx : Nat
  ρ : Rho
  f : Nat → SV

section
variable {P : Program} {G n lf : Nat} {call : CallE}

def GoesC (G : Nat) (ρ : Rho) (nx : Nat) (W : List Nat) (R : T LV) (s : St) (K : KC) (Q : Ex → St → PHeap → Prop) : Prop :=
  ∀ e R' s' H' nx' ρ' h', nx ≤ nx' → Agr nx ρ ρ' → HR G ρ' H' nx' h' → RR ρ' R' s' → NL s' → Same W R R' s s' → K e R' H' nx' = true → Q e s' h'

theorem evC_sound (hcall : CallOk P G call) : ∀ {sc : SCode} {ec : ECode} {ρ : Rho} {R : T LV} {s : St} {H : T Blk} {nx : Nat} {h : PHeap} {K : KC} {Q : Ex → St → PHeap → Prop},
    cC P G n sc = some ec → RR ρ R s → HR G ρ H nx h → NL s → evC call lf ec R H nx K = true → GoesC G ρ nx (swrites sc) R s K Q → den P n sc Q s h
  | .skip, ec, ρ, R, s, H, nx, h, K, Q, hc, hr, hh, hn, he, hk => by
    cases hc
    exact hk .normal R s H nx ρ h (Nat.le_refl _) (Agr.refl _ _) hh hr hn (Same.refl _ _ _) he
  | .bad, ec, ρ, R, s, H, nx, h, K, Q, hc, hr, hh, hn, he, hk => by cases hc; cases he
  | .ops l, ec, ρ, R, s, H, nx, h, K, Q, hc, hr, hh, hn, he, hk => by
    simp only [cC] at hc
    obtain ⟨es, h1, h2⟩ := map_some hc
    cases h2
    exact evL_sound hcall h1 hr hh hn he fun R' s' H' nx' ρ' h' e1 e2 e3 e4 e5 e6 e7 => hk .normal R' s' H' nx' ρ' h' e1 e2 e3 e4 e5 e6 e7
  | .draw l, ec, ρ, R, s, H, nx, h, K, Q, hc, hr, hh, hn, he, hk => by
    simp only [cC] at hc
    obtain ⟨p, h1, h2⟩ := map_some hc
    cases h2
    exact evPl_sound hcall h1 hr hh hn (pens := []) (pen := []) trivial he fun R' s' H' nx' ρ' h' e1 e2 e3 e4 e5 e6 e7 => hk .normal R' s' H' nx' ρ' h' e1 e2 e3 e4 e5 e6 e7
  | .seq a b, ec, ρ, R, s, H, nx, h, K, Q, hc, hr, hh, hn, he, hk => by
    simp only [cC] at hc
    split at hc
    · rename_i ea eb h1 h2
      cases hc
      simp only [evC] at he
      simp only [den]
      refine evC_sound hcall h1 hr hh hn he fun e R' s' H' nx' ρ' h' e1 e2 e3 e4 e5 e6 e7 => ?_
      have inl : ∀ j, j ∈ swrites a → j ∈ swrites (.seq a b) := fun j hj => by simp [swrites, hj]
      have inr : ∀ j, j ∈ swrites b → j ∈ swrites (.seq a b) := fun j hj => by simp [swrites, hj]
      cases e with
      | normal =>
        exact evC_sound hcall h2 e4 e3 e5 e7 fun e R2 s2 H2 nx2 ρ2 h2 f1 f2 f3 f4 f5 f6 f7 =>
          hk e R2 s2 H2 nx2 ρ2 h2 (Nat.le_trans e1 f1) (e2.trans f2 e1) f3 f4 f5 (e6.trans f6 inl inr) f7
      | exit k => exact hk _ R' s' H' nx' ρ' h' e1 e2 e3 e4 e5 (e6.mono inl) e7
      | ret => exact hk _ R' s' H' nx' ρ' h' e1 e2 e3 e4 e5 (e6.mono inl) e7
    · cases hc
  | .cond c a b, ec, ρ, R, s, H, nx, h, K, Q, hc, hr, hh, hn, he, hk => by
    simp only [cC] at hc
    split at hc
    · rename_i x ea eb h0 h1 h2
      cases hc
      simp only [evC] at he
      have inl : ∀ j, j ∈ swrites a → j ∈ swrites (.cond c a b) := fun j hj => by simp [swrites, hj]
      have inr : ∀ j, j ∈ swrites b → j ∈ swrites (.cond c a b) := fun j hj => by simp [swrites, hj]
      split at he
      · rename_i hx
        obtain ⟨v, hv, hvr⟩ := cX_ev hr hh.glob h0 hx
        cases hvr
        simp only [den, hv, br, litO_eq hv]
        exact evC_sound hcall h1 hr hh hn he fun e R2 s2 H2 nx2 ρ2 h2 f1 f2 f3 f4 f5 f6 f7 => hk e R2 s2 H2 nx2 ρ2 h2 f1 f2 f3 f4 f5 (f6.mono inl) f7
      · rename_i hx
        obtain ⟨v, hv, hvr⟩ := cX_ev hr hh.glob h0 hx
        cases hvr
        simp only [den, hv, br, litO_eq hv]
        exact evC_sound hcall h2 hr hh hn he fun e R2 s2 H2 nx2 ρ2 h2 f1 f2 f3 f4 f5 f6 f7 => hk e R2 s2 H2 nx2 ρ2 h2 f1 f2 f3 f4 f5 (f6.mono inr) f7
      · cases he
    · cases hc
  | .block id c, ec, ρ, R, s, H, nx, h, K, Q, hc, hr, hh, hn, he, hk => by
    simp only [cC] at hc
    obtain ⟨e0, h1, h2⟩ := map_some hc
    cases h2
    simp only [evC] at he
    simp only [den]
    refine evC_sound hcall h1 hr hh hn he fun e R' s' H' nx' ρ' h' e1 e2 e3 e4 e5 e6 e7 => ?_
    cases e with
    | normal => exact hk _ R' s' H' nx' ρ' h' e1 e2 e3 e4 e5 e6 e7
    | exit k =>
      simp only at e7 ⊢
      cases hb : Nat.beq k id <;> rw [hb] at e7
      · exact hk _ R' s' H' nx' ρ' h' e1 e2 e3 e4 e5 e6 e7
      · exact hk _ R' s' H' nx' ρ' h' e1 e2 e3 e4 e5 e6 e7
    | ret => exact hk _ R' s' H' nx' ρ' h' e1 e2 e3 e4 e5 e6 e7
  | .loop ws c, ec, ρ, R, s, H, nx, h, K, Q, hc, hr, hh, hn, he, hk => by
    simp only [cC] at hc
    split at hc
    · rename_i hsub
      have hsub := subN_mem hsub
      obtain ⟨e0, h1, h2⟩ := map_some hc
      cases h2
      simp only [evC] at he
      refine ⟨LX, fun x h => HR G x.ρ x.H x.nx h ∧ nx ≤ x.nx ∧ Agr nx ρ x.ρ ∧ loopE (fun R H nx K => evC call lf e0 R H nx K) x.m x.R x.H x.nx K = true ∧ RR x.ρ x.R (mkSt s ws (carry ws fun j => noloc (x.f j)) []) ∧ ∀ j, j ∉ ws → x.R.get j = R.get j,
        fun x => carry ws fun j => noloc (x.f j), fun _ => [], fun x _ => x.m, ⟨⟨lf, R, H, nx, ρ, s.regs⟩, ⟨hh, Nat.le_refl _, Agr.refl _ _, he, ?_, fun _ _ => rfl⟩, ?_, ?_⟩, fun x => vOk_carry (fun j i o => ?_) fun j hj => hj, fun x h hI => ?_⟩
      · intro j lv hj
        obtain ⟨v, hv, hvr⟩ := hr j lv hj
        refine ⟨v, ?_, hvr⟩
        rw [mkSt_regs]
        split
        · show noloc (s.regs j) = _; rw [hv]; rfl
        · exact hv
      · refine fitR_carry fun j _ => ?_
        show s.regs j = noloc (s.regs j)
        cases hs : s.regs j with
        | val v => rfl
        | loc i o => exact absurd hs (hn.2 j i o)
        | junk => rfl
      · rw [hn.1]; exact trivial
      · cases x.f j <;> simp [noloc]
      · obtain ⟨i1, i2, i3, i4, i5, i6⟩ := hI
        have hNL : NL (mkSt s ws (carry ws fun j => noloc (x.f j)) []) := by
          refine ⟨hn.1, fun j i o => ?_⟩
          rw [mkSt_regs]
          split
          · cases x.f j <;> simp [noloc]
          · exact hn.2 j i o
        cases hm : x.m with
        | zero => rw [hm] at i4; cases i4
        | succ m =>
          rw [hm] at i4
          simp only [loopE] at i4
          have outs : ∀ {e : Ex} {R' s' H' nx' ρ' h'}, x.nx ≤ nx' → Agr x.nx x.ρ ρ' → HR G ρ' H' nx' h' → RR ρ' R' s' → NL s' → Same (swrites c) x.R R' (mkSt s ws (carry ws fun j => noloc (x.f j)) []) s' → K e R' H' nx' = true → Q e s' h' := by
            intro e R' s' H' nx' ρ' h' f1 f2 f3 f4 f5 f6 f7
            refine hk e R' s' H' nx' ρ' h' (Nat.le_trans i2 f1) (i3.trans f2 i2) f3 f4 f5 (fun j hj => ?_) f7
            have hj1 : j ∉ ws := fun hm => hj (by simp [swrites, hm])
            have hj2 : j ∉ swrites c := fun hm => hj (by simp [swrites, hm])
            obtain ⟨g1, g2⟩ := f6 j hj2
            rw [mkSt_regs, if_neg hj1] at g2
            exact ⟨g1.trans (i6 j hj1), g2⟩
          refine evC_sound hcall h1 i5 i1 hNL i4 fun e R' s' H' nx' ρ' h' f1 f2 f3 f4 f5 f6 f7 => ?_
          cases e with
          | normal =>
            have hnol : ∀ j, noloc (s'.regs j) = s'.regs j := fun j => by
              cases hs : s'.regs j with
              | val v => rfl
              | loc i o => exact absurd hs (f5.2 j i o)
              | junk => rfl
            refine ⟨⟨m, R', H', nx', ρ', s'.regs⟩, ⟨f3, Nat.le_trans i2 f1, i3.trans f2 i2, f7, ?_, fun j hj => ?_⟩, ?_, fitR_carry fun j _ => (hnol j).symm, by rw [hn.1]; exact trivial⟩
            · intro j lv hj
              by_cases hjw : j ∈ ws
              · obtain ⟨v, hv, hvr⟩ := f4 j lv hj
                exact ⟨v, by rw [mkSt_regs, if_pos hjw, hnol]; exact hv, hvr⟩
              · have hj2 : j ∉ swrites c := fun hm => hjw (hsub j hm)
                obtain ⟨g1, g2⟩ := f6 j hj2
                have hg : R.get j = some lv := by rw [← i6 j hjw, ← g1]; exact hj
                obtain ⟨v, hv, hvr⟩ := hr j lv hg
                exact ⟨v, by rw [mkSt_regs, if_neg hjw]; exact hv, hvr.mono (hh.le (i3.trans f2 i2))⟩
            · have hj2 : j ∉ swrites c := fun hm => hj (hsub j hm)
              exact (f6 j hj2).1.trans (i6 j hj)
            · show m < x.m; omega
          | exit k => exact outs f1 f2 f3 f4 f5 f6 f7
          | ret => exact outs f1 f2 f3 f4 f5 f6 f7
    · cases hc
  | .exit k, ec, ρ, R, s, H, nx, h, K, Q, hc, hr, hh, hn, he, hk => by
    cases hc
    exact hk _ R s H nx ρ h (Nat.le_refl _) (Agr.refl _ _) hh hr hn (Same.refl _ _ _) he
  | .ret, ec, ρ, R, s, H, nx, h, K, Q, hc, hr, hh, hn, he, hk => by
    cases hc
    exact hk _ R s H nx ρ h (Nat.le_refl _) (Agr.refl _ _) hh hr hn (Same.refl _ _ _) he

theorem evR_sound {ρ : Rho} {R : T LV} {s : St} {H : T Blk} {nx : Nat} {h : PHeap} (hr : RR ρ R s) (hh : HR G ρ H nx h) : ∀ {rs : List SRes} {K : List LV → Bool} {Q : List Value → Prop}, evR R H (cRes rs) K = true →
    (∀ l l', LR ρ l l' → K l = true → Q l') → denRes s h rs Q
  | [], K, Q, he, hk => hk [] [] LR.nil he
  | .tmp t :: rs, K, Q, he, hk => by
    simp only [cRes, evR] at he
    split at he
    · rename_i lv hlv
      obtain ⟨v, hv, hvr⟩ := hr t lv hlv
      simp only [denRes, hv]
      exact evR_sound hr hh he fun l l' h1 h2 => hk _ _ (LR.cons hvr h1) h2
    · cases he
  | .cell x agg k :: rs, K, Q, he, hk => by
    simp only [cRes, evR] at he
    split at he
    · rename_i b o hlv
      obtain ⟨v, hv, hvr⟩ := hr x _ hlv
      cases hvr with
      | ptr hb =>
        obtain ⟨l, l', h1, h2, h3, h4⟩ := rowK_sound hh hb he
        obtain ⟨lv, h5, h6⟩ := packK_sound h2 h1
        simp only [denRes, hv]
        exact ⟨l', h3, h4, evR_sound hr hh h5 fun m m' g1 g2 => hk _ _ (LR.cons h6 g1) g2⟩
    · cases he

theorem retE_sound {ρ : Rho} {l : List LV} {l' : List Value} {K : LV → Bool} (hl : LR ρ l l') (he : retE l K = true) : ∃ lv, K lv = true ∧ VR ρ lv (retV l') := by
  unfold retE at he
  split at he
  · obtain ⟨v', r, rfl, hv, hr⟩ := hl.cons_inv
    rw [hr.nil_inv]
    exact ⟨_, he, hv⟩
  · rename_i hne
    refine ⟨_, he, ?_⟩
    have : retV l' = .tuple ⟨l'⟩ := by
      unfold retV
      split
      · rename_i v
        exfalso
        have h1 := hl.1
        match l, h1 with
        | [x], _ => exact hne x rfl
      · rfl
    rw [this]
    exact .tup hl.1 hl.2

/-- A function's entry in the table is its code. -/
def FnOk (P : Program) (G f : Nat) (e : EFn) : Prop := ∃ fn, P.funcs[f]? = some fn ∧ (fn.name == "runtime.NumGoroutine") = false ∧ cF P G fn = some e

theorem evB_sound (hm : P.follows .mixedOrders = true) {tab : T EFn} (ht : ∀ f e, tab.get f = some e → FnOk P G f e) {call : CallE} {k : Nat} (hcall : CallOk P G call) : CallOk P G (evB call k tab) :=
  fun f args args' H nx h ρ K Q hl hh he hq => by
    simp only [evB] at he
    split at he
    · rename_i e hte
      split at he
      · rename_i hnt
        rw [T.ofLK_eq] at he
        obtain ⟨fn, hf, hname, hcf⟩ := ht f e hte
        unfold cF at hcf
        split at hcf
        · rename_i c hb
          split at hcf
          · rename_i sc rs hlow hres
            split at hcf
            · rename_i ec hcc
              cases hcf
              have hlen : args.length = args'.length := hl.1
              have hnt : args.length ≤ fn.ntmps := by rw [← lenL_eq]; exact Nat.le_of_ble_eq_true hnt
              refine tri_of_den (fn := fn) (esc := fun _ => true) hm hf hb hname hlow hres (by rw [Nat.ble_eq, ← hlen]; exact hnt) ?_
              unfold denF
              have hRR : RR ρ (T.ofL args) (st0 args') := by
                intro j lv hj
                rw [T.ofL_get] at hj
                obtain ⟨v, hv, hvr⟩ := hl.get hj
                exact ⟨v, by simp only [st0, hv], hvr⟩
              have hNL : NL (st0 args') := ⟨rfl, fun j i o => by simp only [st0]; split <;> simp⟩
              refine evC_sound hcall hcc hRR hh hNL he fun ex R' s' H' nx' ρ' h' e1 e2 e3 e4 e5 e6 e7 => ?_
              have fin : evR R' H' (cRes rs) (fun vs => retE vs fun v => K v H' nx') = true → denRes s' h' rs fun vs => Q (retV vs) h' := fun h1 =>
                evR_sound e4 e3 h1 fun l l' g1 g2 => by
                  obtain ⟨lv, g3, g4⟩ := retE_sound g1 g2
                  exact hq lv _ H' nx' ρ' h' e1 e2 e3 g4 g3
              cases ex with
              | normal => exact fin e7
              | exit k => cases e7
              | ret => exact fin e7
            · cases hcf
          · cases hcf
        · cases hcf
      · cases he
    · cases he

/-- The known functions answer as they are said to, and leave memory alone. -/
def OraOk (P : Program) (ora : Ora) : Prop :=
  ∀ f o args r, ora.get f = some o → o args = some r → ∀ (ρ : Rho) (args' : List Value), LR ρ args args' → ∃ v, VR ρ r v ∧ ∀ h, Tri P f args' h fun v' h' => v' = v ∧ h' = h

theorem Tri.mono' {f : FuncId} {args : List Value} {h : PHeap} {Q Q' : Value → PHeap → Prop} (ht : Tri P f args h Q) (hq : ∀ v h', Q v h' → Q' v h') : Tri P f args h Q' := Tri.mono ht hq

theorem evF_sound (hm : P.follows .mixedOrders = true) {ora : Ora} (ho : OraOk P ora) {tab : T EFn} (ht : ∀ f e, tab.get f = some e → FnOk P G f e) : ∀ (k : Nat), CallOk P G (evF ora tab k)
  | 0 => fun f args args' H nx h ρ K Q _ _ he _ => by cases he
  | k + 1 => fun f args args' H nx h ρ K Q hl hh he hq => by
    simp only [evF] at he
    split at he
    · rename_i o hof
      split at he
      · rename_i r hor
        obtain ⟨v, hv, hT⟩ := ho f o args r hof hor ρ args' hl
        exact Tri.mono' (hT h) fun v' h' ⟨e1, e2⟩ => by
          subst e1; subst e2
          exact hq r v' H nx ρ h' (Nat.le_refl _) (Agr.refl _ _) hh hv he
      · exact evB_sound hm ht (evF_sound hm ho ht k) f args args' H nx h ρ K Q hl hh he hq
    · exact evB_sound hm ht (evF_sound hm ho ht k) f args args' H nx h ρ K Q hl hh he hq

theorem oraNone : OraOk P .lf := fun f o args r hf => by rw [T.get_l] at hf; cases hf

/-- A call that needs no memory needs none of the caller's. -/
theorem tri_frame {f : FuncId} {args : List Value} {Q : Value → Prop} (ht : Tri P f args (fun _ => none) fun v _ => Q v) (h : PHeap) : Tri P f args h fun v h' => Q v ∧ h' = h := by
  intro w hs
  have h1 := ht w (fun k o hk => by cases hk)
  unfold CallR at h1 ⊢
  have mono : ∀ {R R' : Value → World → Prop} (_ : ∀ v w, R v w → R' v w) (x : Result Next), uponR P R x → uponR P R' x := by
    intro R R' hrr x hx
    match x, hx with
    | .ok (.value v) w, hx => exact hrr v w hx
    | .ok (.enter f args) w, hx =>
      refine Calls.mono hx fun e w h => ?_
      cases e with
      | returned v => exact hrr v w h
      | _ => exact h
  refine mono (fun v w' hx => ?_) _ h1
  obtain ⟨h', hq, _, hk⟩ := hx
  have same : ∀ k, k < w.heap.size → w'.heap[k]? = w.heap[k]? := fun k hk' => (hk.out k hk' rfl).2
  refine ⟨h, ⟨hq, rfl⟩, fun k o hko => ?_, ⟨hk.os, hk.tape, hk.output, hk.size, fun k hk' hn => ⟨hn, same k hk'⟩⟩⟩
  have h2 := hs k o hko
  have hlt := (Array.getElem?_eq_some_iff.1 h2).1
  rw [same k hlt]; exact h2
end
end Go.Ev
namespace Go.Ev
open Go Go.Den
/-- What holds of all entries of a tree. -/
def T.AllP {α : Type} (p : Nat → α → Prop) : T α → (Nat → Nat) → Prop
  | .lf, _ => True
  | .nd a v b, g => (∀ x, v = some x → p (g 0) x) ∧ T.AllP p a (fun k => g (2 * k + 1)) ∧ T.AllP p b (fun k => g (2 * k + 2))

theorem T.AllP.get {α : Type} {p : Nat → α → Prop} : ∀ {t : T α} {g : Nat → Nat} {k : Nat} {x : α}, T.AllP p t g → t.get k = some x → p (g k) x
  | .lf, g, k, x, _, hk => by rw [T.get_l] at hk; cases hk
  | .nd a v b, g, 0, x, h, hk => h.1 x hk
  | .nd a v b, g, k + 1, x, h, hk => by
    rw [T.get_succ] at hk
    split at hk
    · rename_i he
      have := T.AllP.get h.2.1 hk
      have e : 2 * (k / 2) + 1 = k + 1 := by omega
      simp only [e] at this; exact this
    · rename_i he
      have := T.AllP.get h.2.2 hk
      have e : 2 * (k / 2) + 2 = k + 1 := by omega
      simp only [e] at this; exact this

/-- The package-level variables alone. -/
def rho0 (G : Nat) : Rho := fun b => if b < G then some (b, 0) else none

theorem HR.start (G : Nat) : HR G (rho0 G) .lf G (fun _ => none) where
  blk := fun b B rb κ hb => by rw [T.get_l] at hb; cases hb
  inj := fun b b' B B' rb κ κ' hb => by rw [T.get_l] at hb; cases hb
  fresh := fun b hb => by simp only [rho0]; rw [if_neg (by omega)]
  glob := fun g hg => by simp only [rho0]; rw [if_pos hg]

def isT (v : LV) (_ : T Blk) (_ : Nat) : Bool :=
  match v with
  | .bool true => true
  | _ => false

/-- A closed run that ends in true. -/
theorem closed_run {P : Program} {G : Nat} (hm : P.follows .mixedOrders = true) {ora : Ora} (ho : OraOk P ora) {tab : T EFn} (ht : ∀ f e, tab.get f = some e → FnOk P G f e) {k f : Nat} {args : List LV} {args' : List Value} (hl : LR (rho0 G) args args')
    (he : evF ora tab k f args .lf G isT = true) : Tri P f args' (fun _ => none) fun v _ => v = .bool true :=
  evF_sound hm ho ht k f args args' .lf G _ _ isT _ hl (HR.start G) he fun lv v H' nx' ρ' h' _ _ _ hv hT => by
    unfold isT at hT
    split at hT
    · cases hv; rfl
    · cases hT

/-- A known function without arguments. -/
theorem ora_const {P : Program} {f : Nat} (ht : Tri P f [] (fun _ => none) fun v _ => v = .bool true) (ρ : Rho) (args' : List Value) (hl : LR ρ [] args') :
    ∃ v, VR ρ (.bool true) v ∧ ∀ h, Tri P f args' h fun v' h' => v' = v ∧ h' = h := by
  rw [hl.nil_inv]
  exact ⟨_, .bool true, fun h => tri_frame ht h⟩
end Go.Ev
