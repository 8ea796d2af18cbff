import Derived.Test.YtifjnoabmbckpaaGreatDoorEv4
/- The evaluator's operations without effects, all together. -/
namespace Go.Ev
open Go Go.Den
section
variable {P : Program} {G : Nat} {ρ : Rho} {R : T LV} {s : St}

theorem slice3_run {f : Operand → Value} {t e : TypeId} {k : Nat} {x hi mx : Operand} {lo : Option Operand} {ty : TypeId} {a : Addr} {n c i j m : Nat} {kj km : IntKind} (hu : P.underlying t = some (.slice e)) (hk : sizeT P e = some k)
    (hx : f x = .slice (some a) n c) (hlo : (lo = none ∧ i = 0) ∨ ∃ o ki, lo = some o ∧ f o = .int ki i) (hh : f hi = .int kj j) (hm : f mx = .int km m) (h1 : i ≤ j) (h2 : j ≤ m) (h3 : m ≤ c) :
    PureRun P (execOp f (mkO (.slice t x lo (some hi) (some mx)) ty)) (.slice (some (if m = i then a else a.add (i * k))) (j - i) (m - i)) := by
  intro w
  have hsz : (sizeOf e).run P w = .ok k w := by
    unfold sizeT at hk
    cases hi : P.info? e with
    | none => rw [hi] at hk; cases hk
    | some inf => rw [hi] at hk; cases inf; cases hk; simp [sizeOf, typeInfo, program, Sem.run, hi]
  have e2 : (0 : Int) ≤ (j : Int) ∧ (j : Int) ≤ (m : Int) := ⟨by omega, by omega⟩
  have e3 : (0 : Int) ≤ (m : Int) ∧ (m : Int) ≤ (c : Int) := ⟨by omega, by omega⟩
  have e1 : (0 : Int) ≤ (i : Int) ∧ (i : Int) ≤ (j : Int) := ⟨by omega, by omega⟩
  rcases hlo with ⟨rfl, rfl⟩ | ⟨o, ki, rfl, ho⟩
  · simp [execOp, mkO, Instr.sliceAt, Instr.slice, run_underlying hu, hx, hh, hm, Instr.sliceBounds, Instr.sliceBound, asIntOf, hsz, h2, h3]; split <;> rfl
  · simp [execOp, mkO, Instr.sliceAt, Instr.slice, run_underlying hu, hx, hh, hm, ho, Instr.sliceBounds, Instr.sliceBound, asIntOf, hsz, h1, h2, h3]; split <;> rfl

theorem slice3_nil {f : Operand → Value} {t e : TypeId} {k : Nat} {x hi mx : Operand} {lo : Option Operand} {ty : TypeId} {kj km : IntKind} (hu : P.underlying t = some (.slice e)) (hk : sizeT P e = some k)
    (hx : f x = .slice none 0 0) (hlo : (lo = none) ∨ ∃ o ki, lo = some o ∧ f o = .int ki 0) (hh : f hi = .int kj 0) (hm : f mx = .int km 0) :
    PureRun P (execOp f (mkO (.slice t x lo (some hi) (some mx)) ty)) (.slice none 0 0) := by
  intro w
  have hsz : (sizeOf e).run P w = .ok k w := by
    unfold sizeT at hk
    cases hi : P.info? e with
    | none => rw [hi] at hk; cases hk
    | some inf => rw [hi] at hk; cases inf; cases hk; simp [sizeOf, typeInfo, program, Sem.run, hi]
  rcases hlo with rfl | ⟨o, ki, rfl, ho⟩
  · simp [execOp, mkO, Instr.sliceAt, Instr.slice, run_underlying hu, hx, hh, hm, Instr.sliceBounds, Instr.sliceBound, asIntOf, hsz]
  · simp [execOp, mkO, Instr.sliceAt, Instr.slice, run_underlying hu, hx, hh, hm, ho, Instr.sliceBounds, Instr.sliceBound, asIntOf, hsz]

theorem minmax_run {f : Operand → Value} {isMin : Bool} {x y : Operand} {ts : Array TypeId} {ty : TypeId} {k : IntKind} {a b : Int} (hx : f x = .int k a) (hy : f y = .int k b) :
    PureRun P (execOp f (mkO (.call ⟨.builtin (if isMin then .min else .max), ⟨[x, y]⟩, ts⟩) ty)) (.int k (if isMin then (if b < a then b else a) else (if a < b then b else a))) := by
  intro w
  cases isMin
  · simp [execOp, mkO, resolve, invoke, builtin, hx, hy, Builtin.max_, Builtin.max2]
  · simp [execOp, mkO, resolve, invoke, builtin, hx, hy, Builtin.min_, Builtin.min2]

theorem cBin_sound (hr : RR ρ R s) (hg : GR G ρ) {bop : BinOp} {t yt ty : TypeId} {x y : Operand} {pop : POp} {K : LV → Bool} (hc : cBin P G bop t x y = some (.p pop)) (he : evP pop R K = true) :
    allVal s [x, y] = true ∧ ∃ lv v, K lv = true ∧ VR ρ lv v ∧ pureVal P (execOp s.vv (mkO (.binOp bop t x y yt) ty)) = some v := by
  unfold cBin at hc
  split at hc
  · rename_i ex ey hx hy
    have val : ∀ {lx ly : LV}, ex.ev R = some lx → ey.ev R = some ly → ∃ vx vy, s.vv x = vx ∧ s.vv y = vy ∧ VR ρ lx vx ∧ VR ρ ly vy ∧ allVal s [x, y] = true := by
      intro lx ly h1 h2
      obtain ⟨vx, hvx, rx⟩ := cX_ev hr hg hx h1
      obtain ⟨vy, hvy, ry⟩ := cX_ev hr hg hy h2
      exact ⟨vx, vy, by simp [St.vv, hvx], by simp [St.vv, hvy], rx, ry, by simp [allVal, hvx, hvy]⟩
    have nilC : ∀ {d : TypeDesc}, P.underlying t = some d → nilOp (clsT d) bop ex ey = some (.p pop) → allVal s [x, y] = true ∧ ∃ lv v, K lv = true ∧ VR ρ lv v ∧ pureVal P (execOp s.vv (mkO (.binOp bop t x y yt) ty)) = some v := by
      intro d hu hn
      unfold nilOp at hn
      split at hn
      · cases hn
        simp only [evP] at he
        split at he
        · rename_i lx h1
          split at he
          · rename_i ly h2
            split at he
            · rename_i r hre
              obtain ⟨vx, vy, e1, e2, rx, ry, ha⟩ := val h1 h2
              rw [boolK_eq] at he
              exact ⟨ha, _, _, he, .bool _, (nilEq_sound rx ry hu hre e1 e2).1⟩
            · cases he
          · cases he
        · cases he
      · cases hn
        simp only [evP] at he
        split at he
        · rename_i lx h1
          split at he
          · rename_i ly h2
            split at he
            · rename_i r hre
              obtain ⟨vx, vy, e1, e2, rx, ry, ha⟩ := val h1 h2
              rw [boolK_eq] at he
              exact ⟨ha, _, _, he, .bool _, (nilEq_sound rx ry hu hre e1 e2).2⟩
            · cases he
          · cases he
        · cases he
      · cases hn
    split at hc
    · split at hc
      · cases hc
        simp only [evP] at he
        split at he
        · rename_i k a h1
          split at he
          · rename_i k' b h2
            obtain ⟨vx, vy, e1, e2, rx, ry, ha⟩ := val h1 h2
            cases rx; cases ry
            split at he
            · exact ⟨ha, pv_shift (left := true) e1 e2 he⟩
            · exact ⟨ha, pv_shift (left := false) e1 e2 he⟩
            · split at he
              · rename_i hk
                have := kNo_inj hk; subst this
                exact ⟨ha, pv_bin e1 e2 he⟩
              · cases he
          · cases he
        · cases he
      · cases hc
    · rename_i hu
      split at hc
      · cases hc
        simp only [evP] at he
        split at he
        · rename_i a h1
          split at he
          · rename_i b h2
            obtain ⟨vx, vy, e1, e2, rx, ry, ha⟩ := val h1 h2
            cases rx; cases ry
            rw [boolK_eq] at he
            exact ⟨ha, _, _, he, .bool _, pv_eqB (neg := false) hu e1 e2⟩
          · cases he
        · cases he
      · cases hc
        simp only [evP] at he
        split at he
        · rename_i a h1
          split at he
          · rename_i b h2
            obtain ⟨vx, vy, e1, e2, rx, ry, ha⟩ := val h1 h2
            cases rx; cases ry
            rw [boolK_eq] at he
            exact ⟨ha, _, _, he, .bool _, pv_eqB (neg := true) hu e1 e2⟩
          · cases he
        · cases he
      · cases hc
    · rename_i hu; exact nilC hu hc
    · rename_i hu; exact nilC hu hc
    · rename_i hu; exact nilC hu hc
    · rename_i hu; exact nilC hu hc
    · cases hc
  · cases hc

theorem cPure_sound (hr : RR ρ R s) (hg : GR G ρ) {op : Op} {ty : TypeId} {pop : POp} {K : LV → Bool} (hc : cPure P G op = some (.p pop)) (he : evP pop R K = true) : Good ρ P s (.pure op ty) K := by
  have fin : allVal s op.operands.toList = true → (∃ lv v, K lv = true ∧ VR ρ lv v ∧ pureVal P (execOp s.vv (mkO op ty)) = some v) → Good ρ P s (.pure op ty) K := by
    rintro ha ⟨lv, v, h1, h2, h3⟩
    exact ⟨lv, v, h1, h2, fun h K' hk => by simp only [denOp, ha, h3]; exact hk⟩
  unfold cPure at hc
  split at hc
  · obtain ⟨ha, h⟩ := cBin_sound (ty := ty) hr hg hc he; exact fin ha h
  · rename_i uop t x
    have un : ∀ {uo : UnOp}, (cX G x).map (fun x => EOp.p (.un uo x)) = some (.p pop) → uo = uop → Good ρ P s (.pure (.unOp uop t x) ty) K := by
      intro uo hc1 heq
      subst heq
      cases hx : cX G x with
      | none => rw [hx] at hc1; cases hc1
      | some ex =>
        rw [hx] at hc1; cases hc1
        simp only [evP] at he
        split at he
        · rename_i lv h1
          obtain ⟨v, hv, hvr⟩ := cX_ev hr hg hx h1
          exact fin (by simp [Op.operands, allVal, hv]) (pv_un (by simp [St.vv, hv]) hvr he)
        · cases he
    split at hc
    · exact un hc rfl
    · exact un hc rfl
    · cases hc
  · rename_i x i
    cases hx : cX G x with
    | none => rw [hx] at hc; cases hc
    | some ex =>
      rw [hx] at hc; cases hc
      simp only [evP] at he
      split at he
      · rename_i l h1
        obtain ⟨v, hv, hvr⟩ := cX_ev hr hg hx h1
        cases hvr with
        | tup k1 k2 =>
          rename_i l'
          split at he
          · rename_i lv hn
            rw [nthK_eq] at hn
            obtain ⟨v', hv', hr'⟩ := LR.get (ρ := ρ) ⟨k1, k2⟩ hn
            refine fin (by simp [Op.operands, allVal, hv]) ⟨lv, v', he, hr', ?_⟩
            have : s.vv x = .tuple ⟨l'⟩ := by simp [St.vv, hv]
            simp [execOp, mkO, this, Instr.extract, hv', pureVal, bind, Sem.bind, pure]
          · cases he
      · cases he
  · rename_i f first captured
    split at hc
    · rename_i a c h1 h2
      cases hc
      simp only [evP] at he
      obtain ⟨la, hk1, ha1, hl1⟩ := cXs_allVal hr hg h1 he
      obtain ⟨lc, hk2, ha2, hl2⟩ := cXs_allVal hr hg h2 hk1
      have allA : ∀ (xs ys : List Operand), allVal s xs = true → allVal s ys = true → allVal s (xs ++ ys) = true := by
        intro xs
        induction xs with
        | nil => intro ys _ h; exact h
        | cons x xs ih =>
          intro ys h1 h2
          simp only [allVal, List.cons_append] at h1 ⊢
          split at h1
          · exact ih ys h1 h2
          · cases h1
      have valsM : ∀ (xs : List Operand), vals s xs = xs.map s.vv := by
        intro xs
        induction xs with
        | nil => rfl
        | cons x xs ih => simp [vals, ih]
      refine fin (by simpa [Op.operands] using allA _ _ ha1 ha2) ⟨_, _, hk2, .fn hl1.1 hl2.1 hl1.2 hl2.2, ?_⟩
      rw [valsM, valsM]
      simp [execOp, mkO, Instr.makeFunc, pureVal, bind, Sem.bind, pure]
    · cases hc
  · cases hc

theorem cPuref_sound (hr : RR ρ R s) (hg : GR G ρ) {op : Op} {ty : TypeId} {pop : POp} {K : LV → Bool} (hc : cPuref P G op = some (.p pop)) (he : evP pop R K = true) : Good ρ P s (.puref op ty) K := by
  have fin : allVal s op.operands.toList = true → (∃ lv v, K lv = true ∧ VR ρ lv v ∧ PureRun P (execOp s.vv (mkO op ty)) v) → Good ρ P s (.puref op ty) K := by
    rintro ha ⟨lv, v, h1, h2, h3⟩
    exact ⟨lv, v, h1, h2, fun h K' hk => by simp only [denOp, ha]; exact ⟨v, h3, hk⟩⟩
  have finB : ∀ {bop : BinOp} {t yt : TypeId} {x y : Operand}, op = .binOp bop t x y yt → cBin P G bop t x y = some (.p pop) → Good ρ P s (.puref op ty) K := by
    intro bop t yt x y ho hc1
    subst ho
    obtain ⟨ha, lv, v, h1, h2, h3⟩ := cBin_sound (ty := ty) (yt := yt) hr hg hc1 he
    exact fin ha ⟨lv, v, h1, h2, pureVal_run _ h3⟩
  unfold cPuref at hc
  split at hc
  · split at hc
    all_goals first | exact finB rfl hc | cases hc
  · rename_i t x lo hi mx
    split at hc
    · rename_i e hu
      split at hc
      · rename_i k ex elo ehi emx hk hx hlo hhi hmx
        cases hc
        have hhi' : cO G (some hi) = some (some ehi) := by simp [cO, hhi]
        have hmx' : cO G (some mx) = some (some emx) := by simp [cO, hmx]
        have bv : ∀ {o : Operand} {e : EX} {K : Nat → Bool}, cX G o = some e → bndK R (some e) 0 K = true → ∃ (n : Nat) (k : IntKind), K n = true ∧ s.vv o = .int k n ∧ ∃ v, s.ev o = .val v := by
          intro o e K ho hb
          simp only [bndK] at hb
          split at hb
          · rename_i k n h1
            obtain ⟨v, hv, hvr⟩ := cX_ev hr hg ho h1
            cases hvr
            exact ⟨n, k, hb, by simp [St.vv, hv], _, hv⟩
          · cases hb
        have bo : ∀ {K : Nat → Bool}, bndK R elo 0 K = true → ∃ n : Nat, K n = true ∧ ((lo = none ∧ n = 0) ∨ ∃ o ki, lo = some o ∧ s.vv o = .int ki n) ∧ allVal s lo.toList = true := by
          intro K hb
          cases lo with
          | none => cases hlo; exact ⟨0, hb, .inl ⟨rfl, rfl⟩, rfl⟩
          | some o =>
            simp only [cO] at hlo
            cases ho : cX G o with
            | none => rw [ho] at hlo; cases hlo
            | some eo =>
              rw [ho] at hlo; cases hlo
              obtain ⟨n, k, h1, h2, v, h3⟩ := bv ho hb
              exact ⟨n, h1, .inr ⟨o, k, rfl, h2⟩, by simp [allVal, h3]⟩
        simp only [evP] at he
        split at he
        · rename_i b o n c g h1
          obtain ⟨v, hv, hvr⟩ := cX_ev hr hg hx h1
          cases hvr with
          | slice hrb =>
          rename_i rb κ
          obtain ⟨i, hi1, hi2, hi3⟩ := bo he
          obtain ⟨j, kj, hj1, hj2, _, hj3⟩ := bv hhi hi1
          obtain ⟨m, km, hm1, hm2, _, hm3⟩ := bv hmx hj1
          split at hm1
          · rename_i hle
            simp only [Bool.and_eq_true, Nat.ble_eq] at hle
            have hc' : m ≤ (bif g then c + κ else c) := by cases g <;> simp <;> omega
            have hall : allVal s (Op.slice t x lo (some hi) (some mx)).operands.toList = true := by
              cases lo with
              | none => simp [Op.operands, allVal, hv, hj3, hm3]
              | some o =>
                simp only [allVal, Option.toList_some] at hi3
                split at hi3
                · rename_i v2 hv2; simp [Op.operands, allVal, hv, hj3, hm3, hv2]
                · cases hi3
            have hvx : s.vv x = .slice (some ⟨rb, o, none⟩) n (bif g then c + κ else c) := by simp [St.vv, hv]
            have hrun := slice3_run (ty := ty) hu hk hvx hi2 hj2 hm2 hle.1.1 hle.1.2 hc'
            split at hm1
            · rename_i hmi
              have hmi := Nat.eq_of_beq_eq_true hmi
              subst hmi
              rw [natK_eq] at hm1
              rw [if_pos rfl, Nat.sub_self] at hrun
              exact fin hall ⟨_, _, hm1, .slice hrb, hrun⟩
            · rename_i hmi
              have hmi : m ≠ i := fun e => by subst e; rw [beqSelf] at hmi; cases hmi
              simp only [natK_eq] at hm1
              rw [if_neg hmi, addNone] at hrun
              exact fin hall ⟨_, _, hm1, .slice hrb, hrun⟩
          · cases hm1
        · rename_i h1
          obtain ⟨v, hv, hvr⟩ := cX_ev hr hg hx h1
          cases hvr
          obtain ⟨i, hi1, hi2, hi3⟩ := bo he
          obtain ⟨j, kj, hj1, hj2, _, hj3⟩ := bv hhi hi1
          obtain ⟨m, km, hm1, hm2, _, hm3⟩ := bv hmx hj1
          split at hm1
          · rename_i hle
            simp only [Bool.and_eq_true] at hle
            have ei := Nat.eq_of_beq_eq_true hle.1.1
            have ej := Nat.eq_of_beq_eq_true hle.1.2
            have em := Nat.eq_of_beq_eq_true hle.2
            subst ei; subst ej; subst em
            have hall : allVal s (Op.slice t x lo (some hi) (some mx)).operands.toList = true := by
              cases lo with
              | none => simp [Op.operands, allVal, hv, hj3, hm3]
              | some o =>
                simp only [allVal, Option.toList_some] at hi3
                split at hi3
                · rename_i v2 hv2; simp [Op.operands, allVal, hv, hj3, hm3, hv2]
                · cases hi3
            have hlo' : lo = none ∨ ∃ o ki, lo = some o ∧ s.vv o = .int ki 0 := by
              rcases hi2 with ⟨h, _⟩ | h
              · exact .inl h
              · exact .inr h
            exact fin hall ⟨_, _, hm1, .nils, slice3_nil (ty := ty) hu hk (show s.vv x = .slice none 0 0 by simp [St.vv, hv]) hlo' hj2 hm2⟩
          · cases hm1
        · cases he
      · cases hc
    · cases hc
  · split at hc
    · rename_i x y ts
      split at hc
      · rename_i ex ey hx hy
        cases hc
        simp only [evP] at he
        split at he
        · rename_i k a h1
          split at he
          · rename_i k' b h2
            obtain ⟨vx, hvx, rx⟩ := cX_ev hr hg hx h1
            obtain ⟨vy, hvy, ry⟩ := cX_ev hr hg hy h2
            cases rx; cases ry
            split at he
            · rename_i hk
              have := kNo_inj hk; subst this
              have hrun := minmax_run (P := P) (isMin := true) (ts := ts) (ty := ty) (f := s.vv) (x := x) (y := y) (k := k) (a := a) (b := b) (by simp [St.vv, hvx]) (by simp [St.vv, hvy])
              have hall : allVal s (Op.call ⟨.builtin .min, ⟨[x, y]⟩, ts⟩).operands.toList = true := by simp [Op.operands, Call.operands, allVal, hvx, hvy]
              rw [ltI_eq] at he
              by_cases hlt : b < a
              · simp [hlt] at he hrun; exact fin hall ⟨_, _, he, .int _ _, hrun⟩
              · simp [hlt] at he hrun; exact fin hall ⟨_, _, he, .int _ _, hrun⟩
            · cases he
          · cases he
        · cases he
      · cases hc
    · rename_i x y ts
      split at hc
      · rename_i ex ey hx hy
        cases hc
        simp only [evP] at he
        split at he
        · rename_i k a h1
          split at he
          · rename_i k' b h2
            obtain ⟨vx, hvx, rx⟩ := cX_ev hr hg hx h1
            obtain ⟨vy, hvy, ry⟩ := cX_ev hr hg hy h2
            cases rx; cases ry
            split at he
            · rename_i hk
              have := kNo_inj hk; subst this
              have hrun := minmax_run (P := P) (isMin := false) (ts := ts) (ty := ty) (f := s.vv) (x := x) (y := y) (k := k) (a := a) (b := b) (by simp [St.vv, hvx]) (by simp [St.vv, hvy])
              have hall : allVal s (Op.call ⟨.builtin .max, ⟨[x, y]⟩, ts⟩).operands.toList = true := by simp [Op.operands, Call.operands, allVal, hvx, hvy]
              rw [ltI_eq] at he
              by_cases hlt : a < b
              · simp [hlt] at he hrun; exact fin hall ⟨_, _, he, .int _ _, hrun⟩
              · simp [hlt] at he hrun; exact fin hall ⟨_, _, he, .int _ _, hrun⟩
            · cases he
          · cases he
        · cases he
      · cases hc
    · cases hc
  · cases hc
end
end Go.Ev
