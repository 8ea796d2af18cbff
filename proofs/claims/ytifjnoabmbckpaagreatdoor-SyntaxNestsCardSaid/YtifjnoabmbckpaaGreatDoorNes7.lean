import Derived.Test.YtifjnoabmbckpaaGreatDoorNes6
/- The evaluator's operations without effects, all together. -/
namespace Go.Ev
open Go Go.Den

theorem lenL_eq : ∀ (l : List LV), lenL l = l.length
  | [] => rfl
  | _ :: l => by simp [lenL, lenL_eq l]

theorem nthK_eq : ∀ (l : List LV) (i : Nat), nthK l i = l[i]?
  | [], _ => by simp [nthK]
  | x :: _, 0 => by simp [nthK]
  | _ :: l, i + 1 => by simp [nthK, nthK_eq l i]

theorem appL_eq : ∀ (l m : List LV), appL l m = l ++ m
  | [], _ => rfl
  | v :: l, m => by simp [appL, appL_eq l m]

theorem putL_sound : ∀ {o : Nat} {vs l : List LV} {K : List LV → Bool}, putL o vs l K = true → K (l.take o ++ vs ++ l.drop (o + vs.length)) = true ∧ o + vs.length ≤ l.length
  | 0, [], l, K, h => by simpa [putL] using h
  | 0, v :: vs, [], K, h => by simp [putL] at h
  | 0, v :: vs, x :: l, K, h => by
    obtain ⟨h1, h2⟩ := putL_sound (o := 0) (vs := vs) (l := l) h
    simp only [List.take_zero, List.nil_append, Nat.zero_add] at h1 h2
    refine ⟨?_, by simp; omega⟩
    have e : (v :: vs).length = vs.length + 1 := rfl
    simp only [List.take_zero, List.nil_append, Nat.zero_add, e, List.drop_succ_cons, List.cons_append]
    exact h1
  | o + 1, vs, [], K, h => by cases vs <;> simp [putL] at h
  | o + 1, vs, x :: l, K, h => by
    have h' : putL o vs l (fun r => K (x :: r)) = true := by cases vs <;> exact h
    obtain ⟨h1, h2⟩ := putL_sound h'
    refine ⟨?_, by simp; omega⟩
    rw [show o + 1 + vs.length = (o + vs.length) + 1 by omega]
    simpa using h1

theorem partK_sound : ∀ {o n : Nat} {l : List LV} {K : List LV → Bool}, partK o n l K = true → K ((l.drop o).take n) = true ∧ o + n ≤ l.length
  | 0, 0, l, K, h => by simpa [partK] using h
  | 0, n + 1, [], K, h => by simp [partK] at h
  | 0, n + 1, x :: l, K, h => by
    obtain ⟨h1, h2⟩ := partK_sound (o := 0) (n := n) (l := l) h
    exact ⟨by simpa using h1, by simp; omega⟩
  | o + 1, n, [], K, h => by cases n <;> simp [partK] at h
  | o + 1, n, x :: l, K, h => by
    have h' : partK o n l K = true := by cases n <;> exact h
    obtain ⟨h1, h2⟩ := partK_sound h'
    exact ⟨by simpa using h1, by simp; omega⟩

section
variable {P : Program} {G : Nat} {ρ : Rho} {R : T LV} {s : St}

theorem lvCells_LR {lv : LV} {v : Value} (h : VR ρ lv v) : LR ρ (lvCells lv) (cellsL v) := by
  cases h
  case agg l l' h1 h2 => exact ⟨h1, h2⟩
  all_goals
    refine LR.cons ?_ LR.nil
    first | (constructor <;> assumption) | (constructor)

theorem fillK_sound (hr : RR ρ R s) (hg : GR G ρ) : ∀ {ps : List (Nat × Nat × Operand)} {es : List (Nat × Nat × EX)} {cells : List LV} {cells' : List Value} {K : List LV → Bool},
    cParts G ps = some es → LR ρ cells cells' → fillK R es cells K = true → ∃ l l', K l = true ∧ LR ρ l l' ∧ ∀ (K' : List Value → Prop), K' l' → fillL s cells' ps K'
  | [], es, cells, cells', K, hc, hl, he => by cases hc; exact ⟨_, _, he, hl, fun K' h => h⟩
  | (o, n, x) :: ps, es, cells, cells', K, hc, hl, he => by
    simp only [cParts] at hc
    split at hc
    · rename_i e es' h1 h2
      cases hc
      simp only [fillK] at he
      split at he
      · rename_i lv hlv
        obtain ⟨v, hv, hvr⟩ := cX_ev hr hg h1 hlv
        split at he
        · rename_i hn
          have hn := Nat.eq_of_beq_eq_true hn
          rw [lenL_eq] at hn
          obtain ⟨h3, h4⟩ := putL_sound he
          have hcl := lvCells_LR hvr
          have hlr : LR ρ (cells.take o ++ lvCells lv ++ cells.drop (o + (lvCells lv).length)) (splice cells' o (cellsL v)) := by
            unfold splice
            rw [← hcl.1]
            exact ((hl.take o).append hcl).append (hl.drop _)
          obtain ⟨l, l', hk, hll, hf⟩ := fillK_sound hr hg h2 hlr h3
          refine ⟨l, l', hk, hll, fun K' hK => ?_⟩
          simp only [fillL, hv]
          have : (Nat.beq (cellsL v).length n && Nat.ble (o + n) cells'.length) = true := by
            rw [Bool.and_eq_true]
            refine ⟨?_, ?_⟩
            · rw [← hcl.1, hn]; exact beqSelf n
            · rw [Nat.ble_eq, ← hl.1]; omega
          rw [this]
          exact hf K' hK
        · cases he
      · cases he
    · cases hc

def Good (ρ : Rho) (P : Program) (s : St) (sop : SOp) (K : LV → Bool) : Prop :=
  ∃ lv v, K lv = true ∧ VR ρ lv v ∧ ∀ (h : PHeap) (K' : SV → St → PHeap → Prop), K' (.val v) s h → denOp P sop s h K'

theorem bndK_sound (hr : RR ρ R s) (hg : GR G ρ) {o : Option Operand} {e : Option EX} {d : Nat} {K : Nat → Bool} (hc : cO G o = some e) (he : bndK R e d K = true) :
    ∃ n : Nat, K n = true ∧ ∀ K' : Int → Prop, K' n → bnd s o d K' := by
  cases o with
  | none => cases hc; exact ⟨d, he, fun K' h => h⟩
  | some x =>
    simp only [cO] at hc
    cases hx : cX G x with
    | none => rw [hx] at hc; cases hc
    | some x' =>
      rw [hx] at hc; cases hc
      simp only [bndK] at he
      split at he
      · rename_i k n hev
        obtain ⟨v, hv, hvr⟩ := cX_ev hr hg hx hev
        cases hvr
        refine ⟨n, he, fun K' h => ?_⟩
        simp only [bnd, hv]
        exact h
      · cases he

theorem pv_un {f : Operand → Value} {op : UnOp} {lv : LV} {v : Value} {x : Operand} {t ty : TypeId} {K : LV → Bool} (hx : f x = v) (hv : VR ρ lv v) (h : unK op lv K = true) :
    ∃ lv' v', K lv' = true ∧ VR ρ lv' v' ∧ pureVal P (execOp f (mkO (.unOp op t x) ty)) = some v' := by
  cases op <;> simp only [unK] at h
  case not =>
    split at h
    · cases hv; rw [boolK_eq] at h
      exact ⟨_, _, h, .bool _, by simp [execOp, mkO, hx, Op.unary, pureVal, bind, Sem.bind, pure]⟩
    · cases h
  case neg =>
    split at h
    · cases hv; rw [wrapK_eq] at h
      exact ⟨_, _, h, .int _ _, by simp [execOp, mkO, hx, Op.unary, Op.intArith, pureVal, bind, Sem.bind, pure]; congr 1; show _ = (0 : Int) - _; omega⟩
    · cases h
  all_goals cases h

theorem bind_assoc' {α β γ : Type} (f : α → Sem β) (g : β → Sem γ) : ∀ (m : Sem α), (m.bind f).bind g = m.bind fun a => (f a).bind g
  | .pure a => rfl
  | .load m a k => by simp only [Sem.bind]; congr 1; funext v; exact bind_assoc' f g (k v)
  | .store m a v k => by simp only [Sem.bind]; congr 1; exact bind_assoc' f g k
  | .new o k => by simp only [Sem.bind]; congr 1; funext v; exact bind_assoc' f g (k v)
  | .shape r k => by simp only [Sem.bind]; congr 1; funext v; exact bind_assoc' f g (k v)
  | .freeze a n k => by simp only [Sem.bind]; congr 1; exact bind_assoc' f g k
  | .frozen a k => by simp only [Sem.bind]; congr 1; funext v; exact bind_assoc' f g (k v)
  | .getObj r k => by simp only [Sem.bind]; congr 1; funext v; exact bind_assoc' f g (k v)
  | .setObj r o k => by simp only [Sem.bind]; congr 1; exact bind_assoc' f g k
  | .choose q k => by simp only [Sem.bind]; congr 1; funext v; exact bind_assoc' f g (k v)
  | .sys c k => by simp only [Sem.bind]; congr 1; funext v; exact bind_assoc' f g (k v)
  | .program k => by simp only [Sem.bind]; congr 1; funext v; exact bind_assoc' f g (k v)
  | .mark m k => by simp only [Sem.bind]; congr 1; exact bind_assoc' f g k
  | .halt h => rfl

/-- The type's class of nil. -/
def clsT : TypeDesc → Nat
  | .pointer _ => 0
  | .slice _ => 1
  | .map _ _ => 2
  | .func .. => 3
  | _ => 4

theorem eq_run {t : TypeId} {d : TypeDesc} (hu : P.underlying t = some d) {a b : LV} {va vb : Value} {r : Bool} (ha : VR ρ a va) (hb : VR ρ b vb) (h : nilEq (clsT d) a b = some r) (k : Bool → Sem Next) :
    pureVal P ((Op.equal t va vb).bind k) = pureVal P (k r) := by
  have e : Op.equal t va vb = Op.equalIn (9999 + 1) t va vb := rfl
  rw [e, Op.equalIn]
  cases d <;> simp only [clsT] at h
  case pointer e => cases ha <;> simp [nilEq, isNil] at h <;> cases hb <;> simp at h <;> subst h <;> simp [underlying, program, bind, Sem.bind, pureVal, hu, pure]
  case slice e => cases ha <;> simp [nilEq, isNil] at h <;> cases hb <;> simp at h <;> subst h <;> simp [underlying, program, bind, Sem.bind, pureVal, hu, pure]
  case map k e => cases ha <;> simp [nilEq, isNil] at h <;> cases hb <;> simp at h <;> subst h <;> simp [underlying, program, bind, Sem.bind, pureVal, hu, pure]
  case func x y z => cases ha <;> simp [nilEq, isNil] at h <;> cases hb <;> simp at h <;> subst h <;> simp [underlying, program, bind, Sem.bind, pureVal, hu, pure]
  all_goals simp [nilEq, isNil] at h

theorem nil_guard {c : Nat} {a b : LV} {va vb : Value} {r : Bool} (ha : VR ρ a va) (hb : VR ρ b vb) (h : nilEq c a b = some r) (op : BinOp) (t : TypeId) (x y : Operand) :
    eqGuard op t x y va vb = pure () ∧ binOp .eql t va vb = (Op.equal t va vb).bind (fun b => .pure (.bool b)) ∧ binOp .neq t va vb = (Op.equal t va vb).bind (fun b => .pure (.bool (!b))) := by
  unfold eqGuard
  match c, h with
  | 0, h => cases ha <;> simp [nilEq, isNil] at h <;> cases hb <;> simp at h <;> exact ⟨by cases op <;> rfl, rfl, rfl⟩
  | 1, h => cases ha <;> simp [nilEq, isNil] at h <;> cases hb <;> simp at h <;> exact ⟨by cases op <;> rfl, rfl, rfl⟩
  | 2, h => cases ha <;> simp [nilEq, isNil] at h <;> cases hb <;> simp at h <;> exact ⟨by cases op <;> rfl, rfl, rfl⟩
  | 3, h => cases ha <;> simp [nilEq, isNil] at h <;> cases hb <;> simp at h <;> exact ⟨by cases op <;> rfl, rfl, rfl⟩
  | _ + 4, h => simp [nilEq, isNil] at h

theorem nilEq_sound {a b : LV} {va vb : Value} {r : Bool} (ha : VR ρ a va) (hb : VR ρ b vb) {t : TypeId} {d : TypeDesc} (hu : P.underlying t = some d) (h : nilEq (clsT d) a b = some r)
    {f : Operand → Value} {x y : Operand} (hx : f x = va) (hy : f y = vb) {yt ty : TypeId} :
    pureVal P (execOp f (mkO (.binOp .eql t x y yt) ty)) = some (.bool r) ∧ pureVal P (execOp f (mkO (.binOp .neq t x y yt) ty)) = some (.bool (!r)) := by
  constructor
  · obtain ⟨h1, h2, _⟩ := nil_guard ha hb h .eql t x y
    have : execOp f (mkO (.binOp .eql t x y yt) ty) = (Op.equal t va vb).bind fun b => .pure (.value (.bool b)) := by
      simp only [execOp, mkO, hx, hy, h1, h2]
      show (Sem.bind _ _).bind _ = _
      rw [bind_assoc']
      show Sem.bind (Sem.bind _ _) _ = _
      rw [bind_assoc']; rfl
    rw [this, eq_run hu ha hb h]; rfl
  · obtain ⟨h1, _, h2⟩ := nil_guard ha hb h .neq t x y
    have : execOp f (mkO (.binOp .neq t x y yt) ty) = (Op.equal t va vb).bind fun b => .pure (.value (.bool (!b))) := by
      simp only [execOp, mkO, hx, hy, h1, h2]
      show (Sem.bind _ _).bind _ = _
      rw [bind_assoc']
      show Sem.bind (Sem.bind _ _) _ = _
      rw [bind_assoc']; rfl
    rw [this, eq_run hu ha hb h]; rfl

theorem pv_eqB {neg a b : Bool} {t : TypeId} (hu : P.underlying t = some .bool) {f : Operand → Value} {x y : Operand} (hx : f x = .bool a) (hy : f y = .bool b) {yt ty : TypeId} :
    pureVal P (execOp f (mkO (.binOp (if neg then .neq else .eql) t x y yt) ty)) = some (.bool (if neg then !(a == b) else (a == b))) := by
  have e : Op.equal t (.bool a) (.bool b) = Op.equalIn (9999 + 1) t (.bool a) (.bool b) := rfl
  have run : ∀ k : Bool → Sem Next, pureVal P ((Op.equal t (.bool a) (.bool b)).bind k) = pureVal P (k (a == b)) := by
    intro k
    rw [e, Op.equalIn]
    simp [underlying, program, bind, Sem.bind, pureVal, hu, pure]
  cases neg
  · have : execOp f (mkO (.binOp .eql t x y yt) ty) = (Op.equal t (.bool a) (.bool b)).bind fun b => .pure (.value (.bool b)) := by
      simp only [execOp, mkO, hx, hy]
      show (Sem.bind _ _).bind _ = _
      rw [bind_assoc']
      show Sem.bind (Sem.bind _ _) _ = _
      rw [bind_assoc']; rfl
    simp only [Bool.false_eq_true, if_false]
    rw [this, run]; rfl
  · have : execOp f (mkO (.binOp .neq t x y yt) ty) = (Op.equal t (.bool a) (.bool b)).bind fun b => .pure (.value (.bool (!b))) := by
      simp only [execOp, mkO, hx, hy]
      show (Sem.bind _ _).bind _ = _
      rw [bind_assoc']
      show Sem.bind (Sem.bind _ _) _ = _
      rw [bind_assoc']; rfl
    simp only [if_true]
    rw [this, run]; rfl
end
end Go.Ev
/- The evaluator's operations without effects, all together. -/
namespace Go.Ev
open Go Go.Den
section
variable {P : Program} {G : Nat} {ρ : Rho} {R : T LV} {s : St}

theorem slice3_run {f : Operand → Value} {t e : TypeId} {k : Nat} {x hi mx : Operand} {lo : Option Operand} {ty : TypeId} {a : Addr} {n c i j m : Nat} {kj km : IntKind} (hu : P.underlying t = some (.slice e)) (hk : sizeT P e = some k)
    (hx : f x = .slice (some a) n c) (hlo : (lo = none ∧ i = 0) ∨ ∃ o ki, lo = some o ∧ f o = .int ki i) (hh : f hi = .int kj j) (hm : f mx = .int km m) (h1 : i ≤ j) (h2 : j ≤ m) (h3 : m ≤ c) :
    PureRun P (execOp f (mkO (.slice t x lo (some hi) (some mx)) ty)) (.slice (some (if m = i then a else a.add (i * k))) (j - i) (m - i)) := by
  intro w
  have hsz : (sizeOf e).run P w = .ok k w := by
    unfold sizeT at hk
    cases hi : P.info? e with
    | none => rw [hi] at hk; cases hk
    | some inf => rw [hi] at hk; cases inf; cases hk; simp [sizeOf, typeInfo, program, Sem.run, hi]
  have e2 : (0 : Int) ≤ (j : Int) ∧ (j : Int) ≤ (m : Int) := ⟨by omega, by omega⟩
  have e3 : (0 : Int) ≤ (m : Int) ∧ (m : Int) ≤ (c : Int) := ⟨by omega, by omega⟩
  have e1 : (0 : Int) ≤ (i : Int) ∧ (i : Int) ≤ (j : Int) := ⟨by omega, by omega⟩
  rcases hlo with ⟨rfl, rfl⟩ | ⟨o, ki, rfl, ho⟩
  · simp [execOp, mkO, Instr.sliceAt, Instr.slice, run_underlying hu, hx, hh, hm, Instr.sliceBounds, Instr.sliceBound, asIntOf, hsz, h2, h3]; split <;> rfl
  · simp [execOp, mkO, Instr.sliceAt, Instr.slice, run_underlying hu, hx, hh, hm, ho, Instr.sliceBounds, Instr.sliceBound, asIntOf, hsz, h1, h2, h3]; split <;> rfl

theorem slice3_nil {f : Operand → Value} {t e : TypeId} {k : Nat} {x hi mx : Operand} {lo : Option Operand} {ty : TypeId} {kj km : IntKind} (hu : P.underlying t = some (.slice e)) (hk : sizeT P e = some k)
    (hx : f x = .slice none 0 0) (hlo : (lo = none) ∨ ∃ o ki, lo = some o ∧ f o = .int ki 0) (hh : f hi = .int kj 0) (hm : f mx = .int km 0) :
    PureRun P (execOp f (mkO (.slice t x lo (some hi) (some mx)) ty)) (.slice none 0 0) := by
  intro w
  have hsz : (sizeOf e).run P w = .ok k w := by
    unfold sizeT at hk
    cases hi : P.info? e with
    | none => rw [hi] at hk; cases hk
    | some inf => rw [hi] at hk; cases inf; cases hk; simp [sizeOf, typeInfo, program, Sem.run, hi]
  rcases hlo with rfl | ⟨o, ki, rfl, ho⟩
  · simp [execOp, mkO, Instr.sliceAt, Instr.slice, run_underlying hu, hx, hh, hm, Instr.sliceBounds, Instr.sliceBound, asIntOf, hsz]
  · simp [execOp, mkO, Instr.sliceAt, Instr.slice, run_underlying hu, hx, hh, hm, ho, Instr.sliceBounds, Instr.sliceBound, asIntOf, hsz]

theorem minmax_run {f : Operand → Value} {isMin : Bool} {x y : Operand} {ts : Array TypeId} {ty : TypeId} {k : IntKind} {a b : Int} (hx : f x = .int k a) (hy : f y = .int k b) :
    PureRun P (execOp f (mkO (.call ⟨.builtin (if isMin then .min else .max), ⟨[x, y]⟩, ts⟩) ty)) (.int k (if isMin then (if b < a then b else a) else (if a < b then b else a))) := by
  intro w
  cases isMin
  · simp [execOp, mkO, resolve, invoke, builtin, hx, hy, Builtin.max_, Builtin.max2]
  · simp [execOp, mkO, resolve, invoke, builtin, hx, hy, Builtin.min_, Builtin.min2]

theorem cBin_sound (hr : RR ρ R s) (hg : GR G ρ) {bop : BinOp} {t yt ty : TypeId} {x y : Operand} {pop : POp} {K : LV → Bool} (hc : cBin P G bop t x y = some (.p pop)) (he : evP pop R K = true) :
    allVal s [x, y] = true ∧ ∃ lv v, K lv = true ∧ VR ρ lv v ∧ pureVal P (execOp s.vv (mkO (.binOp bop t x y yt) ty)) = some v := by
  unfold cBin at hc
  split at hc
  · rename_i ex ey hx hy
    have val : ∀ {lx ly : LV}, ex.ev R = some lx → ey.ev R = some ly → ∃ vx vy, s.vv x = vx ∧ s.vv y = vy ∧ VR ρ lx vx ∧ VR ρ ly vy ∧ allVal s [x, y] = true := by
      intro lx ly h1 h2
      obtain ⟨vx, hvx, rx⟩ := cX_ev hr hg hx h1
      obtain ⟨vy, hvy, ry⟩ := cX_ev hr hg hy h2
      exact ⟨vx, vy, by simp [St.vv, hvx], by simp [St.vv, hvy], rx, ry, by simp [allVal, hvx, hvy]⟩
    have nilC : ∀ {d : TypeDesc}, P.underlying t = some d → nilOp (clsT d) bop ex ey = some (.p pop) → allVal s [x, y] = true ∧ ∃ lv v, K lv = true ∧ VR ρ lv v ∧ pureVal P (execOp s.vv (mkO (.binOp bop t x y yt) ty)) = some v := by
      intro d hu hn
      unfold nilOp at hn
      split at hn
      · cases hn
        simp only [evP] at he
        split at he
        · rename_i lx h1
          split at he
          · rename_i ly h2
            split at he
            · rename_i r hre
              obtain ⟨vx, vy, e1, e2, rx, ry, ha⟩ := val h1 h2
              rw [boolK_eq] at he
              exact ⟨ha, _, _, he, .bool _, (nilEq_sound rx ry hu hre e1 e2).1⟩
            · cases he
          · cases he
        · cases he
      · cases hn
        simp only [evP] at he
        split at he
        · rename_i lx h1
          split at he
          · rename_i ly h2
            split at he
            · rename_i r hre
              obtain ⟨vx, vy, e1, e2, rx, ry, ha⟩ := val h1 h2
              rw [boolK_eq] at he
              exact ⟨ha, _, _, he, .bool _, (nilEq_sound rx ry hu hre e1 e2).2⟩
            · cases he
          · cases he
        · cases he
      · cases hn
    split at hc
    · split at hc
      · cases hc
        simp only [evP] at he
        split at he
        · rename_i k a h1
          split at he
          · rename_i k' b h2
            obtain ⟨vx, vy, e1, e2, rx, ry, ha⟩ := val h1 h2
            cases rx; cases ry
            split at he
            · exact ⟨ha, pv_shift (left := true) e1 e2 he⟩
            · exact ⟨ha, pv_shift (left := false) e1 e2 he⟩
            · split at he
              · rename_i hk
                have := kNo_inj hk; subst this
                exact ⟨ha, pv_bin e1 e2 he⟩
              · cases he
          · cases he
        · cases he
      · cases hc
    · rename_i hu
      split at hc
      · cases hc
        simp only [evP] at he
        split at he
        · rename_i a h1
          split at he
          · rename_i b h2
            obtain ⟨vx, vy, e1, e2, rx, ry, ha⟩ := val h1 h2
            cases rx; cases ry
            rw [boolK_eq] at he
            exact ⟨ha, _, _, he, .bool _, pv_eqB (neg := false) hu e1 e2⟩
          · cases he
        · cases he
      · cases hc
        simp only [evP] at he
        split at he
        · rename_i a h1
          split at he
          · rename_i b h2
            obtain ⟨vx, vy, e1, e2, rx, ry, ha⟩ := val h1 h2
            cases rx; cases ry
            rw [boolK_eq] at he
            exact ⟨ha, _, _, he, .bool _, pv_eqB (neg := true) hu e1 e2⟩
          · cases he
        · cases he
      · cases hc
    · rename_i hu; exact nilC hu hc
    · rename_i hu; exact nilC hu hc
    · rename_i hu; exact nilC hu hc
    · rename_i hu; exact nilC hu hc
    · cases hc
  · cases hc

theorem cPure_sound (hr : RR ρ R s) (hg : GR G ρ) {op : Op} {ty : TypeId} {pop : POp} {K : LV → Bool} (hc : cPure P G op = some (.p pop)) (he : evP pop R K = true) : Good ρ P s (.pure op ty) K := by
  have fin : allVal s op.operands.toList = true → (∃ lv v, K lv = true ∧ VR ρ lv v ∧ pureVal P (execOp s.vv (mkO op ty)) = some v) → Good ρ P s (.pure op ty) K := by
    rintro ha ⟨lv, v, h1, h2, h3⟩
    exact ⟨lv, v, h1, h2, fun h K' hk => by simp only [denOp, ha, h3]; exact hk⟩
  unfold cPure at hc
  split at hc
  · obtain ⟨ha, h⟩ := cBin_sound (ty := ty) hr hg hc he; exact fin ha h
  · rename_i uop t x
    have un : ∀ {uo : UnOp}, (cX G x).map (fun x => EOp.p (.un uo x)) = some (.p pop) → uo = uop → Good ρ P s (.pure (.unOp uop t x) ty) K := by
      intro uo hc1 heq
      subst heq
      cases hx : cX G x with
      | none => rw [hx] at hc1; cases hc1
      | some ex =>
        rw [hx] at hc1; cases hc1
        simp only [evP] at he
        split at he
        · rename_i lv h1
          obtain ⟨v, hv, hvr⟩ := cX_ev hr hg hx h1
          exact fin (by simp [Op.operands, allVal, hv]) (pv_un (by simp [St.vv, hv]) hvr he)
        · cases he
    split at hc
    · exact un hc rfl
    · exact un hc rfl
    · cases hc
  · rename_i x i
    cases hx : cX G x with
    | none => rw [hx] at hc; cases hc
    | some ex =>
      rw [hx] at hc; cases hc
      simp only [evP] at he
      split at he
      · rename_i l h1
        obtain ⟨v, hv, hvr⟩ := cX_ev hr hg hx h1
        cases hvr with
        | tup k1 k2 =>
          rename_i l'
          split at he
          · rename_i lv hn
            rw [nthK_eq] at hn
            obtain ⟨v', hv', hr'⟩ := LR.get (ρ := ρ) ⟨k1, k2⟩ hn
            refine fin (by simp [Op.operands, allVal, hv]) ⟨lv, v', he, hr', ?_⟩
            have : s.vv x = .tuple ⟨l'⟩ := by simp [St.vv, hv]
            simp [execOp, mkO, this, Instr.extract, hv', pureVal, bind, Sem.bind, pure]
          · cases he
      · cases he
  · rename_i f first captured
    split at hc
    · rename_i a c h1 h2
      cases hc
      simp only [evP] at he
      obtain ⟨la, hk1, ha1, hl1⟩ := cXs_allVal hr hg h1 he
      obtain ⟨lc, hk2, ha2, hl2⟩ := cXs_allVal hr hg h2 hk1
      have allA : ∀ (xs ys : List Operand), allVal s xs = true → allVal s ys = true → allVal s (xs ++ ys) = true := by
        intro xs
        induction xs with
        | nil => intro ys _ h; exact h
        | cons x xs ih =>
          intro ys h1 h2
          simp only [allVal, List.cons_append] at h1 ⊢
          split at h1
          · exact ih ys h1 h2
          · cases h1
      have valsM : ∀ (xs : List Operand), vals s xs = xs.map s.vv := by
        intro xs
        induction xs with
        | nil => rfl
        | cons x xs ih => simp [vals, ih]
      refine fin (by simpa [Op.operands] using allA _ _ ha1 ha2) ⟨_, _, hk2, .fn hl1.1 hl2.1 hl1.2 hl2.2, ?_⟩
      rw [valsM, valsM]
      simp [execOp, mkO, Instr.makeFunc, pureVal, bind, Sem.bind, pure]
    · cases hc
  · cases hc

theorem cPuref_sound (hr : RR ρ R s) (hg : GR G ρ) {op : Op} {ty : TypeId} {pop : POp} {K : LV → Bool} (hc : cPuref P G op = some (.p pop)) (he : evP pop R K = true) : Good ρ P s (.puref op ty) K := by
  have fin : allVal s op.operands.toList = true → (∃ lv v, K lv = true ∧ VR ρ lv v ∧ PureRun P (execOp s.vv (mkO op ty)) v) → Good ρ P s (.puref op ty) K := by
    rintro ha ⟨lv, v, h1, h2, h3⟩
    exact ⟨lv, v, h1, h2, fun h K' hk => by simp only [denOp, ha]; exact ⟨v, h3, hk⟩⟩
  have finB : ∀ {bop : BinOp} {t yt : TypeId} {x y : Operand}, op = .binOp bop t x y yt → cBin P G bop t x y = some (.p pop) → Good ρ P s (.puref op ty) K := by
    intro bop t yt x y ho hc1
    subst ho
    obtain ⟨ha, lv, v, h1, h2, h3⟩ := cBin_sound (ty := ty) (yt := yt) hr hg hc1 he
    exact fin ha ⟨lv, v, h1, h2, pureVal_run _ h3⟩
  unfold cPuref at hc
  split at hc
  · split at hc
    all_goals first | exact finB rfl hc | cases hc
  · rename_i t x lo hi mx
    split at hc
    · rename_i e hu
      split at hc
      · rename_i k ex elo ehi emx hk hx hlo hhi hmx
        cases hc
        have hhi' : cO G (some hi) = some (some ehi) := by simp [cO, hhi]
        have hmx' : cO G (some mx) = some (some emx) := by simp [cO, hmx]
        have bv : ∀ {o : Operand} {e : EX} {K : Nat → Bool}, cX G o = some e → bndK R (some e) 0 K = true → ∃ (n : Nat) (k : IntKind), K n = true ∧ s.vv o = .int k n ∧ ∃ v, s.ev o = .val v := by
          intro o e K ho hb
          simp only [bndK] at hb
          split at hb
          · rename_i k n h1
            obtain ⟨v, hv, hvr⟩ := cX_ev hr hg ho h1
            cases hvr
            exact ⟨n, k, hb, by simp [St.vv, hv], _, hv⟩
          · cases hb
        have bo : ∀ {K : Nat → Bool}, bndK R elo 0 K = true → ∃ n : Nat, K n = true ∧ ((lo = none ∧ n = 0) ∨ ∃ o ki, lo = some o ∧ s.vv o = .int ki n) ∧ allVal s lo.toList = true := by
          intro K hb
          cases lo with
          | none => cases hlo; exact ⟨0, hb, .inl ⟨rfl, rfl⟩, rfl⟩
          | some o =>
            simp only [cO] at hlo
            cases ho : cX G o with
            | none => rw [ho] at hlo; cases hlo
            | some eo =>
              rw [ho] at hlo; cases hlo
              obtain ⟨n, k, h1, h2, v, h3⟩ := bv ho hb
              exact ⟨n, h1, .inr ⟨o, k, rfl, h2⟩, by simp [allVal, h3]⟩
        simp only [evP] at he
        split at he
        · rename_i b o n c g h1
          obtain ⟨v, hv, hvr⟩ := cX_ev hr hg hx h1
          cases hvr with
          | slice hrb =>
          rename_i rb κ
          obtain ⟨i, hi1, hi2, hi3⟩ := bo he
          obtain ⟨j, kj, hj1, hj2, _, hj3⟩ := bv hhi hi1
          obtain ⟨m, km, hm1, hm2, _, hm3⟩ := bv hmx hj1
          split at hm1
          · rename_i hle
            simp only [Bool.and_eq_true, Nat.ble_eq] at hle
            have hc' : m ≤ (bif g then c + κ else c) := by cases g <;> simp <;> omega
            have hall : allVal s (Op.slice t x lo (some hi) (some mx)).operands.toList = true := by
              cases lo with
              | none => simp [Op.operands, allVal, hv, hj3, hm3]
              | some o =>
                simp only [allVal, Option.toList_some] at hi3
                split at hi3
                · rename_i v2 hv2; simp [Op.operands, allVal, hv, hj3, hm3, hv2]
                · cases hi3
            have hvx : s.vv x = .slice (some ⟨rb, o, none⟩) n (bif g then c + κ else c) := by simp [St.vv, hv]
            have hrun := slice3_run (ty := ty) hu hk hvx hi2 hj2 hm2 hle.1.1 hle.1.2 hc'
            split at hm1
            · rename_i hmi
              have hmi := Nat.eq_of_beq_eq_true hmi
              subst hmi
              rw [natK_eq] at hm1
              rw [if_pos rfl, Nat.sub_self] at hrun
              exact fin hall ⟨_, _, hm1, .slice hrb, hrun⟩
            · rename_i hmi
              have hmi : m ≠ i := fun e => by subst e; rw [beqSelf] at hmi; cases hmi
              simp only [natK_eq] at hm1
              rw [if_neg hmi, addNone] at hrun
              exact fin hall ⟨_, _, hm1, .slice hrb, hrun⟩
          · cases hm1
        · rename_i h1
          obtain ⟨v, hv, hvr⟩ := cX_ev hr hg hx h1
          cases hvr
          obtain ⟨i, hi1, hi2, hi3⟩ := bo he
          obtain ⟨j, kj, hj1, hj2, _, hj3⟩ := bv hhi hi1
          obtain ⟨m, km, hm1, hm2, _, hm3⟩ := bv hmx hj1
          split at hm1
          · rename_i hle
            simp only [Bool.and_eq_true] at hle
            have ei := Nat.eq_of_beq_eq_true hle.1.1
            have ej := Nat.eq_of_beq_eq_true hle.1.2
            have em := Nat.eq_of_beq_eq_true hle.2
            subst ei; subst ej; subst em
            have hall : allVal s (Op.slice t x lo (some hi) (some mx)).operands.toList = true := by
              cases lo with
              | none => simp [Op.operands, allVal, hv, hj3, hm3]
              | some o =>
                simp only [allVal, Option.toList_some] at hi3
                split at hi3
                · rename_i v2 hv2; simp [Op.operands, allVal, hv, hj3, hm3, hv2]
                · cases hi3
            have hlo' : lo = none ∨ ∃ o ki, lo = some o ∧ s.vv o = .int ki 0 := by
              rcases hi2 with ⟨h, _⟩ | h
              · exact .inl h
              · exact .inr h
            exact fin hall ⟨_, _, hm1, .nils, slice3_nil (ty := ty) hu hk (show s.vv x = .slice none 0 0 by simp [St.vv, hv]) hlo' hj2 hm2⟩
          · cases hm1
        · cases he
      · cases hc
    · cases hc
  · split at hc
    · rename_i x y ts
      split at hc
      · rename_i ex ey hx hy
        cases hc
        simp only [evP] at he
        split at he
        · rename_i k a h1
          split at he
          · rename_i k' b h2
            obtain ⟨vx, hvx, rx⟩ := cX_ev hr hg hx h1
            obtain ⟨vy, hvy, ry⟩ := cX_ev hr hg hy h2
            cases rx; cases ry
            split at he
            · rename_i hk
              have := kNo_inj hk; subst this
              have hrun := minmax_run (P := P) (isMin := true) (ts := ts) (ty := ty) (f := s.vv) (x := x) (y := y) (k := k) (a := a) (b := b) (by simp [St.vv, hvx]) (by simp [St.vv, hvy])
              have hall : allVal s (Op.call ⟨.builtin .min, ⟨[x, y]⟩, ts⟩).operands.toList = true := by simp [Op.operands, Call.operands, allVal, hvx, hvy]
              rw [ltI_eq] at he
              by_cases hlt : b < a
              · simp [hlt] at he hrun; exact fin hall ⟨_, _, he, .int _ _, hrun⟩
              · simp [hlt] at he hrun; exact fin hall ⟨_, _, he, .int _ _, hrun⟩
            · cases he
          · cases he
        · cases he
      · cases hc
    · rename_i x y ts
      split at hc
      · rename_i ex ey hx hy
        cases hc
        simp only [evP] at he
        split at he
        · rename_i k a h1
          split at he
          · rename_i k' b h2
            obtain ⟨vx, hvx, rx⟩ := cX_ev hr hg hx h1
            obtain ⟨vy, hvy, ry⟩ := cX_ev hr hg hy h2
            cases rx; cases ry
            split at he
            · rename_i hk
              have := kNo_inj hk; subst this
              have hrun := minmax_run (P := P) (isMin := false) (ts := ts) (ty := ty) (f := s.vv) (x := x) (y := y) (k := k) (a := a) (b := b) (by simp [St.vv, hvx]) (by simp [St.vv, hvy])
              have hall : allVal s (Op.call ⟨.builtin .max, ⟨[x, y]⟩, ts⟩).operands.toList = true := by simp [Op.operands, Call.operands, allVal, hvx, hvy]
              rw [ltI_eq] at he
              by_cases hlt : a < b
              · simp [hlt] at he hrun; exact fin hall ⟨_, _, he, .int _ _, hrun⟩
              · simp [hlt] at he hrun; exact fin hall ⟨_, _, he, .int _ _, hrun⟩
            · cases he
          · cases he
        · cases he
      · cases hc
    · cases hc
  · cases hc
end
end Go.Ev
/- The evaluator's operations without effects, all together. -/
namespace Go.Ev
open Go Go.Den
section
variable {P : Program} {G : Nat} {ρ : Rho} {R : T LV} {s : St}

theorem map_some {α β : Type} {o : Option α} {f : α → β} {b : β} (h : o.map f = some b) : ∃ a, o = some a ∧ f a = b := by
  cases o with
  | none => cases h
  | some a => exact ⟨a, rfl, by simpa using h⟩

theorem evP_sound (hr : RR ρ R s) (hg : GR G ρ) {sop : SOp} {pop : POp} {K : LV → Bool} (hc : cOp P G sop = some (.p pop)) (he : evP pop R K = true) : Good ρ P s sop K := by
  cases sop <;> simp only [cOp] at hc
  case mv x =>
    obtain ⟨ex, hx, h1⟩ := map_some hc
    cases h1
    simp only [evP] at he
    split at he
    · rename_i lv h1
      obtain ⟨v, hv, hvr⟩ := cX_ev hr hg hx h1
      exact ⟨lv, v, he, hvr, fun h K' hk => by simp only [denOp, hv]; exact hk⟩
    · cases he
  case pick c a b =>
    split at hc
    · rename_i ec ea eb h1 h2 h3
      cases hc
      simp only [evP] at he
      split at he
      · rename_i hcv
        obtain ⟨v, hv, hvr⟩ := cX_ev hr hg h1 hcv
        cases hvr
        split at he
        · rename_i lv hav
          obtain ⟨v, hv2, hvr⟩ := cX_ev hr hg h2 hav
          exact ⟨lv, v, he, hvr, fun h K' hk => by simp only [denOp, hv, br, hv2]; exact hk⟩
        · cases he
      · rename_i hcv
        obtain ⟨v, hv, hvr⟩ := cX_ev hr hg h1 hcv
        cases hvr
        split at he
        · rename_i lv hav
          obtain ⟨v, hv2, hvr⟩ := cX_ev hr hg h3 hav
          exact ⟨lv, v, he, hvr, fun h K' hk => by simp only [denOp, hv, br, hv2]; exact hk⟩
        · cases he
      · cases he
    · cases hc
  case alloc t z esc => split at hc <;> cases hc
  case box t x esc => split at hc <;> cases hc
  case load agg n x => obtain ⟨ex, hx, h1⟩ := map_some hc; cases h1
  case store n x v => split at hc <;> cases hc
  case nilCheck x =>
    obtain ⟨ex, hx, h1⟩ := map_some hc
    cases h1
    simp only [evP] at he
    split at he
    · rename_i b o h1
      obtain ⟨v, hv, hvr⟩ := cX_ev hr hg hx h1
      cases hvr with
      | ptr hb => exact ⟨_, _, he, .ptr hb, fun h K' hk => by simp only [denOp, hv]; exact hk⟩
    · rename_i f a c h1
      obtain ⟨v, hv, hvr⟩ := cX_ev hr hg hx h1
      cases hvr with
      | fn k1 k2 k3 k4 => exact ⟨_, _, he, .fn k1 k2 k3 k4, fun h K' hk => by simp only [denOp, hv]; exact hk⟩
    · cases he
  case fieldAddr off x =>
    obtain ⟨ex, hx, h1⟩ := map_some hc
    cases h1
    simp only [evP] at he
    split at he
    · rename_i b o h1
      obtain ⟨v, hv, hvr⟩ := cX_ev hr hg hx h1
      rw [natK_eq] at he
      cases hvr with
      | ptr hb => exact ⟨_, _, he, .ptr hb, fun h K' hk => by simp only [denOp, hv]; exact hk⟩
    · cases he
  case indexAddr size x i =>
    split at hc
    · rename_i ex ei hx hi
      cases hc
      simp only [evP] at he
      split at he
      · rename_i b o n c g h1
        split at he
        · rename_i k i' h2
          split at he
          · rename_i hlt
            have hlt := Nat.blt_eq.mp hlt
            obtain ⟨v, hv, hvr⟩ := cX_ev hr hg hx h1
            obtain ⟨v2, hv2, hvr2⟩ := cX_ev hr hg hi h2
            cases hvr2
            rw [natK_eq] at he
            cases hvr with
            | slice hb =>
              refine ⟨_, _, he, .ptr hb, fun h K' hk => ?_⟩
              simp only [denOp, hv, hv2]
              exact ⟨⟨Int.natCast_nonneg i', Int.ofNat_lt.mpr hlt⟩, hk⟩
          · cases he
        · cases he
      · cases he
    · cases hc
  case indexArr len size x i =>
    split at hc
    · rename_i ex ei hx hi
      cases hc
      simp only [evP] at he
      split at he
      · rename_i b o h1
        split at he
        · rename_i k i' h2
          split at he
          · rename_i hlt
            have hlt := Nat.blt_eq.mp hlt
            obtain ⟨v, hv, hvr⟩ := cX_ev hr hg hx h1
            obtain ⟨v2, hv2, hvr2⟩ := cX_ev hr hg hi h2
            cases hvr2
            rw [natK_eq] at he
            cases hvr with
            | ptr hb =>
              refine ⟨_, _, he, .ptr hb, fun h K' hk => ?_⟩
              simp only [denOp, hv, hv2]
              exact ⟨⟨Int.natCast_nonneg i', Int.ofNat_lt.mpr hlt⟩, hk⟩
          · cases he
        · cases he
      · cases he
    · cases hc
  case len str x =>
    obtain ⟨ex, hx, h1⟩ := map_some hc
    cases h1
    simp only [evP] at he
    split at he
    · split at he
      · rename_i b o n c g h1
        obtain ⟨v, hv, hvr⟩ := cX_ev hr hg hx h1
        cases hvr with
        | slice hb => exact ⟨_, _, he, .int _ _, fun h K' hk => by simp only [denOp, hv]; exact hk⟩
      · rename_i h1
        obtain ⟨v, hv, hvr⟩ := cX_ev hr hg hx h1
        cases hvr
        exact ⟨_, _, he, .int _ _, fun h K' hk => by simp only [denOp, hv]; exact hk⟩
      · cases he
    · split at he
      · rename_i n m h1
        obtain ⟨v, hv, hvr⟩ := cX_ev hr hg hx h1
        cases hvr
        exact ⟨_, _, he, .int _ _, fun h K' hk => by simp only [denOp, hv, bytesOf_length]; exact hk⟩
      · cases he
  case call f args => split at hc <;> cases hc
  case pure op ty => exact cPure_sound hr hg hc he
  case puref op ty => exact cPuref_sound hr hg hc he
  case raw op ty =>
    exfalso
    revert hc
    unfold cRaw cUpd cApp
    repeat' split
    all_goals intro hc; cases hc
  case conv k x =>
    obtain ⟨ex, hx, h1⟩ := map_some hc
    cases h1
    simp only [evP] at he
    split at he
    · rename_i j i h1
      obtain ⟨v, hv, hvr⟩ := cX_ev hr hg hx h1
      cases hvr
      rw [wrapK_eq] at he
      exact ⟨_, _, he, .int _ _, fun h K' hk => by simp only [denOp, hv]; exact hk⟩
    · cases he
  case build z parts =>
    split at hc
    · rename_i z' ps hz hps
      cases hc
      simp only [evP] at he
      obtain ⟨l, l', hk, hl, hf⟩ := fillK_sound hr hg hps (lvs0_LR hz) he
      exact ⟨_, _, hk, .agg hl.1 hl.2, fun h K' hK => by simp only [denOp]; exact hf _ hK⟩
    · cases hc
  case buildSlice e len z parts => split at hc <;> cases hc
  case field agg off n x =>
    obtain ⟨ex, hx, h1⟩ := map_some hc
    cases h1
    simp only [evP] at he
    split at he
    · rename_i l h1
      obtain ⟨v, hv, hvr⟩ := cX_ev hr hg hx h1
      cases hvr with
      | agg k1 k2 =>
        rename_i l'
        have hlr : LR ρ l l' := ⟨k1, k2⟩
        split at he
        · obtain ⟨h2, h3⟩ := partK_sound he
          have h4 := (hlr.drop off).take n
          refine ⟨_, _, h2, .agg h4.1 h4.2, fun h K' hk => ?_⟩
          simp only [denOp, hv]
          have : Nat.ble (off + n) l'.length = true := by rw [Nat.ble_eq, ← k1]; exact h3
          rw [this]; exact hk
        · split at he
          · rename_i hn
            have hn := Nat.eq_of_beq_eq_true hn
            subst hn
            split at he
            · rename_i lv hlv
              rw [nthK_eq] at hlv
              obtain ⟨v', hv', hr'⟩ := hlr.get hlv
              refine ⟨lv, v', he, hr', fun h K' hk => ?_⟩
              simp only [denOp, hv]
              have hlt := (List.getElem?_eq_some_iff.1 hv').1
              have : Nat.ble (off + 1) l'.length = true := by rw [Nat.ble_eq]; exact hlt
              rw [this]
              have e : (l'.drop off).take 1 = [v'] := by
                rw [List.drop_eq_getElem_cons hlt]
                have := (List.getElem?_eq_some_iff.1 hv').2
                simp [this]
              simp only [packV, e]; exact hk
            · cases he
          · cases he
    · cases he
  case idxS x i =>
    split at hc
    · rename_i ex ei hx hi
      cases hc
      simp only [evP] at he
      split at he
      · rename_i len n h1
        split at he
        · rename_i k i' h2
          split at he
          · rename_i hlt
            have hlt := Nat.blt_eq.mp hlt
            obtain ⟨v, hv, hvr⟩ := cX_ev hr hg hx h1
            obtain ⟨v2, hv2, hvr2⟩ := cX_ev hr hg hi h2
            cases hvr2; cases hvr
            rw [natK_eq] at he
            have hget := bytesOf_get len n i' hlt
            have hm : n / 2 ^ (8 * i') % 256 < 256 := Nat.mod_lt _ (by omega)
            have e1 : Nat.mod (Nat.shiftRight n (Nat.mul 8 i')) 256 = (UInt8.ofNat (n / 2 ^ (8 * i') % 256)).toNat := by
              show (n >>> (8 * i')) % 256 = _
              rw [Nat.shiftRight_eq_div_pow, UInt8.toNat_ofNat']
              omega
            rw [e1] at he
            refine ⟨_, _, he, .int _ _, fun h K' hk => ?_⟩
            simp only [denOp, hv, hv2]
            exact ⟨Int.natCast_nonneg i', _, hget, hk⟩
          · cases he
        · cases he
      · cases he
    · cases hc
  case sliceS x lo hi =>
    split at hc
    · rename_i ex elo ehi hx hlo hhi
      cases hc
      simp only [evP] at he
      split at he
      · rename_i len n h1
        obtain ⟨v, hv, hvr⟩ := cX_ev hr hg hx h1
        cases hvr
        obtain ⟨a, ha1, ha2⟩ := bndK_sound hr hg hlo he
        obtain ⟨b, hb1, hb2⟩ := bndK_sound hr hg hhi ha1
        split at hb1
        · rename_i hle
          simp only [Bool.and_eq_true, Nat.ble_eq] at hle
          simp only [strK, natK_eq] at hb1
          refine ⟨_, _, hb1, .str _ _, fun h K' hk => ?_⟩
          simp only [denOp, hv, bytesOf_length]
          refine ha2 _ (hb2 _ ⟨⟨Int.natCast_nonneg a, Int.ofNat_le.mpr hle.1, Int.ofNat_le.mpr hle.2⟩, ?_⟩)
          have e : ((bytesOf len n).drop (a : Int).toNat).take ((b : Int).toNat - (a : Int).toNat) = bytesOf (Nat.sub b a) (Nat.mod (Nat.shiftRight n (Nat.mul 8 a)) (Nat.pow 2 (Nat.mul 8 (Nat.sub b a)))) := by
            show _ = bytesOf (b - a) ((n >>> (8 * a)) % 2 ^ (8 * (b - a)))
            rw [bytesOf_mod, Nat.shiftRight_eq_div_pow, Int.toNat_natCast, Int.toNat_natCast, bytesOf_drop, bytesOf_take _ _ _ (by omega)]
          rw [e]; exact hk
        · cases hb1
      · cases he
    · cases hc
  case sliceL k x lo hi =>
    split at hc
    · rename_i ex elo ehi hx hlo hhi
      cases hc
      simp only [evP] at he
      split at he
      · rename_i b o n c g h1
        obtain ⟨v, hv, hvr⟩ := cX_ev hr hg hx h1
        cases hvr with
        | slice hb =>
          rename_i rb κ
          obtain ⟨i, hi1, hi2⟩ := bndK_sound hr hg hlo he
          obtain ⟨j, hj1, hj2⟩ := bndK_sound hr hg hhi hi1
          split at hj1
          · rename_i hle
            simp only [Bool.and_eq_true, Nat.ble_eq, Bool.or_eq_true, Nat.blt_eq] at hle
            simp only [natK_eq] at hj1
            refine ⟨_, _, hj1, .slice hb, fun h K' hk => ?_⟩
            simp only [denOp, hv]
            have hcc : c ≤ (bif g then c + κ else c) := by cases g <;> simp
            refine hi2 _ (hj2 _ ⟨⟨Int.natCast_nonneg i, Int.ofNat_le.mpr hle.1.1, ?_⟩, fun o' ho' => ?_⟩)
            · exact Int.ofNat_le.mpr (Nat.le_trans hle.1.2 hcc)
            · have h3 : o' = o + (i : Int).toNat * k := ho' (by
                rcases hle.2 with h4 | h4
                · left; rw [Int.toNat_natCast]; omega
                · right; rw [Int.toNat_natCast]; exact Nat.eq_of_beq_eq_true h4)
              rw [h3, Int.toNat_natCast, Int.toNat_natCast]
              have e : (bif g then Nat.sub c i + κ else Nat.sub c i) = (bif g then c + κ else c) - i := by
                have : i ≤ c := Nat.le_trans hle.1.1 hle.1.2
                cases g
                · rfl
                · show c - i + κ = c + κ - i; omega
              rw [e] at hk
              exact hk
          · cases hj1
      · rename_i h1
        obtain ⟨v, hv, hvr⟩ := cX_ev hr hg hx h1
        cases hvr
        obtain ⟨i, hi1, hi2⟩ := bndK_sound hr hg hlo he
        obtain ⟨j, hj1, hj2⟩ := bndK_sound hr hg hhi hi1
        split at hj1
        · rename_i hle
          simp only [Bool.and_eq_true] at hle
          have ei := Nat.eq_of_beq_eq_true hle.1
          have ej := Nat.eq_of_beq_eq_true hle.2
          subst ei; subst ej
          refine ⟨_, _, hj1, .nils, fun h K' hk => ?_⟩
          simp only [denOp, hv]
          exact hi2 _ (hj2 _ ⟨⟨rfl, rfl⟩, hk⟩)
        · cases hj1
      · cases he
    · cases hc
  case addS x y =>
    split at hc
    · rename_i ex ey hx hy
      cases hc
      simp only [evP] at he
      split at he
      · rename_i a n h1
        split at he
        · rename_i b m h2
          split at he
          · rename_i hle
            have hle := Nat.le_of_ble_eq_true hle
            obtain ⟨v, hv, hvr⟩ := cX_ev hr hg hx h1
            obtain ⟨v2, hv2, hvr2⟩ := cX_ev hr hg hy h2
            cases hvr; cases hvr2
            simp only [strK, natK_eq] at he
            refine ⟨_, _, he, .str _ _, fun h K' hk => ?_⟩
            simp only [denOp, hv, hv2, bytesOf_length]
            have e : bytesOf (Nat.add a b) (Nat.add (Nat.mod n (Nat.pow 2 (Nat.mul 8 a))) (Nat.mul m (Nat.pow 2 (Nat.mul 8 a)))) = bytesOf a n ++ bytesOf b m := bytesOf_append a b n m
            rw [e] at hk
            exact ⟨hle, hk⟩
          · cases he
        · cases he
      · cases he
    · cases hc
  case eqS neg x y =>
    have symS : ∀ {ex : List (Nat × Nat)} {len n : Nat} {neg : Bool} {b : List UInt8}, (∀ p, p ∈ ex → b ≠ bytesOf p.1 p.2) → symEq neg ex len n K = true → K (.bool neg) = true ∧ b ≠ bytesOf len n := by
      intro ex len n neg b hb hs
      unfold symEq at hs
      split at hs
      · rename_i hin
        rw [boolK_eq] at hs
        refine ⟨hs, ?_⟩
        clear hs
        induction ex with
        | nil => cases hin
        | cons p ex ih =>
          obtain ⟨a, c⟩ := p
          simp only [inEx] at hin
          split at hin
          · rename_i h1
            rw [Bool.and_eq_true] at h1
            rw [Nat.eq_of_beq_eq_true h1.1, Nat.eq_of_beq_eq_true h1.2]
            exact hb (a, c) List.mem_cons_self
          · exact ih (fun p hp => hb p (List.mem_cons_of_mem _ hp)) hin
      · cases hs
    split at hc
    · rename_i ex ey hx hy
      cases hc
      simp only [evP] at he
      split at he
      · rename_i a n h1
        split at he
        · rename_i b m h2
          obtain ⟨v, hv, hvr⟩ := cX_ev hr hg hx h1
          obtain ⟨v2, hv2, hvr2⟩ := cX_ev hr hg hy h2
          cases hvr; cases hvr2
          have e : (Nat.beq a b && Nat.beq (Nat.mod n (Nat.pow 2 (Nat.mul 8 a))) (Nat.mod m (Nat.pow 2 (Nat.mul 8 a)))) = (bytesOf a n == bytesOf b m) := by
            rw [Bool.eq_iff_iff, Bool.and_eq_true, Nat.beq_eq, Nat.beq_eq, beq_iff_eq]
            constructor
            · rintro ⟨rfl, h4⟩
              have h4 : n % 2 ^ (8 * a) = m % 2 ^ (8 * a) := h4
              rw [← bytesOf_mod a n, ← bytesOf_mod a m, h4]
            · intro h4
              have h5 : a = b := by have := congrArg List.length h4; simpa [bytesOf_length] using this
              subst h5
              exact ⟨rfl, bytesOf_inj a n m h4⟩
          rw [e] at he
          split at he
          · rw [boolK_eq] at he
            exact ⟨_, _, he, .bool _, fun h K' hk => by simp only [denOp, hv, hv2]; exact hk⟩
          · rw [boolK_eq] at he
            exact ⟨_, _, he, .bool _, fun h K' hk => by simp only [denOp, hv, hv2]; exact hk⟩
        · rename_i ex2 h2
          obtain ⟨v, hv, hvr⟩ := cX_ev hr hg hx h1
          obtain ⟨v2, hv2, hvr2⟩ := cX_ev hr hg hy h2
          cases hvr
          cases hvr2 with
          | sym hs =>
            obtain ⟨h3, h4⟩ := symS hs he
            have e : (bytesOf a n == _) = false := beq_eq_false_iff_ne.2 (Ne.symm h4)
            refine ⟨_, _, h3, .bool neg, fun h K' hk => ?_⟩
            cases neg <;> simp only [denOp, hv, hv2, e] <;> exact hk
        · cases he
      · rename_i ex1 h1
        split at he
        · rename_i b m h2
          obtain ⟨v, hv, hvr⟩ := cX_ev hr hg hx h1
          obtain ⟨v2, hv2, hvr2⟩ := cX_ev hr hg hy h2
          cases hvr2
          cases hvr with
          | sym hs =>
            obtain ⟨h3, h4⟩ := symS hs he
            have e : (_ == bytesOf b m) = false := beq_eq_false_iff_ne.2 h4
            refine ⟨_, _, h3, .bool neg, fun h K' hk => ?_⟩
            cases neg <;> simp only [denOp, hv, hv2, e] <;> exact hk
        · cases he
      · cases he
    · cases hc
  case bytesS x => obtain ⟨ex, hx, h1⟩ := map_some hc; cases h1
  case bad => cases hc
end
end Go.Ev
/- Memory: how the evaluator's heap stays related; maps; appends. -/
namespace Go.Ev
open Go Go.Den

section
variable {G : Nat} {ρ ρ' : Rho} {H H' : T Blk} {nx : Nat} {h : PHeap}

theorem BR.mono (hle : Le ρ ρ') {κ : Nat} {B : Blk} {o : Obj} (hb : BR ρ κ B o) : BR ρ' κ B o := by
  cases B with
  | cells t k n c =>
    obtain ⟨l, rest, h1, h2, h3, h4⟩ := hb
    exact ⟨l, rest, h1, h2, h3, fun i hi => by obtain ⟨lv, v, a, b, c⟩ := h4 i hi; exact ⟨lv, v, a, b, c.mono hle⟩⟩
  | map es clock =>
    obtain ⟨es', h1, h2, h3⟩ := hb
    exact ⟨es', h1, h2, fun i e e' a b => by obtain ⟨x, y, z⟩ := h3 i e e' a b; exact ⟨x.mono hle, y.mono hle, z⟩⟩

theorem HR.lt (hh : HR G ρ H nx h) {b : Nat} {x : Nat × Nat} (hb : ρ b = some x) : b < nx := by
  rcases Nat.lt_or_ge b nx with h1 | h1
  · exact h1
  · rw [hh.fresh b h1] at hb; cases hb

/-- One block more. -/
def ext (ρ : Rho) (nx rb κ : Nat) : Rho := fun b => if b = nx then some (rb, κ) else ρ b

theorem ext_agr (ρ : Rho) (nx rb κ : Nat) : Agr nx ρ (ext ρ nx rb κ) := fun b hb => by
  simp only [ext]; rw [if_neg (by omega)]

theorem HR.le (hh : HR G ρ H nx h) (ha : Agr nx ρ ρ') : Le ρ ρ' := ha.le hh.fresh

theorem HR.new (hh : HR G ρ H nx h) {rb κ : Nat} {B : Blk} {o : Obj} (hn : ∀ b B κ, H.get b = some B → ρ b = some (rb, κ) → False) (hB : BR (ext ρ nx rb κ) κ B o)
    (hH : ∀ j, H'.get j = if j = nx then some B else H.get j) : HR G (ext ρ nx rb κ) H' (nx + 1) (h.put rb o) where
  blk := fun b B' rb' κ' hb hρ => by
    rw [hH] at hb
    by_cases e : b = nx
    · subst e
      rw [if_pos rfl] at hb; cases hb
      simp only [ext, if_pos] at hρ; cases hρ
      exact ⟨o, by simp [PHeap.put], hB⟩
    · rw [if_neg e] at hb
      simp only [ext, if_neg e] at hρ
      obtain ⟨o', h1, h2⟩ := hh.blk b B' rb' κ' hb hρ
      have : rb' ≠ rb := fun e2 => by subst e2; exact hn b B' κ' hb hρ
      exact ⟨o', by simp [PHeap.put, this, h1], h2.mono (hh.le (ext_agr ρ nx rb κ))⟩
  inj := fun b b' B1 B2 rb' κ1 κ2 h1 h2 h3 h4 => by
    rw [hH] at h1 h2
    simp only [ext] at h3 h4
    by_cases e1 : b = nx <;> by_cases e2 : b' = nx
    · rw [e1, e2]
    · rw [if_pos e1] at h3; rw [if_neg e2] at h4 h2; cases h3; exact (hn b' _ _ h2 h4).elim
    · rw [if_pos e2] at h4; rw [if_neg e1] at h3 h1; cases h4; exact (hn b _ _ h1 h3).elim
    · rw [if_neg e1] at h1 h3; rw [if_neg e2] at h2 h4; exact hh.inj b b' B1 B2 rb' κ1 κ2 h1 h2 h3 h4
  fresh := fun b hb => by simp only [ext]; rw [if_neg (by omega)]; exact hh.fresh b (by omega)
  glob := fun g hg => by
    have := hh.lt (hh.glob g hg)
    simp only [ext]; rw [if_neg (by omega)]; exact hh.glob g hg

theorem HR.noB (hh : HR G ρ H nx h) {rb : Nat} (hn : h rb = none) : ∀ b B κ, H.get b = some B → ρ b = some (rb, κ) → False := fun b B κ h1 h2 => by
  obtain ⟨o, h3, _⟩ := hh.blk b B rb κ h1 h2; rw [hn] at h3; cases h3

theorem HR.set (hh : HR G ρ H nx h) {b rb κ : Nat} {B B2 : Blk} {o : Obj} (hb : H.get b = some B) (hρ : ρ b = some (rb, κ)) (hB : BR ρ κ B2 o)
    (hH : ∀ j, H'.get j = if j = b then some B2 else H.get j) : HR G ρ H' nx (h.put rb o) where
  blk := fun b' B' rb' κ' h1 h2 => by
    rw [hH] at h1
    by_cases e : b' = b
    · subst e
      rw [if_pos rfl] at h1; cases h1
      rw [hρ] at h2; cases h2
      exact ⟨o, by simp [PHeap.put], hB⟩
    · rw [if_neg e] at h1
      obtain ⟨o', h3, h4⟩ := hh.blk b' B' rb' κ' h1 h2
      have : rb' ≠ rb := fun e2 => by subst e2; exact e (hh.inj b' b B' B rb' κ' κ h1 hb h2 hρ)
      exact ⟨o', by simp [PHeap.put, this, h3], h4⟩
  inj := fun b1 b2 B1 B2' rb' κ1 κ2 h1 h2 h3 h4 => by
    rw [hH] at h1 h2
    have g1 : ∃ C, H.get b1 = some C := by
      by_cases e : b1 = b
      · exact ⟨B, by rw [e]; exact hb⟩
      · rw [if_neg e] at h1; exact ⟨_, h1⟩
    have g2 : ∃ C, H.get b2 = some C := by
      by_cases e : b2 = b
      · exact ⟨B, by rw [e]; exact hb⟩
      · rw [if_neg e] at h2; exact ⟨_, h2⟩
    obtain ⟨C1, g1⟩ := g1
    obtain ⟨C2, g2⟩ := g2
    exact hh.inj b1 b2 C1 C2 rb' κ1 κ2 g1 g2 h3 h4
  fresh := hh.fresh
  glob := hh.glob

/-- A block is forgotten. -/
theorem HR.kill (hh : HR G ρ H nx h) {b : Nat} (hH : ∀ j, H'.get j = if j = b then none else H.get j) : HR G ρ H' nx h where
  blk := fun b' B' rb' κ' h1 h2 => by
    rw [hH] at h1
    by_cases e : b' = b
    · rw [if_pos e] at h1; cases h1
    · rw [if_neg e] at h1; exact hh.blk b' B' rb' κ' h1 h2
  inj := fun b1 b2 B1 B2 rb' κ1 κ2 h1 h2 h3 h4 => by
    rw [hH] at h1 h2
    by_cases e1 : b1 = b
    · rw [if_pos e1] at h1; cases h1
    · by_cases e2 : b2 = b
      · rw [if_pos e2] at h2; cases h2
      · rw [if_neg e1] at h1; rw [if_neg e2] at h2; exact hh.inj b1 b2 B1 B2 rb' κ1 κ2 h1 h2 h3 h4
  fresh := hh.fresh
  glob := hh.glob

theorem newK_sound {B : Blk} {K : T Blk → Nat → Bool} (he : newK H nx B K = true) : ∃ H', K H' (nx + 1) = true ∧ ∀ j, H'.get j = if j = nx then some B else H.get j := by
  obtain ⟨H', h1, h2⟩ := T.putK_sound he
  exact ⟨H', h1, h2⟩

theorem readK_sound : ∀ {n : Nat} {c : T LV} {o : Nat} {K : List LV → Bool}, readK n c o K = true → ∃ l, K l = true ∧ l.length = n ∧ ∀ i, i < n → c.get (o + i) = l[i]?
  | 0, c, o, K, he => ⟨[], he, rfl, fun i hi => by omega⟩
  | n + 1, c, o, K, he => by
    simp only [readK] at he
    split at he
    · rename_i v hv
      obtain ⟨l, h1, h2, h3⟩ := readK_sound he
      refine ⟨v :: l, h1, by simp [h2], fun i hi => ?_⟩
      cases i with
      | zero => simpa using hv
      | succ i =>
        have := h3 i (by omega)
        rw [show o + (i + 1) = Nat.succ o + i by omega, this]; simp
    · cases he

theorem writeK_sound : ∀ {l : List LV} {c : T LV} {o : Nat} {K : T LV → Bool}, writeK l c o K = true → ∃ c', K c' = true ∧ ∀ j, c'.get j = if o ≤ j ∧ j < o + l.length then l[j - o]? else c.get j
  | [], c, o, K, he => ⟨c, he, fun j => by rw [if_neg (by simp)]⟩
  | v :: l, c, o, K, he => by
    simp only [writeK] at he
    obtain ⟨c1, h1, h2⟩ := T.putK_sound he
    obtain ⟨c', h3, h4⟩ := writeK_sound h1
    refine ⟨c', h3, fun j => ?_⟩
    rw [h4]
    by_cases e : j = o
    · subst e
      rw [if_neg (by omega), h2, if_pos rfl, if_pos (by simp)]; simp
    · by_cases e2 : Nat.succ o ≤ j ∧ j < Nat.succ o + l.length
      · rw [if_pos e2, if_pos (by simp; omega)]
        rw [show j - o = (j - Nat.succ o) + 1 by omega]; simp
      · rw [if_neg e2, h2, if_neg e, if_neg (by simp; omega)]

theorem rowK_sound (hh : HR G ρ H nx h) {b rb κ off n : Nat} {K : List LV → Bool} (hρ : ρ b = some (rb, κ)) (he : rowK H b off n K = true) :
    ∃ l l', K l = true ∧ LR ρ l l' ∧ l'.length = n ∧ h.row rb off l' := by
  unfold rowK at he
  split at he
  · rename_i t k m c hb
    split at he
    · rename_i hle
      have hle : off + n ≤ m := Nat.le_of_ble_eq_true hle
      obtain ⟨o, ho, hB⟩ := hh.blk b _ rb κ hb hρ
      obtain ⟨cl, rest, rfl, hcl, hrest, hc⟩ := hB
      obtain ⟨l, h1, h2, h3⟩ := readK_sound he
      have hl' : ((cl.drop off).take n).length = n := by simp; omega
      refine ⟨l, (cl.drop off).take n, h1, ⟨by rw [h2, hl'], fun i v v' hi hi' => ?_⟩, hl', ?_⟩
      · have hlt : i < n := by have := (List.getElem?_eq_some_iff.1 hi).1; omega
        obtain ⟨lv, u, a1, a2, a3⟩ := hc (off + i) (by omega)
        rw [h3 i hlt, hi] at a1; cases a1
        rw [List.getElem?_take, if_pos hlt, List.getElem?_drop, a2] at hi'
        cases hi'; exact a3
      · refine row_of _ _ fun j v hj => ?_
        have hlt : j < n := by have := (List.getElem?_eq_some_iff.1 hj).1; omega
        rw [List.getElem?_take, if_pos hlt, List.getElem?_drop] at hj
        have hlt2 := (List.getElem?_eq_some_iff.1 hj).1
        simp [PHeap.cell, ho, List.getElem?_append_left hlt2, hj]
    · cases he
  · cases he

theorem packK_sound {agg : Bool} {l : List LV} {l' : List Value} {K : LV → Bool} (hl : LR ρ l l') (he : packK agg l K = true) : ∃ lv, K lv = true ∧ VR ρ lv (packV agg l') := by
  unfold packK at he
  split at he
  · exact ⟨_, he, .agg hl.1 hl.2⟩
  · split at he
    · obtain ⟨v', r, rfl, hv, hr⟩ := hl.cons_inv
      rw [hr.nil_inv]
      exact ⟨_, he, hv⟩
    · cases he

theorem oneV_one {lv : LV} {v : Value} (hv : VR ρ lv v) (h1 : oneV lv = true) : v.oneCell' = true := by
  cases hv <;> first | rfl | (simp [oneV] at h1)

theorem allOneV_one : ∀ {l : List LV} {l' : List Value}, LR ρ l l' → allOneV l = true → allOne l' = true
  | [], l', hl, _ => by rw [hl.nil_inv]; rfl
  | v :: l, l', hl, h1 => by
    obtain ⟨v', r, rfl, hv, hr⟩ := hl.cons_inv
    simp only [allOneV] at h1
    split at h1
    · rename_i h2; simp only [allOne, Bool.and_eq_true]; exact ⟨oneV_one hv h2, allOneV_one hr h1⟩
    · cases h1

/-- Cells written into a block. -/
theorem BR.write {κ t k n : Nat} {c c' : T LV} {o : Obj} (hB : BR ρ κ (.cells t k n c) o) {l : List LV} {l' : List Value} {off : Nat} (hl : LR ρ l l') (hle : off + l.length ≤ n)
    (hc : ∀ j, c'.get j = if off ≤ j ∧ j < off + l.length then l[j - off]? else c.get j) :
    ∃ cs, o = .cells ⟨cs⟩ t (0, 0) ∧ n ≤ cs.length ∧ BR ρ κ (.cells t k n c') (.cells ⟨splice cs off l'⟩ t (0, 0)) := by
  obtain ⟨cl, rest, rfl, hcl, hrest, hcc⟩ := hB
  refine ⟨cl ++ rest, rfl, by simp; omega, splice cl off l', rest, ?_, ?_, hrest, fun i hi => ?_⟩
  · congr 2
    unfold splice
    have h1 : off + l'.length ≤ cl.length := by rw [← hl.1]; omega
    rw [List.take_append_of_le_length (by omega), List.drop_append_of_le_length h1]
    simp
  · unfold splice; simp [← hl.1]; omega
  · have hsp : (splice cl off l')[i]? = if off ≤ i ∧ i < off + l.length then l'[i - off]? else cl[i]? := by
      unfold splice
      by_cases h1 : i < off
      · rw [if_neg (by omega), List.append_assoc, List.getElem?_append_left (by simp; omega), List.getElem?_take, if_pos h1]
      · by_cases h2 : i < off + l.length
        · rw [if_pos ⟨by omega, h2⟩, List.append_assoc, List.getElem?_append_right (by simp; omega), List.getElem?_append_left (by rw [← hl.1]; simp; omega)]
          congr 1; simp; omega
        · rw [if_neg (by omega), List.getElem?_append_right (by simp [← hl.1]; omega), List.getElem?_drop]
          congr 1; simp [← hl.1]; omega
    rw [hc, hsp]
    by_cases h1 : off ≤ i ∧ i < off + l.length
    · rw [if_pos h1, if_pos h1]
      have hlt : i - off < l.length := by omega
      have hg : l[i - off]? = some l[i - off] := List.getElem?_eq_getElem hlt
      obtain ⟨v', a1, a2⟩ := hl.get hg
      exact ⟨_, v', hg, a1, a2⟩
    · rw [if_neg h1, if_neg h1]; exact hcc i hi

/-- A block out of a list. -/
theorem BR.ofL {t k : Nat} {l : List LV} {l' rest : List Value} {κ : Nat} (hl : LR ρ l l') (hr : rest.length = κ * k) : BR ρ κ (.cells t k l.length (T.ofL l)) (.cells ⟨l' ++ rest⟩ t (0, 0)) := by
  refine ⟨l', rest, rfl, hl.1.symm, hr, fun i hi => ?_⟩
  have hg : l[i]? = some l[i] := List.getElem?_eq_getElem hi
  obtain ⟨v', a1, a2⟩ := hl.get hg
  exact ⟨_, v', by rw [T.ofL_get]; exact hg, a1, a2⟩

theorem packB_sound : ∀ {l : List LV} {l' : List Value} {m : Nat}, LR ρ l l' → packB l = some m → l' = (bytesOf l.length m).map byteV
  | [], l', m, hl, _ => by rw [hl.nil_inv]; rfl
  | v :: l, l', m, hl, he => by
    obtain ⟨v', r, rfl, hv, hr⟩ := hl.cons_inv
    unfold packB at he
    split at he
    · rename_i heq; cases heq
    · rename_i c l2 heq
      cases heq
      split at he
      · rename_i hlt
        have hlt := Nat.blt_eq.mp hlt
        split at he
        · rename_i n hn
          cases he
          have ih := packB_sound hr hn
          cases hv
          have e1 : Nat.add c (Nat.mul 256 n) % 256 = c := by show (c + 256 * n) % 256 = c; omega
          have e2 : Nat.add c (Nat.mul 256 n) / 256 = n := by show (c + 256 * n) / 256 = n; omega
          simp only [List.length_cons, bytesOf, List.map_cons, e1, e2, ← ih]
          congr 1
          simp only [byteV, UInt8.toNat_ofNat']
          congr 1
          have : c % 256 = c := Nat.mod_eq_of_lt hlt
          show (c : Int) = _
          simp [this]
        · cases he
      · cases he
    · cases he

theorem cellsB_LR : ∀ (k n : Nat), LR ρ (cellsB k n) (byteCells ⟨⟨bytesOf k n⟩⟩)
  | 0, n => LR.nil
  | k + 1, n => by
    have := cellsB_LR k (n / 256)
    refine LR.cons ?_ this
    have hm : n % 256 < 256 := Nat.mod_lt _ (by omega)
    have e : ((UInt8.ofNat (n % 256)).toNat : Int) = Int.ofNat (Nat.mod n 256) := by
      rw [UInt8.toNat_ofNat']; show ((n % 256 % 256 : Nat) : Int) = ((n % 256 : Nat) : Int); rw [Nat.mod_mod]
    show VR ρ _ (.int .u8 ((UInt8.ofNat (n % 256)).toNat : Int))
    rw [e]; exact .int _ _

theorem cellsB_len : ∀ (k n : Nat), (cellsB k n).length = k
  | 0, n => rfl
  | k + 1, n => by simp [cellsB, cellsB_len k]

theorem cellsB_one : ∀ (k n : Nat), allOneV (cellsB k n) = true
  | 0, n => rfl
  | k + 1, n => by simp [cellsB, allOneV, oneV, cellsB_one k]

/-! ### Raw operations -/

variable {P : Program} {f : Operand → Value}

theorem raw_makeMap {t ty : TypeId} {Q : Value → PHeap → Prop} (hq : ∀ b, h b = none → Q (.map (some b)) (h.put b (.map ⟨[]⟩ 0))) : Raw P (execOp f (mkO (.makeMap t none) ty)) h Q := by
  intro w hs
  refine ⟨.value (.map (some w.heap.size)), .map (some w.heap.size), w.alloc (.map ⟨[]⟩ 0), h.put w.heap.size (.map ⟨[]⟩ 0), ?_, .inl rfl, hq _ hs.fresh, hs.allocReal _, Keep.allocReal w h _⟩
  rfl

theorem beq_bytes (a b : List UInt8) : ((⟨⟨a⟩⟩ : ByteArray) == ⟨⟨b⟩⟩) = (a == b) := by
  show ((⟨a⟩ : Array UInt8) == ⟨b⟩) = (a == b)
  rw [Bool.eq_iff_iff, beq_iff_eq, beq_iff_eq]
  constructor
  · intro e; cases e; rfl
  · rintro rfl; rfl

theorem eqKey_sound {ks : Bool} {a b : LV} {va vb : Value} {r : Bool} {d : TypeDesc} (hd : (ks = true ∧ d = .string) ∨ (ks = false ∧ ∃ k, d = .int k)) (ha : VR ρ a va) (hb : VR ρ b vb) (he : eqKey ks a b = some r) :
    Instr.sameNow d va vb = some r := by
  rcases hd with ⟨rfl, rfl⟩ | ⟨rfl, k, rfl⟩
  · simp only [eqKey] at he
    split at he
    · rename_i k n
      split at he
      · rename_i j m
        cases ha; cases hb; cases he
        simp only [Instr.sameNow, beq_bytes, Option.some.injEq]
        symm
        rw [Bool.eq_iff_iff, Bool.and_eq_true, Nat.beq_eq, Nat.beq_eq, beq_iff_eq]
        constructor
        · rintro ⟨rfl, h4⟩
          have h4 : n % 2 ^ (8 * k) = m % 2 ^ (8 * k) := h4
          rw [← bytesOf_mod k n, ← bytesOf_mod k m, h4]
        · intro h4
          have h5 : k = j := by have := congrArg List.length h4; simpa [bytesOf_length] using this
          subst h5
          exact ⟨rfl, bytesOf_inj k n m h4⟩
      · cases he
    · cases he
  · simp only [eqKey] at he
    split at he
    · split at he
      · split at he
        · rename_i hk
          have := kNo_inj hk; subst this
          cases ha; cases hb; cases he
          simp [Instr.sameNow, eqI_eq]
        · cases he
      · cases he
    · cases he

theorem findE_sound {ks : Bool} {d : TypeDesc} (hd : (ks = true ∧ d = .string) ∨ (ks = false ∧ ∃ k, d = .int k)) {k : LV} {vk : Value} (hk : VR ρ k vk) :
    ∀ {es : List (LV × LV × Nat)} {es' : List MapEntry} {i : Nat} {r : Option (Nat × LV)}, ER ρ es es' → findE ks k es i = some r →
      (r = none ∧ Instr.findNow d vk es' i = some none) ∨ ∃ j lv v e e', r = some (i + j, lv) ∧ VR ρ lv v ∧ Instr.findNow d vk es' i = some (some (i + j, v)) ∧ es[j]? = some e ∧ es'[j]? = some e' ∧ eqKey ks k e.1 = some true
  | [], es', i, r, he, hf => by
    cases hf
    have : es' = [] := List.eq_nil_of_length_eq_zero (by simpa using he.1.symm)
    subst this
    exact .inl ⟨rfl, rfl⟩
  | (key, v, c) :: es, es', i, r, he, hf => by
    cases es' with
    | nil => simpa using he.1
    | cons e' es' =>
      obtain ⟨h1, h2, h3⟩ := he.2 0 _ _ rfl rfl
      have het : ER ρ es es' := ⟨by simpa using he.1, fun i a b ha hb => he.2 (i + 1) a b (by simpa using ha) (by simpa using hb)⟩
      simp only [findE] at hf
      split at hf
      · rename_i heq
        cases hf
        have := eqKey_sound hd hk h1 heq
        exact .inr ⟨0, v, e'.val, _, _, rfl, h2, by simp [Instr.findNow, this], rfl, rfl, heq⟩
      · rename_i heq
        have := eqKey_sound hd hk h1 heq
        rcases findE_sound hd hk het hf with ⟨rfl, h4⟩ | ⟨j, lv, v2, e, e2, rfl, h5, h6, h7, h8, h9⟩
        · exact .inl ⟨rfl, by simp [Instr.findNow, this, h4]⟩
        · refine .inr ⟨j + 1, lv, v2, e, e2, by rw [show Nat.succ i + j = i + (j + 1) by omega], h5, ?_, by simpa using h7, by simpa using h8, h9⟩
          have h6' : Instr.findNow d vk es' (i + 1) = some (some (i + (j + 1), v2)) := by rw [h6]; congr 3; omega
          simp [Instr.findNow, this, h6']
      · cases hf

theorem keyCls_sound {t : TypeId} {ks : Bool} (hk : keyCls P t = some ks) : ∃ d, P.underlying t = some d ∧ ((ks = true ∧ d = .string) ∨ (ks = false ∧ ∃ k, d = .int k)) := by
  unfold keyCls at hk
  split at hk
  · rename_i hu; cases hk; exact ⟨_, hu, .inl ⟨rfl, rfl⟩⟩
  · rename_i k hu; cases hk; exact ⟨_, hu, .inr ⟨rfl, k, rfl⟩⟩
  · cases hk

theorem checkKey_run {t : TypeId} {ks : Bool} (hk : keyCls P t = some ks) (e : Bool) (v : Value) (w : World) : (Instr.checkKey e 10000 t v).run P w = .ok () w := by
  obtain ⟨d, hu, hd⟩ := keyCls_sound hk
  have : Instr.checkKey e 10000 t v = Instr.checkKey e (9999 + 1) t v := rfl
  rw [this, Instr.checkKey]
  rcases hd with ⟨_, rfl⟩ | ⟨_, k, rfl⟩ <;> simp [run_underlying hu]

theorem raw_lookup {t key elem ty : TypeId} {ok : Bool} {m k : Operand} {ks : Bool} {r clock : Nat} {es : List MapEntry} {vk z : Value} {res : Option (Nat × Value)} {Q : Value → PHeap → Prop}
    (hu : P.underlying t = some (.map key elem)) (hks : keyCls P key = some ks) (hz : zeroT P elem = some z) (hm : f m = .map (some r)) (hk : f k = vk) (hr : h r = some (.map ⟨es⟩ clock))
    (hf : ∀ d, P.underlying key = some d → Instr.findNow d vk es 0 = some res)
    (hq : Q (if ok then .tuple ⟨[match res with | some (_, v) => v | none => z, .bool (match res with | some _ => true | none => false)]⟩ else (match res with | some (_, v) => v | none => z)) h) :
    Raw P (execOp f (mkO (.lookup t m k ok) ty)) h Q := by
  intro w hs
  have hw := hs _ _ hr
  obtain ⟨d, hud, _⟩ := keyCls_sound hks
  have hfn := hf d hud
  have hgo : (getObj r).run P w = .ok (.map ⟨es⟩ clock) w := by simp [getObj, Sem.run, hw]
  have hzr : (zeroValue elem).run P w = .ok z w := by
    unfold zeroT at hz
    cases hi : P.info? elem with
    | none => rw [hi] at hz; cases hz
    | some i => rw [hi] at hz; simp at hz; simp [zeroValue, typeInfo, program, Sem.run, hi, hz]
  refine ⟨_, _, w, h, ?_, .inl rfl, hq, hs, Keep.refl w h⟩
  cases res with
  | none => cases ok <;> simp [execOp, mkO, Instr.lookup, run_underlying hu, hm, hk, hgo, checkKey_run hks, Instr.findKey, run_underlying hud, hfn, hzr]
  | some p => obtain ⟨i, v⟩ := p; cases ok <;> simp [execOp, mkO, Instr.lookup, run_underlying hu, hm, hk, hgo, checkKey_run hks, Instr.findKey, run_underlying hud, hfn]

theorem setObj_keep {w : World} {r : Nat} {o o2 : Obj} (hs : Sub w h) (hr : h r = some o) : Sub { w with heap := w.heap.setIfInBounds r o2 } (h.put r o2) ∧ Keep w h { w with heap := w.heap.setIfInBounds r o2 } (h.put r o2) := by
  have hw := hs _ _ hr
  have hlt := (Array.getElem?_eq_some_iff.1 hw).1
  refine ⟨fun k o' hk => ?_, rfl, rfl, rfl, by simp, fun k hk hn => ?_⟩
  · simp only [PHeap.put] at hk
    split at hk
    · rename_i e; subst e; cases hk; simp [hlt]
    · rename_i e
      show (w.heap.setIfInBounds r o2)[k]? = _
      rw [Array.getElem?_setIfInBounds_ne (Ne.symm e)]; exact hs _ _ hk
  · have : k ≠ r := fun e => by subst e; rw [hr] at hn; cases hn
    refine ⟨by simp only [PHeap.put]; rw [if_neg this]; exact hn, ?_⟩
    show (w.heap.setIfInBounds r o2)[k]? = _
    rw [Array.getElem?_setIfInBounds_ne (Ne.symm this)]

theorem sameBits_plain {ks : Bool} {a b : LV} {va vb : Value} (ha : VR ρ a va) (hb : VR ρ b vb) (he : eqKey ks a b = some true) : Instr.sameBits 10000 vb va = true := by
  cases ks
  · simp only [eqKey] at he
    split at he
    · split at he
      · split at he
        · rename_i hk
          have := kNo_inj hk; subst this
          cases ha; cases hb
          rw [eqI_eq] at he
          simp at he
          subst he
          simp [Instr.sameBits]
        · cases he
      · cases he
    · cases he
  · have := eqKey_sound (d := .string) (.inl ⟨rfl, rfl⟩) ha hb he
    simp only [eqKey] at he
    split at he
    · split at he
      · cases ha; cases hb
        simp only [Instr.sameNow, Option.some.injEq, beq_bytes, beq_iff_eq] at this
        rw [this]
        simp [Instr.sameBits, beq_bytes]
      · cases he
    · cases he

theorem upd_run {t key elem : TypeId} {ks : Bool} {r clock : Nat} {es : List MapEntry} {vk vv : Value} {res : Option (Nat × Value)} {w : World}
    (hu : P.underlying t = some (.map key elem)) (hks : keyCls P key = some ks) (hw : w.heap[r]? = some (.map ⟨es⟩ clock)) (hf : ∀ d, P.underlying key = some d → Instr.findNow d vk es 0 = some res)
    (hst : ∀ i v, res = some (i, v) → ∃ e, es[i]? = some e ∧ Instr.sameBits 10000 e.key vk = true) :
    (Instr.mapUpdate t (.map (some r)) vk vv).run P w = .ok () { w with heap := w.heap.setIfInBounds r (match res with
      | some (i, _) => .map ⟨es.modify i fun e => { e with key := vk, val := vv }⟩ clock
      | none => .map ⟨es ++ [{ key := vk, val := vv, born := clock }]⟩ (clock + 1)) } := by
  obtain ⟨d, hud, _⟩ := keyCls_sound hks
  have hfn := hf d hud
  have hgo : (getObj r).run P w = .ok (.map ⟨es⟩ clock) w := by simp [getObj, Sem.run, hw]
  have hso : ∀ o, (setObj r o).run P w = .ok () { w with heap := w.heap.setIfInBounds r o } := fun o => by simp [setObj, Sem.run, hw]
  cases res with
  | none => simp [Instr.mapUpdate, run_underlying hu, hgo, checkKey_run hks, Instr.findKey, run_underlying hud, hfn, hso]
  | some p =>
    obtain ⟨i, v⟩ := p
    obtain ⟨e, he, hsb⟩ := hst i v rfl
    simp [Instr.mapUpdate, run_underlying hu, hgo, checkKey_run hks, Instr.findKey, run_underlying hud, hfn, he, Instr.keyThatStays, hsb, hso]
end
end Go.Ev
/- Appends. -/
namespace Go.Ev
open Go Go.Den
section
variable {P : Program} {h : PHeap} {f : Operand → Value}

theorem exec_append {x y : Operand} {t t2 ty : TypeId} {vx vy : Value} (hx : f x = vx) (hy : f y = vy) (w : World) :
    (execOp f (mkO (.call ⟨.builtin .append, ⟨[x, y]⟩, ⟨[t, t2]⟩⟩) ty)).run P w = ((Builtin.append_ #[t, t2] ty #[vx, vy]).run P w).andThen fun v w' => .ok (.value v) w' := by
  simp [execOp, mkO, resolve, hx, hy, invoke, builtin]

theorem raw_append_in {x y : Operand} {t t2 ty e te : TypeId} {i : TypeInfo} {n m cap b o : Nat} {vy : Value} {ys cs : List Value} {Q : Value → PHeap → Prop}
    (hu : P.underlying t = some (.slice e)) (hi : P.info? e = some i) (hx : f x = .slice (some ⟨b, o, none⟩) n cap) (hy : f y = vy) (hb : h b = some (.cells ⟨cs⟩ te (0, 0)))
    (hsrc : SrcH P h i.size t2 vy m ys) (hfit : n + m ≤ cap) (hlen : o + (n + m) * i.size ≤ cs.length)
    (hq : Q (.slice (some ⟨b, o, none⟩) (n + m) cap) (h.put b (.cells ⟨splice cs (o + n * i.size) ys⟩ te (0, 0)))) :
    Raw P (execOp f (mkO (.call ⟨.builtin .append, ⟨[x, y]⟩, ⟨[t, t2]⟩⟩) ty)) h Q := by
  intro w hs
  have hsr := hsrc w hs
  have hst := Go.run_storeCells_atF P b (o + n * i.size) te (0, 0) ys 0 ⟨cs⟩ w (hs _ _ hb) (Nat.zero_le _)
    (by
      have h2 := hsr.newsLen
      simp only [Nat.add_zero, List.size_toArray, h2]
      rw [Nat.add_assoc, ← Nat.add_mul]; exact hlen) hsr.one
  have hrun : (Builtin.append_ #[t, t2] ty #[.slice (some ⟨b, o, none⟩) n cap, vy]).run P w = .ok (.slice (some ⟨b, o, none⟩) (n + m) cap) (w.setRow b ⟨splice cs (o + n * i.size) ys⟩) := by
    have hst' : (storeCells ⟨b, o + n * i.size, none⟩ ys).run P w = .ok () (w.setRow b ⟨splice cs (o + n * i.size) ys⟩) := by
      rw [hst]; simp [splice]
    rcases hsr.kind with ⟨e', hk⟩ | hk <;> simp [Builtin.append_, run_underlying hu, run_underlying hk, sizeOf, typeInfo, hi, hsr.len, hfit, hsr.cells, addNone, hst']
  rw [exec_append hx hy, hrun]
  refine ⟨_, _, _, h.put b (.cells ⟨splice cs (o + n * i.size) ys⟩ te (0, 0)), rfl, .inl rfl, hq, ?_, ?_⟩
  · intro k o' hk
    simp only [PHeap.put] at hk
    split at hk
    · rename_i e1; subst e1; cases hk
      exact setRow_heap _ _ _ _ _ _ (hs _ _ hb)
    · rename_i e1
      rw [setRow_other _ _ _ _ e1]; exact hs _ _ hk
  · refine ⟨rfl, rfl, rfl, by rw [size_setRow]; exact Nat.le_refl _, fun k hk hn => ?_⟩
    have : k ≠ b := fun e => by subst e; rw [hb] at hn; cases hn
    exact ⟨by simp only [PHeap.put]; rw [if_neg this]; exact hn, setRow_other _ _ _ _ this⟩

theorem raw_append_grow {x y : Operand} {t t2 ty e : TypeId} {i : TypeInfo} {z : Value} {n m cap b o : Nat} {vy : Value} {xs ys : List Value} {Q : Value → PHeap → Prop}
    (hu : P.underlying t = some (.slice e)) (hi : P.info? e = some i) (hz : i.zero = some z) (hzc : z.cells.size = i.size) (hx : f x = .slice (some ⟨b, o, none⟩) n cap) (hy : f y = vy)
    (hrow : h.row b o xs) (hl : xs.length = n * i.size) (hsrc : SrcH P h i.size t2 vy m ys) (hlt : cap < n + m) (hbig : (16 * (n + m) + 16384) * i.bytes ≤ 281474976710656) (h63 : n + m ≤ 1000000000)
    (hq : ∀ b2 cap2 rest, h b2 = none → n + m ≤ cap2 → rest.length = (cap2 - (n + m)) * i.size → Q (.slice (some ⟨b2, 0, none⟩) (n + m) cap2) (h.put b2 (.cells ⟨xs ++ ys ++ rest⟩ e (0, 0)))) :
    Raw P (execOp f (mkO (.call ⟨.builtin .append, ⟨[x, y]⟩, ⟨[t, t2]⟩⟩) ty)) h Q := by
  intro w hs
  have hsr := hsrc w hs
  have hs' : Sub w.drew h := hs
  have hold : (Builtin.firstCells i.size n (.slice (some ⟨b, o, none⟩) n cap)).run P w.drew = .ok xs.toArray w.drew := by
    show (loadCells ⟨b, o, none⟩ (n * i.size)).run P w.drew = _
    rw [← hl]
    exact run_loadCells_list w.drew _ xs fun j v hj => hs'.row hrow j v hj
  have hnc := nextcap_le hlt
  have hle : Builtin.nextslicecap (n + m) cap * i.bytes ≤ 281474976710656 := Nat.le_trans (Nat.mul_le_mul_right _ hnc) hbig
  have hrun := run_append_grow_src w t t2 ty e i z hu hi hz (some ⟨b, o, none⟩) n cap xs hold vy m ys hsr hlt (by omega) hle
  have hcap : n + m ≤ grownCap w (n + m) cap e := by
    unfold grownCap; simp only [Question.cut]; omega
  rw [exec_append hx hy, hrun]
  have hobj : (Obj.cells ((xs ++ ys).toArray ++ Builtin.zeroCells z.cells (grownCap w (n + m) cap e - (n + m))) e) =
      .cells ⟨xs ++ ys ++ (Builtin.zeroCells z.cells (grownCap w (n + m) cap e - (n + m))).toList⟩ e (0, 0) := by
    congr 1
    apply Array.ext'; simp
  rw [hobj]
  refine ⟨_, _, _, h.put w.heap.size _, rfl, .inl rfl, hq _ _ _ hs.fresh hcap ?_, hs'.allocReal _, ?_⟩
  · simp [Builtin.zeroCells, hzc]
  · have := Keep.allocReal w.drew h (.cells ⟨xs ++ ys ++ (Builtin.zeroCells z.cells (grownCap w (n + m) cap e - (n + m))).toList⟩ e (0, 0))
    exact ⟨this.os, this.tape, this.output, this.size, this.out⟩

theorem raw_append0 {x y : Operand} {t t2 ty e : TypeId} {i : TypeInfo} {n cap : Nat} {a : Option Addr} {vy : Value} {ys : List Value} {Q : Value → PHeap → Prop}
    (hu : P.underlying t = some (.slice e)) (hi : P.info? e = some i) (hx : f x = .slice a n cap) (hy : f y = vy) (hsrc : SrcH P h i.size t2 vy 0 ys) (hfit : n ≤ cap) (hq : Q (.slice a n cap) h) :
    Raw P (execOp f (mkO (.call ⟨.builtin .append, ⟨[x, y]⟩, ⟨[t, t2]⟩⟩) ty)) h Q := by
  intro w hs
  have hsr := hsrc w hs
  have hys : ys = [] := List.eq_nil_of_length_eq_zero (by simpa using hsr.newsLen)
  subst hys
  have hrun : (Builtin.append_ #[t, t2] ty #[.slice a n cap, vy]).run P w = .ok (.slice a n cap) w := by
    cases a <;> rcases hsr.kind with ⟨e', hk⟩ | hk <;> simp [Builtin.append_, run_underlying hu, run_underlying hk, sizeOf, typeInfo, hi, hsr.len, hfit, hsr.cells, storeCells]
  rw [exec_append hx hy, hrun]
  exact ⟨_, _, w, h, rfl, .inl rfl, hq, hs, Keep.refl w h⟩
end
end Go.Ev
/- The operations with effects. -/
namespace Go.Ev
open Go Go.Den

def Cont (G : Nat) (ρ : Rho) (nx : Nat) (s : St) (K : LV → T Blk → Nat → Bool) (K' : SV → St → PHeap → Prop) : Prop :=
  ∀ lv v H' nx' ρ' h', nx ≤ nx' → Agr nx ρ ρ' → HR G ρ' H' nx' h' → VR ρ' lv v → K lv H' nx' = true → K' (.val v) s h'

def CallOk (P : Program) (G : Nat) (call : CallE) : Prop :=
  ∀ (f : Nat) (args : List LV) (args' : List Value) (H : T Blk) (nx : Nat) (h : PHeap) (ρ : Rho) (K : LV → T Blk → Nat → Bool) (Q : Value → PHeap → Prop), LR ρ args args' → HR G ρ H nx h → call f args H nx K = true →
    (∀ lv v H' nx' ρ' h', nx ≤ nx' → Agr nx ρ ρ' → HR G ρ' H' nx' h' → VR ρ' lv v → K lv H' nx' = true → Q v h') → Tri P f args' h Q

section
variable {P : Program} {G : Nat} {ρ : Rho} {R : T LV} {s : St} {H : T Blk} {nx : Nat} {h : PHeap} {call : CallE} {K : LV → T Blk → Nat → Bool} {K' : SV → St → PHeap → Prop}

theorem srcK_sound (hh : HR G ρ H nx h) {ss : Bool} {k : Nat} {lv : LV} {v : Value} {t2 : TypeId} {K : Nat → List LV → Bool} (hs : srcCls P t2 = some ss) (hv : VR ρ lv v) (he : srcK ss k H lv K = true) :
    ∃ m ys ys', K m ys = true ∧ LR ρ ys ys' ∧ ys.length = m * k ∧ SrcH P h k t2 v m ys' := by
  unfold srcCls at hs
  unfold srcK at he
  split at he
  · have hu : ∃ e, P.underlying t2 = some (.slice e) := by
      split at hs
      · cases hs
      · rename_i e hu; exact ⟨e, hu⟩
      · cases hs
    obtain ⟨e, hu⟩ := hu
    split at he
    · rename_i b o n c g
      cases hv with
      | slice hb =>
        obtain ⟨l, l', h1, h2, h3, h4⟩ := rowK_sound hh hb he
        split at h1
        · rename_i h5
          exact ⟨n, l, l', h1, h2, by rw [h2.1]; exact h3, SrcH.row hu h3 h4 (allOneV_one h2 h5)⟩
        · cases h1
    · cases hv
      exact ⟨0, [], [], he, LR.nil, by simp, SrcH.nil hu⟩
    · cases he
  · have hu : P.underlying t2 = some .string := by
      split at hs
      · rename_i hu; exact hu
      · cases hs
      · cases hs
    split at he
    · rename_i len n
      split at he
      · rename_i hk
        have hk := Nat.eq_of_beq_eq_true hk
        subst hk
        cases hv
        refine ⟨len, _, _, he, cellsB_LR len n, by rw [cellsB_len, Nat.mul_one], ?_⟩
        have := SrcH.string (h := h) hu (⟨⟨bytesOf len n⟩⟩ : ByteArray)
        have e : (⟨⟨bytesOf len n⟩⟩ : ByteArray).size = len := by
          show (bytesOf len n).length = len
          exact bytesOf_length len n
        rw [e] at this
        exact this
      · cases he
    · cases he

theorem append_sound (hr : RR ρ R s) (hh : HR G ρ H nx h) {x y : Operand} {t t2 ty : TypeId} {xop : XOp} (hc : cApp P G x y t t2 = some (.x xop)) (he : evX call xop R H nx K = true) (hk : Cont G ρ nx s K K') :
    denOp P (.raw (.call ⟨.builtin .append, ⟨[x, y]⟩, ⟨[t, t2]⟩⟩) ty) s h K' := by
  unfold cApp at hc
  split at hc
  · rename_i e hu
    split at hc
    · rename_i i hi
      split at hc
      · rename_i z hz
        split at hc
        · rename_i ss ex ey hsz hss hx hy
          cases hc
          rw [Bool.and_eq_true] at hsz
          have hzc : z.cells.size = i.size := by rw [← Array.length_toList]; exact Nat.eq_of_beq_eq_true hsz.1
          have hpos : 0 < i.size := Nat.blt_eq.mp hsz.2
          simp only [evX] at he
          split at he
          · rename_i lx hlx
            split at he
            · rename_i ly hly
              obtain ⟨vx, hvx, rx⟩ := cX_ev hr hh.glob hx hlx
              obtain ⟨vy, hvy, ry⟩ := cX_ev hr hh.glob hy hly
              have hall : allVal s (Op.call ⟨.builtin .append, ⟨[x, y]⟩, ⟨[t, t2]⟩⟩).operands.toList = true := by simp [Op.operands, Call.operands, allVal, hvx, hvy]
              have ex : s.vv x = vx := by simp [St.vv, hvx]
              have ey : s.vv y = vy := by simp [St.vv, hvy]
              simp only [denOp, hall]
              unfold appendK at he
              obtain ⟨m, ys, ys', h1, h2, h3, h4⟩ := srcK_sound hh hss ry he
              cases m with
              | zero =>
                simp only at h1
                split at h1
                · cases rx
                  exact raw_append0 hu hi ex ey h4 (Nat.le_refl 0) (hk _ _ H nx ρ h (Nat.le_refl _) (Agr.refl _ _) hh .nils h1)
                · rename_i b o n c g
                  split at h1
                  · rename_i hle
                    have hle := Nat.le_of_ble_eq_true hle
                    cases rx with
                    | slice hb => exact raw_append0 hu hi ex ey h4 (by cases g <;> simp <;> omega) (hk _ _ H nx ρ h (Nat.le_refl _) (Agr.refl _ _) hh (.slice hb) h1)
                  · cases h1
                · cases h1
              | succ m =>
                simp only at h1
                split at h1
                · cases rx
                  split at h1
                  · rename_i hroom
                    rw [T.ofLK_eq] at h1
                    obtain ⟨H', h5, h6⟩ := newK_sound h1
                    unfold roomB at hroom
                    rw [Bool.and_eq_true, Nat.ble_eq, Nat.ble_eq] at hroom
                    have hroom1 : (16 * (m + 1) + 16384) * i.bytes ≤ 281474976710656 := hroom.1
                    have hroom2 : m + 1 ≤ 1000000000 := hroom.2
                    have ho : Own h e i.size (.slice none 0 0) 0 [] := ⟨by simp, .inl ⟨rfl, rfl⟩⟩
                    intro w hs
                    obtain ⟨nn, v, w', h', r1, r2, ⟨b2, cap, rest, rfl, rfl, r3, r4, r5⟩, r6, r7⟩ := raw_append (P := P) (ty := ty) (c := ⟨.builtin .append, ⟨[x, y]⟩, ⟨[t, t2]⟩⟩) rfl rfl rfl hu hi hz ex ey ho h4 hzc (Nat.succ_pos m) (by simpa using hroom1) (by simpa using hroom2) w hs
                    refine ⟨nn, _, w', _, r1, r2, ?_, r6, r7⟩
                    have hb2 : h b2 = none := by
                      rcases r5 with r5 | ⟨c, r5⟩
                      · exact r5
                      · cases r5
                    simp only [Nat.zero_add, List.nil_append] at *
                    have hBR : BR (ext ρ nx b2 (cap - (m + 1))) (cap - (m + 1)) (.cells e i.size (lenL ys) (T.ofL ys)) (.cells ⟨ys' ++ rest⟩ e (0, 0)) := by
                      rw [lenL_eq]
                      exact BR.ofL (h2.mono (hh.le (ext_agr ρ nx b2 _))) r3
                    have hHR := hh.new (hh.noB hb2) hBR h6
                    refine hk _ _ H' (nx + 1) _ _ (Nat.le_succ _) (ext_agr ρ nx b2 _) hHR ?_ h5
                    have e2 : (bif true then Nat.succ m + (cap - (m + 1)) else Nat.succ m) = cap := by simp; omega
                    have hv := VR.slice (ρ := ext ρ nx b2 (cap - (m + 1))) (b := nx) (o := 0) (len := Nat.succ m) (cap := Nat.succ m) (rb := b2) (κ := cap - (m + 1)) (g := true) (by simp only [ext, if_pos])
                    rw [e2] at hv; exact hv
                  · cases h1
                · rename_i b o n c g
                  cases rx with
                  | slice hb =>
                  rename_i rb κ
                  rw [natK_eq] at h1
                  have hcc : c ≤ (bif g then c + κ else c) := by cases g <;> simp
                  split at h1
                  · rename_i hfit
                    have hfit : n + (m + 1) ≤ c := Nat.le_of_ble_eq_true hfit
                    split at h1
                    · rename_i t' k' N cs hH
                      split at h1
                      · rename_i hN
                        have hN : o + (n + (m + 1)) * i.size ≤ N := Nat.le_of_ble_eq_true hN
                        obtain ⟨c1, h5, h6⟩ := writeK_sound h1
                        obtain ⟨H', h7, h8⟩ := T.putK_sound h5
                        obtain ⟨ob, ho, hB⟩ := hh.blk b _ rb κ hH hb
                        have e3 : o + n * i.size + ys.length ≤ N := by rw [h3, Nat.add_assoc, ← Nat.add_mul]; exact hN
                        obtain ⟨cl, rfl, hlen, hB2⟩ := BR.write hB h2 e3 h6
                        refine raw_append_in hu hi ex ey ho h4 (Nat.le_trans hfit hcc) (Nat.le_trans hN hlen) ?_
                        have hHR := hh.set hH hb hB2 h8
                        exact hk _ _ H' nx ρ _ (Nat.le_refl _) (Agr.refl _ _) hHR (.slice hb) h7
                      · cases h1
                    · cases h1
                  · rename_i hfit
                    have hfit : ¬ (n + (m + 1) ≤ c) := fun e => by
                      have : Nat.ble (n + (m + 1)) c = true := by rw [Nat.ble_eq]; exact e
                      have hfit' : Nat.ble (n + (m + 1)) c = false := hfit
                      rw [this] at hfit'; cases hfit'
                    split at h1
                    · cases h1
                    · rename_i hroom
                      unfold roomB at hroom
                      rw [Bool.and_eq_true, Nat.ble_eq, Nat.ble_eq] at hroom
                      have hroom1 : (16 * (n + (m + 1)) + 16384) * i.bytes ≤ 281474976710656 := hroom.1
                      have hroom2 : n + (m + 1) ≤ 1000000000 := hroom.2
                      split at h1
                      · obtain ⟨xs, xs', g1, g2, g3, g4⟩ := rowK_sound hh hb h1
                        rw [T.ofLK_eq, appL_eq] at g1
                        obtain ⟨H', h5, h6⟩ := newK_sound g1
                        refine raw_append_grow hu hi hz hzc ex ey g4 (by rw [g3]; rfl) h4 (show c < n + (m + 1) by omega) hroom1 hroom2 fun b2 cap2 rest r1 r2 r3 => ?_
                        have hBR : BR (ext ρ nx b2 (cap2 - (n + (m + 1)))) (cap2 - (n + (m + 1))) (.cells e i.size (Nat.mul (Nat.add n (Nat.succ m)) i.size) (T.ofL (xs ++ ys))) (.cells ⟨xs' ++ ys' ++ rest⟩ e (0, 0)) := by
                          have hl : (xs ++ ys).length = Nat.mul (Nat.add n (Nat.succ m)) i.size := by
                            rw [List.length_append, g2.1, g3, h3]
                            exact (Nat.add_mul n (m + 1) i.size).symm
                          rw [← hl]
                          exact BR.ofL ((g2.append h2).mono (hh.le (ext_agr ρ nx b2 _))) r3
                        have hHR := hh.new (hh.noB r1) hBR h6
                        refine hk _ _ H' (nx + 1) _ _ (Nat.le_succ _) (ext_agr ρ nx b2 _) hHR ?_ h5
                        have e2 : (bif true then Nat.add n (Nat.succ m) + (cap2 - (n + (m + 1))) else Nat.add n (Nat.succ m)) = cap2 := by
                          show n + (m + 1) + (cap2 - (n + (m + 1))) = cap2; omega
                        have hv := VR.slice (ρ := ext ρ nx b2 (cap2 - (n + (m + 1)))) (b := nx) (o := 0) (len := Nat.add n (Nat.succ m)) (cap := Nat.add n (Nat.succ m)) (rb := b2) (κ := cap2 - (n + (m + 1))) (g := true) (by simp only [ext, if_pos])
                        rw [e2] at hv; exact hv
                      · split at h1
                        · split at h1
                          · rename_i t' k' N cs hH
                            split at h1
                            · rename_i hchk
                              rw [Bool.and_eq_true, Bool.and_eq_true] at hchk
                              have et := Nat.eq_of_beq_eq_true hchk.1.1
                              have ek := Nat.eq_of_beq_eq_true hchk.1.2
                              have eN : N = c * i.size := Nat.eq_of_beq_eq_true hchk.2
                              subst et; subst ek
                              split at h1
                              · rename_i hnc
                                have hnc := Nat.eq_of_beq_eq_true hnc
                                subst hnc
                                obtain ⟨c1, h5, h6⟩ := writeK_sound h1
                                obtain ⟨H1, h7, h8⟩ := T.putK_sound h5
                                obtain ⟨H', h9, h10⟩ := newK_sound h7
                                obtain ⟨ob, ho, hB⟩ := hh.blk b _ rb κ hH hb
                                obtain ⟨cl, rest0, rfl, hcl, hrest, hcc2⟩ := hB
                                have hown : Own h t' i.size (.slice (some ⟨rb, 0, none⟩) n (bif true then n + κ else n)) n cl := by
                                  refine ⟨by rw [hcl, eN], .inr ⟨rb, n + κ, rest0, rfl, ho, ?_, by omega⟩⟩
                                  rw [hrest]; congr 1; omega
                                intro w hs
                                obtain ⟨nn, v, w', h', r1, r2, ⟨b2, cap, rest, rfl, rfl, r3, r4, r5⟩, r6, r7⟩ := raw_append (P := P) (ty := ty) (c := ⟨.builtin .append, ⟨[x, y]⟩, ⟨[t, t2]⟩⟩) rfl rfl rfl hu hi hz ex ey hown h4 hzc (Nat.succ_pos m) hroom1 hroom2 w hs
                                refine ⟨nn, _, w', _, r1, r2, ?_, r6, r7⟩
                                have hk1 := hh.kill h8
                                have hno : ∀ b' B κ', H1.get b' = some B → ρ b' = some (b2, κ') → False := by
                                  intro b' B κ' q1 q2
                                  rcases r5 with r5 | ⟨c5, r5⟩
                                  · exact hk1.noB r5 b' B κ' q1 q2
                                  · cases r5
                                    rw [h8] at q1
                                    by_cases e5 : b' = b
                                    · rw [if_pos e5] at q1; cases q1
                                    · rw [if_neg e5] at q1
                                      exact e5 (hh.inj b' b _ _ _ _ _ q1 hH q2 hb)
                                have hBR : BR (ext ρ nx b2 (cap - (n + (m + 1)))) (cap - (n + (m + 1))) (.cells t' i.size (Nat.mul (Nat.add n (Nat.succ m)) i.size) c1) (.cells ⟨cl ++ ys' ++ rest⟩ t' (0, 0)) := by
                                  have hle2 := hh.le (ext_agr ρ nx b2 (cap - (n + (m + 1))))
                                  refine ⟨cl ++ ys', rest, rfl, ?_, r3, fun j hj => ?_⟩
                                  · rw [List.length_append, hcl, eN, ← h2.1, h3]
                                    exact (Nat.add_mul n (m + 1) i.size).symm
                                  · have hj : j < (n + (m + 1)) * i.size := hj
                                    rw [Nat.add_mul, ← eN, ← h3] at hj
                                    rw [h6]
                                    by_cases hjN : j < N
                                    · rw [if_neg (by omega)]
                                      obtain ⟨lv, v, a1, a2, a3⟩ := hcc2 j hjN
                                      exact ⟨lv, v, a1, by rw [List.getElem?_append_left (by omega)]; exact a2, a3.mono hle2⟩
                                    · rw [if_pos (by omega)]
                                      have hlt : j - N < ys.length := by omega
                                      have hg : ys[j - N]? = some ys[j - N] := List.getElem?_eq_getElem hlt
                                      obtain ⟨v', a1, a2⟩ := h2.get hg
                                      exact ⟨_, v', hg, by rw [List.getElem?_append_right (by omega), hcl]; exact a1, a2.mono hle2⟩
                                have hHR := hk1.new hno hBR h10
                                refine hk _ _ H' (nx + 1) _ _ (Nat.le_succ _) (ext_agr ρ nx b2 _) hHR ?_ h9
                                have e2 : (bif true then Nat.add n (Nat.succ m) + (cap - (n + (m + 1))) else Nat.add n (Nat.succ m)) = cap := by
                                  show n + (m + 1) + (cap - (n + (m + 1))) = cap; omega
                                have hv := VR.slice (ρ := ext ρ nx b2 (cap - (n + (m + 1)))) (b := nx) (o := 0) (len := Nat.add n (Nat.succ m)) (cap := Nat.add n (Nat.succ m)) (rb := b2) (κ := cap - (n + (m + 1))) (g := true) (by simp only [ext, if_pos])
                                rw [e2] at hv; exact hv
                              · cases h1
                            · cases h1
                          · cases h1
                        · cases h1
                · cases h1
            · cases he
          · cases he
        · cases hc
      · cases hc
    · cases hc
  · cases hc
end
end Go.Ev
/- The operations with effects, all together. -/
namespace Go.Ev
open Go Go.Den
section
variable {P : Program} {G : Nat} {ρ : Rho} {R : T LV} {s : St} {H : T Blk} {nx : Nat} {h : PHeap} {call : CallE} {K : LV → T Blk → Nat → Bool} {K' : SV → St → PHeap → Prop}

theorem VR.unit : VR ρ (.tup []) undef := .tup rfl fun i v v' h => by simp at h

theorem setE_sound {k v : LV} : ∀ {es : List (LV × LV × Nat)} {i : Nat} {K : List (LV × LV × Nat) → Bool}, setE k v es i K = true → K (es.modify i fun e => (k, v, e.2.2)) = true
  | [], 0, K, he => by simp [setE] at he
  | [], i + 1, K, he => by simp [setE] at he
  | (a, b, c) :: es, 0, K, he => by simpa [setE, List.modify] using he
  | e :: es, i + 1, K, he => by
    have he' : setE k v es i (fun es => K (e :: es)) = true := by obtain ⟨a, b, c⟩ := e; exact he
    have := setE_sound he'
    simpa using this

theorem pushE_sound {e : LV × LV × Nat} : ∀ {es : List (LV × LV × Nat)} {K : List (LV × LV × Nat) → Bool}, pushE e es K = true → K (es ++ [e]) = true
  | [], K, he => he
  | x :: es, K, he => by have := pushE_sound (es := es) he; simpa using this

theorem ER.modify {es : List (LV × LV × Nat)} {es' : List MapEntry} {i : Nat} {k v : LV} {vk vv : Value} (he : ER ρ es es') (hk : VR ρ k vk) (hv : VR ρ v vv) :
    ER ρ (es.modify i fun e => (k, v, e.2.2)) (es'.modify i fun e => { e with key := vk, val := vv }) := by
  refine ⟨by simp [he.1], fun j e e' h1 h2 => ?_⟩
  rw [List.getElem?_modify] at h1 h2
  by_cases hij : i = j
  · subst hij
    simp only [if_pos] at h1 h2
    cases ha : es[i]? with
    | none => rw [ha] at h1; cases h1
    | some a =>
      cases hb : es'[i]? with
      | none => rw [hb] at h2; cases h2
      | some b =>
        rw [ha] at h1; rw [hb] at h2
        cases h1; cases h2
        exact ⟨hk, hv, (he.2 i a b ha hb).2.2⟩
  · simp only [if_neg hij] at h1 h2
    cases ha : es[j]? with
    | none => rw [ha] at h1; cases h1
    | some a =>
      cases hb : es'[j]? with
      | none => rw [hb] at h2; cases h2
      | some b =>
        rw [ha] at h1; rw [hb] at h2
        cases h1; cases h2
        exact he.2 j a b ha hb

theorem ER.push {es : List (LV × LV × Nat)} {es' : List MapEntry} {k v : LV} {vk vv : Value} {c : Nat} (he : ER ρ es es') (hk : VR ρ k vk) (hv : VR ρ v vv) :
    ER ρ (es ++ [(k, v, c)]) (es' ++ [{ key := vk, val := vv, born := c }]) := by
  refine ⟨by simp [he.1], fun j e e' h1 h2 => ?_⟩
  by_cases hj : j < es.length
  · rw [List.getElem?_append_left hj] at h1
    rw [List.getElem?_append_left (he.1 ▸ hj)] at h2
    exact he.2 j e e' h1 h2
  · rw [List.getElem?_append_right (by omega)] at h1
    rw [List.getElem?_append_right (by rw [← he.1]; omega), ← he.1] at h2
    cases hd : j - es.length with
    | zero => rw [hd] at h1 h2; simp at h1 h2; subst h1; subst h2; exact ⟨hk, hv, rfl⟩
    | succ m => rw [hd] at h1; simp at h1

theorem lookup_sound (hr : RR ρ R s) (hh : HR G ρ H nx h) {t m k ty : _} {ok : Bool} {xop : XOp} (hc : cRaw P G (.lookup t m k ok) = some (.x xop)) (he : evX call xop R H nx K = true) (hk : Cont G ρ nx s K K') :
    denOp P (.raw (.lookup t m k ok) ty) s h K' := by
  simp only [cRaw] at hc
  split at hc
  · rename_i key elem hu
    split at hc
    · rename_i ks z em ek hks hz hm hkk
      cases hc
      simp only [evX] at he
      split at he
      · rename_i lk hlk
        split at he
        · rename_i b hlm
          split at he
          · rename_i es clock hH
            obtain ⟨vk, hvk, rk⟩ := cX_ev hr hh.glob hkk hlk
            obtain ⟨vm, hvm, rm⟩ := cX_ev hr hh.glob hm hlm
            cases rm with
            | map hb =>
            rename_i rb κ
            obtain ⟨o, ho, es', rfl, hER⟩ := hh.blk b _ rb κ hH hb
            have hall : allVal s (Op.lookup t m k ok).operands.toList = true := by simp [Op.operands, allVal, hvk, hvm]
            have em : s.vv m = .map (some rb) := by simp [St.vv, hvm]
            have ek : s.vv k = vk := by simp [St.vv, hvk]
            obtain ⟨d, hud, hd⟩ := keyCls_sound hks
            cases hzT : zeroT P elem with
            | none => rw [hzT] at hz; cases hz
            | some zv =>
            rw [hzT] at hz
            have hzr : VR ρ z zv := toLV_VR hz
            simp only [denOp, hall]
            split at he
            · rename_i i lv hf
              rcases findE_sound hd rk hER hf with ⟨e1, _⟩ | ⟨j, lv2, v2, e1, e2, e3, h1, h2, _⟩
              · cases e1
              · cases e3
                have hfn : ∀ d', P.underlying key = some d' → Instr.findNow d' vk es' 0 = some (some (0 + j, v2)) := fun d' hd' => by rw [hud] at hd'; cases hd'; exact h2
                refine raw_lookup (ok := ok) hu hks hzT em ek ho hfn ?_
                cases ok
                · exact hk _ _ H nx ρ h (Nat.le_refl _) (Agr.refl _ _) hh h1 he
                · exact hk _ _ H nx ρ h (Nat.le_refl _) (Agr.refl _ _) hh (.tup (LR.cons h1 (LR.cons (.bool true) LR.nil)).1 (LR.cons h1 (LR.cons (.bool true) LR.nil)).2) he
            · rename_i hf
              rcases findE_sound hd rk hER hf with ⟨_, h2⟩ | ⟨j, lv2, v2, e1, e2, e3, _⟩
              · have hfn : ∀ d', P.underlying key = some d' → Instr.findNow d' vk es' 0 = some none := fun d' hd' => by rw [hud] at hd'; cases hd'; exact h2
                refine raw_lookup (ok := ok) hu hks hzT em ek ho hfn ?_
                cases ok
                · exact hk _ _ H nx ρ h (Nat.le_refl _) (Agr.refl _ _) hh hzr he
                · exact hk _ _ H nx ρ h (Nat.le_refl _) (Agr.refl _ _) hh (.tup (LR.cons hzr (LR.cons (.bool false) LR.nil)).1 (LR.cons hzr (LR.cons (.bool false) LR.nil)).2) he
              · cases e3
            · cases he
          · cases he
        · cases he
      · cases he
    · cases hc
  · cases hc

theorem upd_sound (hr : RR ρ R s) (hh : HR G ρ H nx h) {t : TypeId} {m k v : Operand} {op : Op} {ty : TypeId} {xop : XOp} (hop : op = .mapUpdate t m k v ∨ op = .insert t m k v) (hc : cUpd P G t m k v = some (.x xop)) (he : evX call xop R H nx K = true) (hk : Cont G ρ nx s K K') :
    denOp P (.raw op ty) s h K' := by
  unfold cUpd at hc
  split at hc
  · rename_i key elem hu
    split at hc
    · rename_i ks em ek ev hks hm hkk hv
      cases hc
      simp only [evX] at he
      split at he
      · rename_i lk hlk
        split at he
        · rename_i lv hlv
          split at he
          · rename_i b hlm
            split at he
            · rename_i es clock hH
              obtain ⟨vk, hvk, rk⟩ := cX_ev hr hh.glob hkk hlk
              obtain ⟨vv, hvv, rv⟩ := cX_ev hr hh.glob hv hlv
              obtain ⟨vm, hvm, rm⟩ := cX_ev hr hh.glob hm hlm
              cases rm with
              | map hb =>
              rename_i rb κ
              obtain ⟨o, ho, es', rfl, hER⟩ := hh.blk b _ rb κ hH hb
              have hall : allVal s op.operands.toList = true := by rcases hop with rfl | rfl <;> simp [Op.operands, allVal, hvk, hvm, hvv]
              have em : s.vv m = .map (some rb) := by simp [St.vv, hvm]
              have ek : s.vv k = vk := by simp [St.vv, hvk]
              have evv : s.vv v = vv := by simp [St.vv, hvv]
              obtain ⟨d, hud, hd⟩ := keyCls_sound hks
              simp only [denOp, hall]
              intro w hs
              have hw := hs _ _ ho
              have fin : ∀ (res : Option (Nat × Value)) (ob : Obj), (∀ d', P.underlying key = some d' → Instr.findNow d' vk es' 0 = some res) → (∀ i v, res = some (i, v) → ∃ e, es'[i]? = some e ∧ Instr.sameBits 10000 e.key vk = true) →
                  ob = (match res with
                    | some (i, _) => .map ⟨es'.modify i fun e => { e with key := vk, val := vv }⟩ clock
                    | none => .map ⟨es' ++ [{ key := vk, val := vv, born := clock }]⟩ (clock + 1)) → K' (.val undef) s (h.put rb ob) →
                  ∃ n v w' h', (execOp s.vv (mkO op ty)).run P w = .ok n w' ∧ ((n = .value v) ∨ (n = .skip ∧ v = undef)) ∧ K' (.val v) s h' ∧ Den.Sub w' h' ∧ Keep w h w' h' := by
                intro res ob h1 h2 h3 h4
                have hrun := upd_run (vv := vv) hu hks hw h1 h2
                obtain ⟨k1, k2⟩ := setObj_keep (o2 := ob) hs ho
                refine ⟨.skip, undef, _, _, ?_, .inr ⟨rfl, rfl⟩, h4, k1, k2⟩
                rw [h3]
                rcases hop with rfl | rfl <;> simp [execOp, mkO, em, ek, evv, hrun] <;> cases res <;> rfl
              split at he
              · rename_i i lv2 hf
                rcases findE_sound hd rk hER hf with ⟨e1, _⟩ | ⟨j, lv3, v2, e1, e2, e3, h1, h2, h3, h4, h5⟩
                · cases e1
                · cases e3
                  rw [Nat.zero_add] at *
                  have hset := setE_sound he
                  obtain ⟨H', h6, h7⟩ := T.putK_sound hset
                  refine fin (some (j, v2)) _ (fun d' hd' => by rw [hud] at hd'; cases hd'; exact h2) (fun i v hi => ?_) rfl ?_
                  · cases hi
                    exact ⟨e2, h4, sameBits_plain rk (hER.2 j e1 e2 h3 h4).1 h5⟩
                  · have hHR := hh.set (B2 := .map (es.modify j fun e => (lk, lv, e.2.2)) clock) hH hb ⟨_, rfl, hER.modify rk rv⟩ h7
                    exact hk _ _ H' nx ρ _ (Nat.le_refl _) (Agr.refl _ _) hHR VR.unit h6
              · rename_i hf
                rcases findE_sound hd rk hER hf with ⟨_, h2⟩ | ⟨j, lv3, v2, e1, e2, e3, _⟩
                · have hpush := pushE_sound he
                  obtain ⟨H', h6, h7⟩ := T.putK_sound hpush
                  refine fin none _ (fun d' hd' => by rw [hud] at hd'; cases hd'; exact h2) (fun i v hi => by cases hi) rfl ?_
                  have hHR := hh.set (B2 := .map (es ++ [(lk, lv, clock)]) (Nat.succ clock)) hH hb ⟨_, rfl, hER.push rk rv⟩ h7
                  exact hk _ _ H' nx ρ _ (Nat.le_refl _) (Agr.refl _ _) hHR VR.unit h6
                · cases e3
              · cases he
            · cases he
          · cases he
        · cases he
      · cases he
    · cases hc
  · cases hc

theorem evX_sound (hcall : CallOk P G call) (hr : RR ρ R s) (hh : HR G ρ H nx h) {sop : SOp} {xop : XOp} (hc : cOp P G sop = some (.x xop)) (he : evX call xop R H nx K = true) (hk : Cont G ρ nx s K K') : denOp P sop s h K' := by
  have alloc : ∀ {b : Nat} {l : List LV} {l' : List Value} {t k : Nat} {H' : T Blk}, h b = none → LR ρ l l' → (∀ j, H'.get j = if j = nx then some (.cells t k (lenL l) (T.ofL l)) else H.get j) → HR G (ext ρ nx b 0) H' (nx + 1) (h.put b (.cells ⟨l'⟩ t (0, 0))) := by
    intro b l l' t k H' hb hl hH
    have hB := BR.ofL (t := t) (k := k) (rest := []) (κ := 0) (hl.mono (hh.le (ext_agr ρ nx b 0))) (by simp)
    rw [List.append_nil, ← lenL_eq] at hB
    exact hh.new (hh.noB hb) hB hH
  have eptr : ∀ {b : Nat}, ext ρ nx b 0 nx = some (b, 0) := by intro b; simp only [ext, if_pos]
  cases sop <;> simp only [cOp] at hc
  case mv x => obtain ⟨ex, hx, h1⟩ := map_some hc; cases h1
  case pick c a b => split at hc <;> cases hc
  case alloc t z esc =>
    split at hc
    · rename_i l hl
      cases hc
      simp only [evX] at he
      obtain ⟨H', h1, h2⟩ := newK_sound he
      simp only [denOp]
      intro b hb
      rw [← lenL_eq] at h2
      exact hk _ _ H' (nx + 1) _ _ (Nat.le_succ _) (ext_agr ρ nx b 0) (alloc hb (lvs0_LR hl) h2) (.ptr eptr) h1
    · cases hc
  case box t x esc =>
    split at hc
    · rename_i ex hx
      cases hc
      simp only [evX] at he
      split at he
      · rename_i lv hlv
        obtain ⟨v, hv, hvr⟩ := cX_ev hr hh.glob hx hlv
        rw [T.ofLK_eq] at he
        obtain ⟨H', h1, h2⟩ := newK_sound he
        simp only [denOp, hv]
        intro b hb
        exact hk _ _ H' (nx + 1) _ _ (Nat.le_succ _) (ext_agr ρ nx b 0) (alloc hb (lvCells_LR hvr) h2) (.ptr eptr) h1
      · cases he
    · cases hc
  case load agg n x => obtain ⟨ex, hx, h1⟩ := map_some hc; cases h1
  case store n x v =>
    split at hc
    · rename_i ex ev hx hv
      cases hc
      simp only [evX] at he
      split at he
      · rename_i lv hlv
        split at he
        · rename_i hlen
          rw [Bool.and_eq_true] at hlen
          have hlen1 := Nat.eq_of_beq_eq_true hlen.1
          rw [lenL_eq] at hlen1
          split at he
          · rename_i b o hlx
            split at he
            · rename_i t k m c hH
              split at he
              · rename_i hle
                have hle : o + n ≤ m := Nat.le_of_ble_eq_true hle
                obtain ⟨vx, hvx, rx⟩ := cX_ev hr hh.glob hx hlx
                obtain ⟨vv, hvv, rv⟩ := cX_ev hr hh.glob hv hlv
                have hcl := lvCells_LR rv
                cases rx with
                | ptr hb =>
                rename_i rb κ
                obtain ⟨c1, h1, h2⟩ := writeK_sound he
                obtain ⟨H', h3, h4⟩ := T.putK_sound h1
                obtain ⟨ob, ho, hB⟩ := hh.blk b _ rb κ hH hb
                obtain ⟨cs, rfl, h5, h6⟩ := BR.write hB hcl (by omega) h2
                simp only [denOp, hvv, hvx]
                have hcond : (Nat.beq (cellsL vv).length n && allOne (cellsL vv)) = true := by
                  rw [Bool.and_eq_true]
                  refine ⟨?_, allOneV_one hcl hlen.2⟩
                  rw [← hcl.1, hlen1]; exact beqSelf n
                rw [hcond]
                refine ⟨cs, t, (0, 0), ho, ⟨by omega, Nat.zero_le _⟩, ?_⟩
                exact hk _ _ H' nx ρ _ (Nat.le_refl _) (Agr.refl _ _) (hh.set hH hb h6 h4) VR.unit h3
              · cases he
            · cases he
          · cases he
        · cases he
      · cases he
    · cases hc
  case nilCheck x => obtain ⟨ex, hx, h1⟩ := map_some hc; cases h1
  case fieldAddr off x => obtain ⟨ex, hx, h1⟩ := map_some hc; cases h1
  case indexAddr size x i => split at hc <;> cases hc
  case indexArr len size x i => split at hc <;> cases hc
  case len str x => obtain ⟨ex, hx, h1⟩ := map_some hc; cases h1
  case call f args =>
    split at hc
    · rename_i ef eargs hf hargs
      cases hc
      simp only [evX] at he
      split at he
      · rename_i g a c hlf
        obtain ⟨vf, hvf, rf⟩ := cX_ev hr hh.glob hf hlf
        cases rf with
        | fn k1 k2 k3 k4 =>
        rename_i a' c'
        obtain ⟨lvs, h1, h2, h3⟩ := cXs_allVal hr hh.glob hargs he
        rw [appL_eq, appL_eq] at h1
        simp only [denOp, hvf, h2]
        have hlr : LR ρ (a ++ (lvs ++ c)) (a' ++ vals s args ++ c') := by
          rw [List.append_assoc]
          exact LR.append ⟨k1, k3⟩ (LR.append h3 ⟨k2, k4⟩)
        exact hcall g _ _ H nx h ρ K _ hlr hh h1 fun lv v H' nx' ρ' h' b1 b2 b3 b4 b5 => hk lv v H' nx' ρ' h' b1 b2 b3 b4 b5
      · cases he
    · cases hc
  case pure op ty =>
    exfalso; revert hc; unfold cPure cBin nilOp
    repeat' split
    all_goals intro hc; first | (cases hc; done) | (obtain ⟨ex, hx, h1⟩ := map_some hc; cases h1)
  case puref op ty =>
    exfalso; revert hc; unfold cPuref cBin nilOp
    repeat' split
    all_goals intro hc; cases hc
  case raw op ty =>
    cases op <;> simp only [cRaw] at hc
    case call c =>
      split at hc
      · exact append_sound hr hh hc he hk
      · cases hc
    case makeMap t r =>
      cases r with
      | some r => cases hc
      | none =>
        cases hc
        simp only [evX] at he
        obtain ⟨H', h1, h2⟩ := newK_sound he
        have hall : allVal s (Op.makeMap t none).operands.toList = true := rfl
        simp only [denOp, hall]
        refine raw_makeMap fun b hb => ?_
        have hHR := hh.new (κ := 0) (hh.noB hb) (B := .map [] 0) (o := .map ⟨[]⟩ 0) ⟨[], rfl, rfl, fun i e e' h1 => by simp at h1⟩ h2
        exact hk _ _ H' (nx + 1) _ _ (Nat.le_succ _) (ext_agr ρ nx b 0) hHR (.map eptr) h1
    case lookup t m k ok => exact lookup_sound hr hh hc he hk
    case mapUpdate t m k v => exact upd_sound hr hh (.inl rfl) hc he hk
    case insert t m k v => exact upd_sound hr hh (.inr rfl) hc he hk
    all_goals cases hc
  case conv k x => obtain ⟨ex, hx, h1⟩ := map_some hc; cases h1
  case build z parts => split at hc <;> cases hc
  case buildSlice e len z parts =>
    split at hc
    · rename_i k z' ps hk' hz hps
      cases hc
      simp only [evX] at he
      obtain ⟨l, l', h1, h2, h3⟩ := fillK_sound hr hh.glob hps (lvs0_LR hz) he
      rw [T.ofLK_eq] at h1
      obtain ⟨H', h4, h5⟩ := newK_sound h1
      simp only [denOp]
      refine h3 _ fun b hb => ?_
      exact hk _ _ H' (nx + 1) _ _ (Nat.le_succ _) (ext_agr ρ nx b 0) (alloc hb h2 h5) (VR.slice (g := false) eptr) h4
    · cases hc
  case field agg off n x => obtain ⟨ex, hx, h1⟩ := map_some hc; cases h1
  case idxS x i => split at hc <;> cases hc
  case sliceS x lo hi => split at hc <;> cases hc
  case sliceL k x lo hi => split at hc <;> cases hc
  case addS x y => split at hc <;> cases hc
  case eqS neg x y => split at hc <;> cases hc
  case bytesS x =>
    obtain ⟨ex, hx, h1⟩ := map_some hc
    cases h1
    simp only [evX] at he
    split at he
    · rename_i b o n c g hlx
      obtain ⟨vx, hvx, rx⟩ := cX_ev hr hh.glob hx hlx
      cases rx with
      | slice hb =>
      obtain ⟨l, l', h1, h2, h3, h4⟩ := rowK_sound hh hb he
      split at h1
      · rename_i m hm
        simp only [strK, natK_eq] at h1
        have e := packB_sound h2 hm
        have hl : l.length = n := by rw [h2.1]; exact h3
        rw [hl] at e
        simp only [denOp, hvx]
        refine ⟨bytesOf n m, bytesOf_length n m, by rw [← e]; exact h4, ?_⟩
        exact hk _ _ H nx ρ h (Nat.le_refl _) (Agr.refl _ _) hh (.str _ _) h1
      · cases h1
    · rename_i hlx
      obtain ⟨vx, hvx, rx⟩ := cX_ev hr hh.glob hx hlx
      cases rx
      simp only [denOp, hvx]
      exact hk _ _ H nx ρ h (Nat.le_refl _) (Agr.refl _ _) hh (.str 0 0) he
    · cases he
  case bad => cases hc
end
end Go.Ev
/- Operations with guards, straight regions, drawn regions. -/
namespace Go.Ev
open Go Go.Den

/-- No register names a promoted local. -/
def NL (s : St) : Prop := s.nl = 0 ∧ ∀ j i o, s.regs j ≠ .loc i o

/-- Outside a list of registers nothing is written. -/
def Same (W : List Nat) (R R' : T LV) (s s' : St) : Prop := ∀ j, j ∉ W → R'.get j = R.get j ∧ s'.regs j = s.regs j

theorem Same.refl (W : List Nat) (R : T LV) (s : St) : Same W R R s s := fun _ _ => ⟨rfl, rfl⟩
theorem Same.trans {W1 W2 W : List Nat} {R1 R2 R3 : T LV} {s1 s2 s3 : St} (h1 : Same W1 R1 R2 s1 s2) (h2 : Same W2 R2 R3 s2 s3) (i1 : ∀ j, j ∈ W1 → j ∈ W) (i2 : ∀ j, j ∈ W2 → j ∈ W) : Same W R1 R3 s1 s3 := fun j hj =>
  ⟨(h2 j fun h => hj (i2 j h)).1.trans (h1 j fun h => hj (i1 j h)).1, (h2 j fun h => hj (i2 j h)).2.trans (h1 j fun h => hj (i1 j h)).2⟩
theorem Same.mono {W W' : List Nat} {R R' : T LV} {s s' : St} (h : Same W R R' s s') (i : ∀ j, j ∈ W → j ∈ W') : Same W' R R' s s' := fun j hj => h j fun hm => hj (i j hm)

section
variable {P : Program} {G n : Nat} {call : CallE}

/-- What is known behind a step. -/
def Goes (G : Nat) (ρ : Rho) (nx : Nat) (W : List Nat) (R : T LV) (s : St) (K : T LV → T Blk → Nat → Bool) (Q : St → PHeap → Prop) : Prop :=
  ∀ R' s' H' nx' ρ' h', nx ≤ nx' → Agr nx ρ ρ' → HR G ρ' H' nx' h' → RR ρ' R' s' → NL s' → Same W R R' s s' → K R' H' nx' = true → Q s' h'

theorem load_inv {sop : SOp} {agg : Bool} {k : Nat} {x : EX} (hc : cOp P G sop = some (.load agg k x)) : ∃ y, sop = .load agg k y ∧ cX G y = some x := by
  cases sop <;> simp only [cOp] at hc
  case load a m y => obtain ⟨ex, hx, h1⟩ := map_some hc; cases h1; exact ⟨y, rfl, hx⟩
  case mv | nilCheck | fieldAddr | len | conv | field | bytesS => obtain ⟨ex, hx, h1⟩ := map_some hc; cases h1
  case pure op ty =>
    exfalso; revert hc; unfold cPure cBin nilOp
    repeat' split
    all_goals intro hc; first | (cases hc; done) | (obtain ⟨ex, hx, h1⟩ := map_some hc; cases h1)
  case puref op ty =>
    exfalso; revert hc; unfold cPuref cBin nilOp
    repeat' split
    all_goals intro hc; cases hc
  case raw op ty =>
    exfalso; revert hc; unfold cRaw cUpd cApp
    repeat' split
    all_goals intro hc; cases hc
  all_goals first | (cases hc; done) | (split at hc <;> cases hc)

theorem bad_inv {sop : SOp} (hc : cOp P G sop = some .bad) : False := by
  cases sop <;> simp only [cOp] at hc
  case mv | nilCheck | fieldAddr | len | conv | field | bytesS | load => obtain ⟨ex, hx, h1⟩ := map_some hc; cases h1
  case pure op ty =>
    revert hc; unfold cPure cBin nilOp
    repeat' split
    all_goals intro hc; first | (cases hc; done) | (obtain ⟨ex, hx, h1⟩ := map_some hc; cases h1)
  case puref op ty =>
    revert hc; unfold cPuref cBin nilOp
    repeat' split
    all_goals intro hc; cases hc
  case raw op ty =>
    revert hc; unfold cRaw cUpd cApp
    repeat' split
    all_goals intro hc; cases hc
  all_goals first | (cases hc; done) | (split at hc <;> cases hc)

section
variable {ρ : Rho} {R : T LV} {s : St} {H : T Blk} {nx : Nat} {h : PHeap}

theorem evO_sound (hcall : CallOk P G call) (hr : RR ρ R s) (hh : HR G ρ H nx h) {sop : SOp} {eop : EOp} {K : LV → T Blk → Nat → Bool} {K' : SV → St → PHeap → Prop} (hc : cOp P G sop = some eop) (he : evO call eop R H nx K = true)
    (hk : Cont G ρ nx s K K') : denOp P sop s h K' := by
  cases eop with
  | p pop =>
    obtain ⟨lv, v, h1, h2, h3⟩ := evP_sound hr hh.glob hc he
    exact h3 h K' (hk lv v H nx ρ h (Nat.le_refl _) (Agr.refl _ _) hh h2 h1)
  | load agg k x =>
    obtain ⟨y, rfl, hx⟩ := load_inv hc
    simp only [evO] at he
    split at he
    · rename_i b o hlx
      obtain ⟨v, hv, hvr⟩ := cX_ev hr hh.glob hx hlx
      cases hvr with
      | ptr hb =>
        obtain ⟨l, l', h1, h2, h3, h4⟩ := rowK_sound hh hb he
        obtain ⟨lv, h5, h6⟩ := packK_sound h2 h1
        simp only [denOp, hv]
        exact ⟨l', h3, h4, hk lv _ H nx ρ h (Nat.le_refl _) (Agr.refl _ _) hh h6 h5⟩
    · cases he
  | x xop => exact evX_sound hcall hr hh hc he hk
  | bad => cases he

theorem cOper_inv {o : SOper} {e : EOper} (hc : cOper P G n o = some e) : e.dst = o.dst ∧ e.guard = o.guard ∧ dstOk n o.dst = true ∧ (cOp P G o.op = some e.op ∨ e.op = .bad) := by
  unfold cOper at hc
  split at hc
  · rename_i hd
    split at hc
    · rename_i op hop; cases hc; exact ⟨rfl, rfl, hd, .inl hop⟩
    · cases hc; exact ⟨rfl, rfl, hd, .inr rfl⟩
  · cases hc

theorem evO_sound' (hcall : CallOk P G call) (hr : RR ρ R s) (hh : HR G ρ H nx h) {sop : SOp} {eop : EOp} {K : LV → T Blk → Nat → Bool} {K' : SV → St → PHeap → Prop} (hc : cOp P G sop = some eop ∨ eop = .bad) (he : evO call eop R H nx K = true)
    (hk : Cont G ρ nx s K K') : denOp P sop s h K' := by
  rcases hc with hc | rfl
  · exact evO_sound hcall hr hh hc he hk
  · cases he

theorem evG_sound (hcall : CallOk P G call) (hr : RR ρ R s) (hh : HR G ρ H nx h) {o : SOper} {e : EOper} {K : LV → T Blk → Nat → Bool} {K' : SV → St → PHeap → Prop} (hc : cOper P G n o = some e) (he : evG call e R H nx K = true)
    (hk : Cont G ρ nx s K K') : denG P o s h K' := by
  obtain ⟨_, hg, _, hop⟩ := cOper_inv hc
  unfold evG at he
  unfold denG
  rw [hg] at he
  split at he
  · rename_i hgn
    rw [hgn]
    exact evO_sound' hcall hr hh hop he hk
  · rename_i r want hgs
    rw [hgs]
    have skip : K (.tup []) H nx = true → K' (.val undef) s h := fun h1 => hk _ _ H nx ρ h (Nat.le_refl _) (Agr.refl _ _) hh VR.unit h1
    split at he
    · rename_i c hrc
      obtain ⟨v, hv, hvr⟩ := hr r _ hrc
      cases hvr
      simp only [hv]
      cases want <;> cases c <;> simp only [br, lit_eq hv] at he ⊢
      · exact evO_sound' hcall hr hh hop he hk
      · exact skip he
      · exact skip he
      · exact evO_sound' hcall hr hh hop he hk
    · rename_i l hrc
      obtain ⟨v, hv, hvr⟩ := hr r _ hrc
      cases hvr with
      | tup k1 k2 => simp only [hv]; exact skip he
    · cases he

def setD (s : St) (d : Option Nat) (x : SV) : St :=
  match d with
  | some d => { s with regs := upd s.regs d x }
  | none => s

theorem dstK_sound (hr : RR ρ R s) (hn : NL s) {d : Option Nat} {lv : LV} {v : Value} {K : T LV → Bool} (hv : VR ρ lv v) (he : dstK d lv R K = true) : ∃ R', K R' = true ∧ RR ρ R' (setD s d (.val v)) ∧ NL (setD s d (.val v)) ∧ Same d.toList R R' s (setD s d (.val v)) := by
  unfold dstK at he
  cases d with
  | none => exact ⟨R, he, hr, hn, Same.refl _ _ _⟩
  | some d =>
    obtain ⟨R', h1, h2⟩ := T.putK_sound he
    refine ⟨R', h1, fun j lv' hj => ?_, ⟨hn.1, fun j i o => ?_⟩, fun j hj => ?_⟩
    · rw [h2] at hj
      by_cases e : j = d
      · subst e
        rw [if_pos rfl] at hj; cases hj
        exact ⟨v, by simp [setD, upd], hv⟩
      · rw [if_neg e] at hj
        obtain ⟨v', hv', hr'⟩ := hr j lv' hj
        exact ⟨v', by simp only [setD, upd, beqNe e, cond_false]; exact hv', hr'⟩
    · by_cases e : j = d
      · subst e; simp [setD, upd]
      · simp only [setD, upd, beqNe e, cond_false]; exact hn.2 j i o
    · have e : j ≠ d := fun e => hj (by subst e; simp)
      rw [h2, if_neg e]
      exact ⟨rfl, by simp only [setD, upd, beqNe e, cond_false]⟩
end

theorem mem_writes_cons {o : SOper} {l : List SOper} {j : Nat} : j ∈ writesOf (o :: l) ↔ j ∈ o.dst.toList ∨ j ∈ writesOf l := by
  rw [writesOf]
  cases hd : o.dst <;> simp

theorem evL_sound (hcall : CallOk P G call) : ∀ {l : List SOper} {es : List EOper} {ρ : Rho} {R : T LV} {s : St} {H : T Blk} {nx : Nat} {h : PHeap} {K : T LV → T Blk → Nat → Bool} {Q : St → PHeap → Prop},
    cOpers P G n l = some es → RR ρ R s → HR G ρ H nx h → NL s → evL call es R H nx K = true → Goes G ρ nx (writesOf l) R s K Q → denL P n l Q s h
  | [], es, ρ, R, s, H, nx, h, K, Q, hc, hr, hh, hn, he, hk => by
    cases hc
    exact hk R s H nx ρ h (Nat.le_refl _) (Agr.refl _ _) hh hr hn (Same.refl _ _ _) he
  | o :: l, es, ρ, R, s, H, nx, h, K, Q, hc, hr, hh, hn, he, hk => by
    simp only [cOpers] at hc
    split at hc
    · rename_i e es' h1 h2
      cases hc
      simp only [evL] at he
      obtain ⟨hd, hg, hok, hop⟩ := cOper_inv h1
      unfold denL
      refine evG_sound hcall hr hh h1 he fun lv v H' nx' ρ' h' b1 b2 b3 b4 b5 => ?_
      have hr' := hr.mono (hh.le b2)
      rw [hd] at b5
      obtain ⟨R', c1, d1, d2, d3⟩ := dstK_sound hr' hn b4 b5
      have goes : denL P n l Q (setD s o.dst (.val v)) h' :=
        evL_sound hcall h2 d1 b3 d2 c1 fun R2 s2 H2 nx2 ρ2 h2 e1 e2 e3 e4 e5 e6 e7 =>
          hk R2 s2 H2 nx2 ρ2 h2 (Nat.le_trans b1 e1) (b2.trans e2 b1) e3 e4 e5 (d3.trans e6 (fun j hj => mem_writes_cons.2 (.inl hj)) (fun j hj => mem_writes_cons.2 (.inr hj))) e7
      cases hdd : o.dst with
      | none => rw [hdd] at goes; exact goes
      | some d =>
        rw [hdd] at hok goes
        have hok : Nat.blt d n = true := hok
        simp only [hok]
        exact goes
    · cases hc

/-! ### Drawn regions -/

theorem eqV_eq {a b : LV} (h : eqV a b = true) : a = b := by
  unfold eqV at h
  split at h
  case h_1 x => split at h <;> first | cases h | (simp at h; subst h; rfl)
  case h_2 j x =>
    split at h
    · rw [Bool.and_eq_true, eqI_eq] at h
      have h1 := kNo_inj h.1
      have h2 := h.2
      simp at h2
      subst h1; subst h2; rfl
    · cases h
  case h_3 j x =>
    split at h
    · rw [Bool.and_eq_true] at h
      have h1 := Nat.eq_of_beq_eq_true h.1
      have h2 := Nat.eq_of_beq_eq_true h.2
      subst h1; subst h2; rfl
    · cases h
  case h_4 j x =>
    split at h
    · rw [Bool.and_eq_true] at h
      have h1 := Nat.eq_of_beq_eq_true h.1
      have h2 := Nat.eq_of_beq_eq_true h.2
      subst h1; subst h2; rfl
    · cases h
  case h_5 x1 x2 x3 x4 g =>
    split at h
    · simp only [Bool.and_eq_true] at h
      have h1 := Nat.eq_of_beq_eq_true h.1.1.1.1
      have h2 := Nat.eq_of_beq_eq_true h.1.1.1.2
      have h3 := Nat.eq_of_beq_eq_true h.1.1.2
      have h4 := Nat.eq_of_beq_eq_true h.1.2
      have h5 := h.2
      simp at h5
      subst h1; subst h2; subst h3; subst h4; subst h5; rfl
    · cases h
  case h_6 x =>
    split at h
    · have h1 := Nat.eq_of_beq_eq_true h; subst h1; rfl
    · cases h
  case h_12 f =>
    split at h
    · have h1 := Nat.eq_of_beq_eq_true h; subst h1; rfl
    · cases h
  case h_13 => cases h
  all_goals split at h <;> first | rfl | cases h

theorem eqLs_eq : ∀ {a b : List LV}, eqLs a b = true → a = b
  | [], [], _ => rfl
  | [], _ :: _, h => by simp [eqLs] at h
  | _ :: _, [], h => by simp [eqLs] at h
  | a :: l, b :: m, h => by
    simp only [eqLs] at h
    split at h
    · rename_i h1; rw [eqV_eq h1, eqLs_eq h]
    · cases h

theorem VR.funQ {ρ : Rho} {a : LV} {v v' : Value} (hq : eqV a a = true) (h : VR ρ a v) (h' : VR ρ a v') : v = v' := by
  cases h with
  | fn h1 h2 h3 h4 =>
    cases h' with
    | fn k1 k2 k3 k4 =>
      rename_i f a c a1 c1 a2 c2
      cases a with
      | nil =>
        cases c with
        | nil =>
          have e1 := List.eq_nil_of_length_eq_zero h1.symm
          have e2 := List.eq_nil_of_length_eq_zero h2.symm
          have e3 := List.eq_nil_of_length_eq_zero k1.symm
          have e4 := List.eq_nil_of_length_eq_zero k2.symm
          subst e1; subst e2; subst e3; subst e4; rfl
        | cons x xs => simp [eqV] at hq
      | cons x xs => simp [eqV] at hq
  | ptr h1 => cases h' with | ptr h2 => rw [h1] at h2; cases h2; rfl
  | slice h1 => cases h' with | slice h2 => rw [h1] at h2; cases h2; rfl
  | map h1 => cases h' with | map h2 => rw [h1] at h2; cases h2; rfl
  | iface h1 => simp [eqV] at hq
  | agg h1 => simp [eqV] at hq
  | tup h1 => simp [eqV] at hq
  | sym h1 => simp [eqV] at hq
  | _ => cases h'; rfl

theorem LR.funQ {ρ : Rho} : ∀ {l : List LV} {a b : List Value}, eqLs l l = true → LR ρ l a → LR ρ l b → a = b
  | [], a, b, _, h1, h2 => by rw [h1.nil_inv, h2.nil_inv]
  | v :: l, a, b, hq, h1, h2 => by
    obtain ⟨v1, r1, rfl, hv1, hr1⟩ := h1.cons_inv
    obtain ⟨v2, r2, rfl, hv2, hr2⟩ := h2.cons_inv
    simp only [eqLs] at hq
    split at hq
    · rename_i hv; rw [VR.funQ hv hv1 hv2, LR.funQ hq hr1 hr2]
    · cases hq

def PenR (ρ : Rho) : PenE → Pen → Prop
  | [], [] => True
  | (k, b, o, l) :: r, (k', S) :: r' => k = k' ∧ (∃ rb κ l', ρ b = some (rb, κ) ∧ LR ρ l l' ∧ S = fun _ h' => h'.row rb o l') ∧ PenR ρ r r'
  | _, _ => False

theorem PenR.mono {ρ ρ' : Rho} (hle : Le ρ ρ') : ∀ {pens : PenE} {pen : Pen}, PenR ρ pens pen → PenR ρ' pens pen
  | [], [], _ => trivial
  | [], _ :: _, h => h.elim
  | (_, _, _, _) :: _, [], h => h.elim
  | (k, b, o, l) :: r, (k', S) :: r', h => by
    obtain ⟨h1, ⟨rb, κ, l', h2, h3, h4⟩, h5⟩ := h
    exact ⟨h1, ⟨rb, κ, l', hle _ _ h2, h3.mono hle, h4⟩, h5.mono hle⟩

theorem waits_af (l : List (SOper × List Nat)) (k i : Nat) : waitsN l k i = memN k (afOf l i) := by
  unfold waitsN afOf
  cases nthL l i <;> rfl

theorem penK_sound {ρ : Rho} {H : T Blk} {nx i : Nat} {h : PHeap} {s : St} {l : List (SOper × List Nat)} (hh : HR G ρ H nx h) : ∀ {pens : PenE} {pen : Pen} {K : PenE → Bool}, PenR ρ pens pen → penK (afOf l i) H pens K = true →
    ∃ pens' pen', K pens' = true ∧ PenR ρ pens' pen' ∧ ∀ K' : Pen → Prop, K' pen' → penOk l i s h pen K'
  | [], [], K, _, he => ⟨[], [], he, trivial, fun K' h => h⟩
  | [], _ :: _, K, h, _ => h.elim
  | (_, _, _, _) :: _, [], K, h, _ => h.elim
  | (k, b, o, l2) :: r, (k', S) :: r', K, hp, he => by
    obtain ⟨rfl, ⟨rb, κ, l', h2, h3, rfl⟩, h5⟩ := hp
    simp only [penK] at he
    split at he
    · rename_i hm
      obtain ⟨pens', pen', a1, a2, a3⟩ := penK_sound hh h5 he
      refine ⟨pens', pen', a1, a2, fun K' hk => ?_⟩
      unfold penOk
      rw [waits_af, hm]
      exact a3 K' hk
    · rename_i hm
      obtain ⟨m, m', b1, b2, b3, b4⟩ := rowK_sound hh h2 he
      split at b1
      · rename_i heq
        have := eqLs_eq heq
        subst this
        have hl := LR.funQ heq h3 b2
        subst hl
        obtain ⟨pens', pen', a1, a2, a3⟩ := penK_sound hh h5 b1
        refine ⟨_, (k, fun _ h' => h'.row rb o l') :: pen', a1, ⟨rfl, ⟨rb, κ, l', h2, h3, rfl⟩, a2⟩, fun K' hk => ?_⟩
        unfold penOk
        rw [waits_af, hm]
        exact ⟨b4, a3 _ hk⟩
      · cases b1

theorem take_den {sop : SOp} {pop : POp} (hc : cOp P G sop = some (.p pop)) (s : St) (h : PHeap) (K : SV → Option (St → PHeap → Prop) → Prop) : denTake P sop s h K = denOp P sop s h fun x _ _ => K x none := by
  cases sop
  case load a m y => simp only [cOp] at hc; obtain ⟨ex, hx, h1⟩ := map_some hc; cases h1
  all_goals rfl

section
variable {ρ : Rho} {R : T LV} {s : St} {H : T Blk} {nx : Nat} {h : PHeap}

theorem takeO_sound (hr : RR ρ R s) (hh : HR G ρ H nx h) {sop : SOp} {eop : EOp} {i : Nat} {pens : PenE} {pen : Pen} {K : LV → PenE → Bool} {K' : SV → Option (St → PHeap → Prop) → Prop} (hc : cOp P G sop = some eop ∨ eop = .bad) (hp : PenR ρ pens pen)
    (he : takeO eop i R H pens K = true) (hk : ∀ lv v pens' S, VR ρ lv v → PenR ρ pens' (addPen i S pen) → K lv pens' = true → K' (.val v) S) : denTake P sop s h K' := by
  rcases hc with hc | rfl
  · cases eop with
    | p pop =>
      obtain ⟨lv, v, h1, h2, h3⟩ := evP_sound hr hh.glob hc he
      rw [take_den hc]
      exact h3 h _ (hk lv v pens none h2 hp h1)
    | load agg k x =>
      obtain ⟨y, rfl, hx⟩ := load_inv hc
      simp only [takeO] at he
      split at he
      · rename_i b o hlx
        obtain ⟨v, hv, hvr⟩ := cX_ev hr hh.glob hx hlx
        cases hvr with
        | ptr hb =>
          obtain ⟨l, l', h1, h2, h3, h4⟩ := rowK_sound hh hb he
          obtain ⟨lv, h5, h6⟩ := packK_sound h2 h1
          simp only [denTake, hv]
          exact ⟨l', h3, h4, hk lv _ ((i, b, o, l) :: pens) (some fun _ h' => h'.row _ o l') h6 (show PenR ρ ((i, b, o, l) :: pens) ((i, fun _ h' => h'.row _ o l') :: pen) from ⟨rfl, ⟨_, _, l', hb, h2, rfl⟩, hp⟩) h5⟩
      · cases he
    | x xop => cases he
    | bad => cases he
  · cases he

theorem takeG_sound (hr : RR ρ R s) (hh : HR G ρ H nx h) {o : SOper} {e : EOper} {i : Nat} {pens : PenE} {pen : Pen} {K : LV → PenE → Bool} {K' : SV → St → Option (St → PHeap → Prop) → Prop} (hc : cOper P G n o = some e) (hp : PenR ρ pens pen)
    (he : takeG e i R H pens K = true) (hk : ∀ lv v pens' S, VR ρ lv v → PenR ρ pens' (addPen i S pen) → K lv pens' = true → K' (.val v) s S) : denTG P o s h K' := by
  obtain ⟨_, hg, _, hop⟩ := cOper_inv hc
  unfold takeG at he
  unfold denTG
  rw [hg] at he
  split at he
  · rename_i hgn
    rw [hgn]
    exact takeO_sound hr hh hop hp he hk
  · rename_i r want hgs
    rw [hgs]
    have skip : K (.tup []) pens = true → K' (.val undef) s none := fun h1 => hk _ _ pens none VR.unit hp h1
    split at he
    · rename_i c hrc
      obtain ⟨v, hv, hvr⟩ := hr r _ hrc
      cases hvr
      simp only [hv]
      cases want <;> cases c <;> simp only [br, lit_eq hv] at he ⊢
      · exact takeO_sound hr hh hop hp he hk
      · exact skip he
      · exact skip he
      · exact takeO_sound hr hh hop hp he hk
    · rename_i l hrc
      obtain ⟨v, hv, hvr⟩ := hr r _ hrc
      cases hvr with
      | tup k1 k2 => simp only [hv]; exact skip he
    · cases he
end

theorem mem_writesOf {l : List (SOper × List Nat)} {o : SOper} {af : List Nat} {j : Nat} (hm : (o, af) ∈ l) (hj : j ∈ o.dst.toList) : j ∈ writesOf (l.map (·.1)) := by
  induction l with
  | nil => cases hm
  | cons x l ih =>
    rw [List.map_cons, mem_writes_cons]
    cases hm with
    | head => exact .inl hj
    | tail _ ht => exact .inr (ih ht)

theorem putD_intro {s : St} {d : Option Nat} {x : SV} {K : St → Prop} (hok : dstOk n d = true) (hk : K (setD s d x)) : putD n d x s K := by
  unfold putD
  cases d with
  | none => exact hk
  | some d => have hok : Nat.blt d n = true := hok; simp only [hok]; exact hk

theorem evPl_sound (hcall : CallOk P G call) {l : List (SOper × List Nat)} : ∀ {fuel : Nat} {done : List Nat} {plan : Plan} {pens : PenE} {pen : Pen} {ρ : Rho} {R : T LV} {s : St} {H : T Blk} {nx : Nat} {h : PHeap} {K : T LV → T Blk → Nat → Bool} {Q : St → PHeap → Prop},
    mkPlan P G n l fuel done = some plan → RR ρ R s → HR G ρ H nx h → NL s → PenR ρ pens pen → evPl call plan pens R H nx K = true → Goes G ρ nx (writesOf (l.map (·.1))) R s K Q → denA P n l Q fuel done pen s h
  | 0, done, plan, pens, pen, ρ, R, s, H, nx, h, K, Q, hc, hr, hh, hn, hp, he, hk => by
    unfold mkPlan at hc
    unfold denA
    split at hc
    · rename_i hrd
      cases hc
      rw [hrd]
      exact hk R s H nx ρ h (Nat.le_refl _) (Agr.refl _ _) hh hr hn (Same.refl _ _ _) he
    · cases hc
  | fuel + 1, done, plan, pens, pen, ρ, R, s, H, nx, h, K, Q, hc, hr, hh, hn, hp, he, hk => by
    unfold mkPlan at hc
    unfold denA
    split at hc
    · rename_i hrd
      cases hc
      rw [hrd]
      exact hk R s H nx ρ h (Nat.le_refl _) (Agr.refl _ _) hh hr hn (Same.refl _ _ _) he
    · rename_i hrd
      split
      · rename_i hrd2; exact absurd hrd2 hrd
      · split at hc
        · rename_i i o hft
          rw [hft]
          split at hc
          · rename_i e p h1 h2
            cases hc
            obtain ⟨hd, hg, hok, hop⟩ := cOper_inv h1
            obtain ⟨hmem, _⟩ := firstTake_mem hft
            obtain ⟨af, hml, _⟩ := readyL_mem hmem
            simp only [evPl] at he
            refine takeG_sound hr hh h1 hp he fun lv v pens' S b1 b2 b3 => ?_
            rw [hd] at b3
            obtain ⟨R', c1, d1, d2, d3⟩ := dstK_sound hr hn b1 b3
            refine putD_intro hok ?_
            exact evPl_sound hcall h2 d1 hh d2 b2 c1 fun R2 s2 H2 nx2 ρ2 h2 e1 e2 e3 e4 e5 e6 e7 =>
              hk R2 s2 H2 nx2 ρ2 h2 e1 e2 e3 e4 e5 (d3.trans e6 (fun j hj => mem_writesOf hml hj) (fun j hj => hj)) e7
          · cases hc
        · rename_i hft
          rw [hft]
          have one : ∀ {p : Nat × SOper} {pl : Plan}, p ∈ readyL done 0 l → (match cOper P G n p.2, mkPlan P G n l fuel (p.1 :: done) with
              | some o, some q => some (Plan.eff o (afOf l p.1) q)
              | _, _ => none) = some pl → evPl call pl pens R H nx K = true →
              denG P p.2 s h fun x s' h' => penOk l p.1 s' h' pen fun pen' => putD n p.2.dst x s' fun s'' => denA P n l Q fuel (p.1 :: done) pen' s'' h' := by
            intro p pl hmem hpl hev
            split at hpl
            · rename_i e q h1 h2
              cases hpl
              obtain ⟨hd, hg, hok, hop⟩ := cOper_inv h1
              obtain ⟨af, hml, _⟩ := readyL_mem hmem
              simp only [evPl] at hev
              refine evG_sound hcall hr hh h1 hev fun lv v H' nx' ρ' h' b1 b2 b3 b4 b5 => ?_
              have hle := hh.le b2
              obtain ⟨pens', pen', a1, a2, a3⟩ := penK_sound (s := s) b3 (hp.mono hle) b5
              refine a3 _ ?_
              rw [hd] at a1
              obtain ⟨R', c1, d1, d2, d3⟩ := dstK_sound (hr.mono hle) hn b4 a1
              refine putD_intro hok ?_
              exact evPl_sound hcall h2 d1 b3 d2 a2 c1 fun R2 s2 H2 nx2 ρ2 h2 e1 e2 e3 e4 e5 e6 e7 =>
                hk R2 s2 H2 nx2 ρ2 h2 (Nat.le_trans b1 e1) (b2.trans e2 b1) e3 e4 e5 (d3.trans e6 (fun j hj => mem_writesOf hml hj) (fun j hj => hj)) e7
            · cases hpl
          have all : ∀ (rs : List (Nat × SOper)) (pl : Plan), (∀ p ∈ rs, p ∈ readyL done 0 l) → brsP (fun p => match cOper P G n p.2, mkPlan P G n l fuel (p.1 :: done) with
              | some o, some q => some (Plan.eff o (afOf l p.1) q)
              | _, _ => none) rs = some pl → evPl call pl pens R H nx K = true →
              allR rs fun p => denG P p.2 s h fun x s' h' => penOk l p.1 s' h' pen fun pen' => putD n p.2.dst x s' fun s'' => denA P n l Q fuel (p.1 :: done) pen' s'' h' := by
            intro rs
            induction rs with
            | nil => intro pl _ hb _; cases hb
            | cons p rs ih =>
              intro pl hm hb hev
              cases rs with
              | nil => exact one (hm p List.mem_cons_self) hb hev
              | cons p2 rs =>
                unfold brsP at hb
                split at hb
                · rename_i a b ha hb2
                  cases hb
                  simp only [evPl] at hev
                  split at hev
                  · rename_i hev1
                    exact ⟨one (hm p List.mem_cons_self) ha hev1, ih b (fun q hq => hm q (List.mem_cons_of_mem _ hq)) hb2 hev⟩
                  · cases hev
                · cases hb
          exact all _ plan (fun p hp => hp) hc he
end
end Go.Ev
/- Code, loops, functions: the evaluator is sound. -/
namespace Go.Ev
open Go Go.Den

theorem memN_mem {x : Nat} : ∀ {l : List Nat}, memN x l = true ↔ x ∈ l
  | [] => by simp [memN]
  | y :: l => by
    unfold memN
    by_cases e : x = y
    · subst e; simp
    · rw [beqNe e]; simp [e, memN_mem (l := l)]

theorem subN_mem : ∀ {l m : List Nat}, subN l m = true → ∀ x ∈ l, x ∈ m
  | [], m, _, x, hx => by cases hx
  | y :: l, m, hs, x, hx => by
    simp only [subN, Bool.and_eq_true] at hs
    cases hx with
    | head => exact memN_mem.1 hs.1
    | tail _ ht => exact subN_mem hs.2 x ht

def noloc : SV → SV
  | .val v => .val v
  | _ => .junk

/-- The registers that a loop carries. -/
def carry (ws : List Nat) (f : Nat → SV) : List (Nat × SV) := ws.map fun j => (j, f j)

theorem lookN_carry {f : Nat → SV} : ∀ {ws : List Nat} {j : Nat}, lookN j (carry ws f) = if j ∈ ws then some (f j) else none
  | [], j => by simp [carry, lookN]
  | w :: ws, j => by
    unfold carry
    rw [List.map_cons, lookN]
    by_cases e : j = w
    · subst e; simp
    · rw [beqNe e, cond_false]
      have := lookN_carry (f := f) (ws := ws) (j := j)
      unfold carry at this
      rw [this]; simp [e]

theorem fitR_carry {f g : Nat → SV} : ∀ {ws : List Nat}, (∀ j ∈ ws, g j = f j) → fitR g (carry ws f)
  | [], _ => trivial
  | [w], h => h w (by simp)
  | w :: w2 :: ws, h => ⟨h w (by simp), fitR_carry (ws := w2 :: ws) fun j hj => h j (List.mem_cons_of_mem _ hj)⟩

theorem vOk_carry {k : Nat} {W : List Nat} {f : Nat → SV} (hf : ∀ j i o, f j ≠ .loc i o) : ∀ {ws : List Nat}, (∀ j ∈ ws, j ∈ W) → vOk k W (carry ws f)
  | [], _ => trivial
  | w :: ws, h => by
    have ih := vOk_carry (k := k) (W := W) hf (ws := ws) fun j hj => h j (List.mem_cons_of_mem _ hj)
    unfold carry at ih ⊢
    rw [List.map_cons]
    unfold vOk
    have h1 : memN w W = true := memN_mem.2 (h w List.mem_cons_self)
    simp only [h1, Bool.true_and]
    cases hw : f w with
    | loc i o => exact absurd hw (hf w i o)
    | val v => exact ih
    | junk => exact ih

theorem mkSt_regs (s : St) (ws : List Nat) (f : Nat → SV) (j : Nat) : (mkSt s ws (carry ws f) []).regs j = if j ∈ ws then f j else s.regs j := by
  unfold mkSt
  simp only [lookN_carry]
  by_cases e : j ∈ ws
  · simp [e]
  · have : memN j ws = false := by
      cases hb : memN j ws
      · rfl
      · exact absurd (memN_mem.1 hb) e
    simp [e, this]

structure LX where
  m : Nat
  R : T LV
  H : T Blk
  nx : Nat
  ρ : Rho
  f : Nat → SV

section
variable {P : Program} {G n lf : Nat} {call : CallE}

def GoesC (G : Nat) (ρ : Rho) (nx : Nat) (W : List Nat) (R : T LV) (s : St) (K : KC) (Q : Ex → St → PHeap → Prop) : Prop :=
  ∀ e R' s' H' nx' ρ' h', nx ≤ nx' → Agr nx ρ ρ' → HR G ρ' H' nx' h' → RR ρ' R' s' → NL s' → Same W R R' s s' → K e R' H' nx' = true → Q e s' h'

theorem evC_sound (hcall : CallOk P G call) : ∀ {sc : SCode} {ec : ECode} {ρ : Rho} {R : T LV} {s : St} {H : T Blk} {nx : Nat} {h : PHeap} {K : KC} {Q : Ex → St → PHeap → Prop},
    cC P G n sc = some ec → RR ρ R s → HR G ρ H nx h → NL s → evC call lf ec R H nx K = true → GoesC G ρ nx (swrites sc) R s K Q → den P n sc Q s h
  | .skip, ec, ρ, R, s, H, nx, h, K, Q, hc, hr, hh, hn, he, hk => by
    cases hc
    exact hk .normal R s H nx ρ h (Nat.le_refl _) (Agr.refl _ _) hh hr hn (Same.refl _ _ _) he
  | .bad, ec, ρ, R, s, H, nx, h, K, Q, hc, hr, hh, hn, he, hk => by cases hc; cases he
  | .ops l, ec, ρ, R, s, H, nx, h, K, Q, hc, hr, hh, hn, he, hk => by
    simp only [cC] at hc
    obtain ⟨es, h1, h2⟩ := map_some hc
    cases h2
    exact evL_sound hcall h1 hr hh hn he fun R' s' H' nx' ρ' h' e1 e2 e3 e4 e5 e6 e7 => hk .normal R' s' H' nx' ρ' h' e1 e2 e3 e4 e5 e6 e7
  | .draw l, ec, ρ, R, s, H, nx, h, K, Q, hc, hr, hh, hn, he, hk => by
    simp only [cC] at hc
    obtain ⟨p, h1, h2⟩ := map_some hc
    cases h2
    exact evPl_sound hcall h1 hr hh hn (pens := []) (pen := []) trivial he fun R' s' H' nx' ρ' h' e1 e2 e3 e4 e5 e6 e7 => hk .normal R' s' H' nx' ρ' h' e1 e2 e3 e4 e5 e6 e7
  | .seq a b, ec, ρ, R, s, H, nx, h, K, Q, hc, hr, hh, hn, he, hk => by
    simp only [cC] at hc
    split at hc
    · rename_i ea eb h1 h2
      cases hc
      simp only [evC] at he
      simp only [den]
      refine evC_sound hcall h1 hr hh hn he fun e R' s' H' nx' ρ' h' e1 e2 e3 e4 e5 e6 e7 => ?_
      have inl : ∀ j, j ∈ swrites a → j ∈ swrites (.seq a b) := fun j hj => by simp [swrites, hj]
      have inr : ∀ j, j ∈ swrites b → j ∈ swrites (.seq a b) := fun j hj => by simp [swrites, hj]
      cases e with
      | normal =>
        exact evC_sound hcall h2 e4 e3 e5 e7 fun e R2 s2 H2 nx2 ρ2 h2 f1 f2 f3 f4 f5 f6 f7 =>
          hk e R2 s2 H2 nx2 ρ2 h2 (Nat.le_trans e1 f1) (e2.trans f2 e1) f3 f4 f5 (e6.trans f6 inl inr) f7
      | exit k => exact hk _ R' s' H' nx' ρ' h' e1 e2 e3 e4 e5 (e6.mono inl) e7
      | ret => exact hk _ R' s' H' nx' ρ' h' e1 e2 e3 e4 e5 (e6.mono inl) e7
    · cases hc
  | .cond c a b, ec, ρ, R, s, H, nx, h, K, Q, hc, hr, hh, hn, he, hk => by
    simp only [cC] at hc
    split at hc
    · rename_i x ea eb h0 h1 h2
      cases hc
      simp only [evC] at he
      have inl : ∀ j, j ∈ swrites a → j ∈ swrites (.cond c a b) := fun j hj => by simp [swrites, hj]
      have inr : ∀ j, j ∈ swrites b → j ∈ swrites (.cond c a b) := fun j hj => by simp [swrites, hj]
      split at he
      · rename_i hx
        obtain ⟨v, hv, hvr⟩ := cX_ev hr hh.glob h0 hx
        cases hvr
        simp only [den, hv, br, litO_eq hv]
        exact evC_sound hcall h1 hr hh hn he fun e R2 s2 H2 nx2 ρ2 h2 f1 f2 f3 f4 f5 f6 f7 => hk e R2 s2 H2 nx2 ρ2 h2 f1 f2 f3 f4 f5 (f6.mono inl) f7
      · rename_i hx
        obtain ⟨v, hv, hvr⟩ := cX_ev hr hh.glob h0 hx
        cases hvr
        simp only [den, hv, br, litO_eq hv]
        exact evC_sound hcall h2 hr hh hn he fun e R2 s2 H2 nx2 ρ2 h2 f1 f2 f3 f4 f5 f6 f7 => hk e R2 s2 H2 nx2 ρ2 h2 f1 f2 f3 f4 f5 (f6.mono inr) f7
      · cases he
    · cases hc
  | .block id c, ec, ρ, R, s, H, nx, h, K, Q, hc, hr, hh, hn, he, hk => by
    simp only [cC] at hc
    obtain ⟨e0, h1, h2⟩ := map_some hc
    cases h2
    simp only [evC] at he
    simp only [den]
    refine evC_sound hcall h1 hr hh hn he fun e R' s' H' nx' ρ' h' e1 e2 e3 e4 e5 e6 e7 => ?_
    cases e with
    | normal => exact hk _ R' s' H' nx' ρ' h' e1 e2 e3 e4 e5 e6 e7
    | exit k =>
      simp only at e7 ⊢
      cases hb : Nat.beq k id <;> rw [hb] at e7
      · exact hk _ R' s' H' nx' ρ' h' e1 e2 e3 e4 e5 e6 e7
      · exact hk _ R' s' H' nx' ρ' h' e1 e2 e3 e4 e5 e6 e7
    | ret => exact hk _ R' s' H' nx' ρ' h' e1 e2 e3 e4 e5 e6 e7
  | .loop ws c, ec, ρ, R, s, H, nx, h, K, Q, hc, hr, hh, hn, he, hk => by
    simp only [cC] at hc
    split at hc
    · rename_i hsub
      have hsub := subN_mem hsub
      obtain ⟨e0, h1, h2⟩ := map_some hc
      cases h2
      simp only [evC] at he
      refine ⟨LX, fun x h => HR G x.ρ x.H x.nx h ∧ nx ≤ x.nx ∧ Agr nx ρ x.ρ ∧ loopE (fun R H nx K => evC call lf e0 R H nx K) x.m x.R x.H x.nx K = true ∧ RR x.ρ x.R (mkSt s ws (carry ws fun j => noloc (x.f j)) []) ∧ ∀ j, j ∉ ws → x.R.get j = R.get j,
        fun x => carry ws fun j => noloc (x.f j), fun _ => [], fun x _ => x.m, ⟨⟨lf, R, H, nx, ρ, s.regs⟩, ⟨hh, Nat.le_refl _, Agr.refl _ _, he, ?_, fun _ _ => rfl⟩, ?_, ?_⟩, fun x => vOk_carry (fun j i o => ?_) fun j hj => hj, fun x h hI => ?_⟩
      · intro j lv hj
        obtain ⟨v, hv, hvr⟩ := hr j lv hj
        refine ⟨v, ?_, hvr⟩
        rw [mkSt_regs]
        split
        · show noloc (s.regs j) = _; rw [hv]; rfl
        · exact hv
      · refine fitR_carry fun j _ => ?_
        show s.regs j = noloc (s.regs j)
        cases hs : s.regs j with
        | val v => rfl
        | loc i o => exact absurd hs (hn.2 j i o)
        | junk => rfl
      · rw [hn.1]; exact trivial
      · cases x.f j <;> simp [noloc]
      · obtain ⟨i1, i2, i3, i4, i5, i6⟩ := hI
        have hNL : NL (mkSt s ws (carry ws fun j => noloc (x.f j)) []) := by
          refine ⟨hn.1, fun j i o => ?_⟩
          rw [mkSt_regs]
          split
          · cases x.f j <;> simp [noloc]
          · exact hn.2 j i o
        cases hm : x.m with
        | zero => rw [hm] at i4; cases i4
        | succ m =>
          rw [hm] at i4
          simp only [loopE] at i4
          have outs : ∀ {e : Ex} {R' s' H' nx' ρ' h'}, x.nx ≤ nx' → Agr x.nx x.ρ ρ' → HR G ρ' H' nx' h' → RR ρ' R' s' → NL s' → Same (swrites c) x.R R' (mkSt s ws (carry ws fun j => noloc (x.f j)) []) s' → K e R' H' nx' = true → Q e s' h' := by
            intro e R' s' H' nx' ρ' h' f1 f2 f3 f4 f5 f6 f7
            refine hk e R' s' H' nx' ρ' h' (Nat.le_trans i2 f1) (i3.trans f2 i2) f3 f4 f5 (fun j hj => ?_) f7
            have hj1 : j ∉ ws := fun hm => hj (by simp [swrites, hm])
            have hj2 : j ∉ swrites c := fun hm => hj (by simp [swrites, hm])
            obtain ⟨g1, g2⟩ := f6 j hj2
            rw [mkSt_regs, if_neg hj1] at g2
            exact ⟨g1.trans (i6 j hj1), g2⟩
          refine evC_sound hcall h1 i5 i1 hNL i4 fun e R' s' H' nx' ρ' h' f1 f2 f3 f4 f5 f6 f7 => ?_
          cases e with
          | normal =>
            have hnol : ∀ j, noloc (s'.regs j) = s'.regs j := fun j => by
              cases hs : s'.regs j with
              | val v => rfl
              | loc i o => exact absurd hs (f5.2 j i o)
              | junk => rfl
            refine ⟨⟨m, R', H', nx', ρ', s'.regs⟩, ⟨f3, Nat.le_trans i2 f1, i3.trans f2 i2, f7, ?_, fun j hj => ?_⟩, ?_, fitR_carry fun j _ => (hnol j).symm, by rw [hn.1]; exact trivial⟩
            · intro j lv hj
              by_cases hjw : j ∈ ws
              · obtain ⟨v, hv, hvr⟩ := f4 j lv hj
                exact ⟨v, by rw [mkSt_regs, if_pos hjw, hnol]; exact hv, hvr⟩
              · have hj2 : j ∉ swrites c := fun hm => hjw (hsub j hm)
                obtain ⟨g1, g2⟩ := f6 j hj2
                have hg : R.get j = some lv := by rw [← i6 j hjw, ← g1]; exact hj
                obtain ⟨v, hv, hvr⟩ := hr j lv hg
                exact ⟨v, by rw [mkSt_regs, if_neg hjw]; exact hv, hvr.mono (hh.le (i3.trans f2 i2))⟩
            · have hj2 : j ∉ swrites c := fun hm => hj (hsub j hm)
              exact (f6 j hj2).1.trans (i6 j hj)
            · show m < x.m; omega
          | exit k => exact outs f1 f2 f3 f4 f5 f6 f7
          | ret => exact outs f1 f2 f3 f4 f5 f6 f7
    · cases hc
  | .exit k, ec, ρ, R, s, H, nx, h, K, Q, hc, hr, hh, hn, he, hk => by
    cases hc
    exact hk _ R s H nx ρ h (Nat.le_refl _) (Agr.refl _ _) hh hr hn (Same.refl _ _ _) he
  | .ret, ec, ρ, R, s, H, nx, h, K, Q, hc, hr, hh, hn, he, hk => by
    cases hc
    exact hk _ R s H nx ρ h (Nat.le_refl _) (Agr.refl _ _) hh hr hn (Same.refl _ _ _) he

theorem evR_sound {ρ : Rho} {R : T LV} {s : St} {H : T Blk} {nx : Nat} {h : PHeap} (hr : RR ρ R s) (hh : HR G ρ H nx h) : ∀ {rs : List SRes} {K : List LV → Bool} {Q : List Value → Prop}, evR R H (cRes rs) K = true →
    (∀ l l', LR ρ l l' → K l = true → Q l') → denRes s h rs Q
  | [], K, Q, he, hk => hk [] [] LR.nil he
  | .tmp t :: rs, K, Q, he, hk => by
    simp only [cRes, evR] at he
    split at he
    · rename_i lv hlv
      obtain ⟨v, hv, hvr⟩ := hr t lv hlv
      simp only [denRes, hv]
      exact evR_sound hr hh he fun l l' h1 h2 => hk _ _ (LR.cons hvr h1) h2
    · cases he
  | .cell x agg k :: rs, K, Q, he, hk => by
    simp only [cRes, evR] at he
    split at he
    · rename_i b o hlv
      obtain ⟨v, hv, hvr⟩ := hr x _ hlv
      cases hvr with
      | ptr hb =>
        obtain ⟨l, l', h1, h2, h3, h4⟩ := rowK_sound hh hb he
        obtain ⟨lv, h5, h6⟩ := packK_sound h2 h1
        simp only [denRes, hv]
        exact ⟨l', h3, h4, evR_sound hr hh h5 fun m m' g1 g2 => hk _ _ (LR.cons h6 g1) g2⟩
    · cases he

theorem retE_sound {ρ : Rho} {l : List LV} {l' : List Value} {K : LV → Bool} (hl : LR ρ l l') (he : retE l K = true) : ∃ lv, K lv = true ∧ VR ρ lv (retV l') := by
  unfold retE at he
  split at he
  · obtain ⟨v', r, rfl, hv, hr⟩ := hl.cons_inv
    rw [hr.nil_inv]
    exact ⟨_, he, hv⟩
  · rename_i hne
    refine ⟨_, he, ?_⟩
    have : retV l' = .tuple ⟨l'⟩ := by
      unfold retV
      split
      · rename_i v
        exfalso
        have h1 := hl.1
        match l, h1 with
        | [x], _ => exact hne x rfl
      · rfl
    rw [this]
    exact .tup hl.1 hl.2

/-- A function's entry in the table is its code. -/
def FnOk (P : Program) (G f : Nat) (e : EFn) : Prop := ∃ fn, P.funcs[f]? = some fn ∧ (fn.name == "runtime.NumGoroutine") = false ∧ cF P G fn = some e

theorem evB_sound (hm : P.follows .mixedOrders = true) {tab : T EFn} (ht : ∀ f e, tab.get f = some e → FnOk P G f e) {call : CallE} {k : Nat} (hcall : CallOk P G call) : CallOk P G (evB call k tab) :=
  fun f args args' H nx h ρ K Q hl hh he hq => by
    simp only [evB] at he
    split at he
    · rename_i e hte
      split at he
      · rename_i hnt
        rw [T.ofLK_eq] at he
        obtain ⟨fn, hf, hname, hcf⟩ := ht f e hte
        unfold cF at hcf
        split at hcf
        · rename_i c hb
          split at hcf
          · rename_i sc rs hlow hres
            split at hcf
            · rename_i ec hcc
              cases hcf
              have hlen : args.length = args'.length := hl.1
              have hnt : args.length ≤ fn.ntmps := by rw [← lenL_eq]; exact Nat.le_of_ble_eq_true hnt
              refine tri_of_den (fn := fn) (esc := fun _ => true) hm hf hb hname hlow hres (by rw [Nat.ble_eq, ← hlen]; exact hnt) ?_
              unfold denF
              have hRR : RR ρ (T.ofL args) (st0 args') := by
                intro j lv hj
                rw [T.ofL_get] at hj
                obtain ⟨v, hv, hvr⟩ := hl.get hj
                exact ⟨v, by simp only [st0, hv], hvr⟩
              have hNL : NL (st0 args') := ⟨rfl, fun j i o => by simp only [st0]; split <;> simp⟩
              refine evC_sound hcall hcc hRR hh hNL he fun ex R' s' H' nx' ρ' h' e1 e2 e3 e4 e5 e6 e7 => ?_
              have fin : evR R' H' (cRes rs) (fun vs => retE vs fun v => K v H' nx') = true → denRes s' h' rs fun vs => Q (retV vs) h' := fun h1 =>
                evR_sound e4 e3 h1 fun l l' g1 g2 => by
                  obtain ⟨lv, g3, g4⟩ := retE_sound g1 g2
                  exact hq lv _ H' nx' ρ' h' e1 e2 e3 g4 g3
              cases ex with
              | normal => exact fin e7
              | exit k => cases e7
              | ret => exact fin e7
            · cases hcf
          · cases hcf
        · cases hcf
      · cases he
    · cases he

/-- The known functions answer as they are said to, and leave memory alone. -/
def OraOk (P : Program) (ora : Ora) : Prop :=
  ∀ f o args r, ora.get f = some o → o args = some r → ∀ (ρ : Rho) (args' : List Value), LR ρ args args' → ∃ v, VR ρ r v ∧ ∀ h, Tri P f args' h fun v' h' => v' = v ∧ h' = h

theorem Tri.mono' {f : FuncId} {args : List Value} {h : PHeap} {Q Q' : Value → PHeap → Prop} (ht : Tri P f args h Q) (hq : ∀ v h', Q v h' → Q' v h') : Tri P f args h Q' := Tri.mono ht hq

theorem evF_sound (hm : P.follows .mixedOrders = true) {ora : Ora} (ho : OraOk P ora) {tab : T EFn} (ht : ∀ f e, tab.get f = some e → FnOk P G f e) : ∀ (k : Nat), CallOk P G (evF ora tab k)
  | 0 => fun f args args' H nx h ρ K Q _ _ he _ => by cases he
  | k + 1 => fun f args args' H nx h ρ K Q hl hh he hq => by
    simp only [evF] at he
    split at he
    · rename_i o hof
      split at he
      · rename_i r hor
        obtain ⟨v, hv, hT⟩ := ho f o args r hof hor ρ args' hl
        exact Tri.mono' (hT h) fun v' h' ⟨e1, e2⟩ => by
          subst e1; subst e2
          exact hq r v' H nx ρ h' (Nat.le_refl _) (Agr.refl _ _) hh hv he
      · exact evB_sound hm ht (evF_sound hm ho ht k) f args args' H nx h ρ K Q hl hh he hq
    · exact evB_sound hm ht (evF_sound hm ho ht k) f args args' H nx h ρ K Q hl hh he hq

theorem oraNone : OraOk P .lf := fun f o args r hf => by rw [T.get_l] at hf; cases hf

/-- A call that needs no memory needs none of the caller's. -/
theorem tri_frame {f : FuncId} {args : List Value} {Q : Value → Prop} (ht : Tri P f args (fun _ => none) fun v _ => Q v) (h : PHeap) : Tri P f args h fun v h' => Q v ∧ h' = h := by
  intro w hs
  have h1 := ht w (fun k o hk => by cases hk)
  unfold CallR at h1 ⊢
  have mono : ∀ {R R' : Value → World → Prop} (_ : ∀ v w, R v w → R' v w) (x : Result Next), uponR P R x → uponR P R' x := by
    intro R R' hrr x hx
    match x, hx with
    | .ok (.value v) w, hx => exact hrr v w hx
    | .ok (.enter f args) w, hx =>
      refine Calls.mono hx fun e w h => ?_
      cases e with
      | returned v => exact hrr v w h
      | _ => exact h
  refine mono (fun v w' hx => ?_) _ h1
  obtain ⟨h', hq, _, hk⟩ := hx
  have same : ∀ k, k < w.heap.size → w'.heap[k]? = w.heap[k]? := fun k hk' => (hk.out k hk' rfl).2
  refine ⟨h, ⟨hq, rfl⟩, fun k o hko => ?_, ⟨hk.os, hk.tape, hk.output, hk.size, fun k hk' hn => ⟨hn, same k hk'⟩⟩⟩
  have h2 := hs k o hko
  have hlt := (Array.getElem?_eq_some_iff.1 h2).1
  rw [same k hlt]; exact h2
end
end Go.Ev
namespace Go.Ev
open Go Go.Den
/-- What holds of all entries of a tree. -/
def T.AllP {α : Type} (p : Nat → α → Prop) : T α → (Nat → Nat) → Prop
  | .lf, _ => True
  | .nd a v b, g => (∀ x, v = some x → p (g 0) x) ∧ T.AllP p a (fun k => g (2 * k + 1)) ∧ T.AllP p b (fun k => g (2 * k + 2))

theorem T.AllP.get {α : Type} {p : Nat → α → Prop} : ∀ {t : T α} {g : Nat → Nat} {k : Nat} {x : α}, T.AllP p t g → t.get k = some x → p (g k) x
  | .lf, g, k, x, _, hk => by rw [T.get_l] at hk; cases hk
  | .nd a v b, g, 0, x, h, hk => h.1 x hk
  | .nd a v b, g, k + 1, x, h, hk => by
    rw [T.get_succ] at hk
    split at hk
    · rename_i he
      have := T.AllP.get h.2.1 hk
      have e : 2 * (k / 2) + 1 = k + 1 := by omega
      simp only [e] at this; exact this
    · rename_i he
      have := T.AllP.get h.2.2 hk
      have e : 2 * (k / 2) + 2 = k + 1 := by omega
      simp only [e] at this; exact this

/-- The package-level variables alone. -/
def rho0 (G : Nat) : Rho := fun b => if b < G then some (b, 0) else none

theorem HR.start (G : Nat) : HR G (rho0 G) .lf G (fun _ => none) where
  blk := fun b B rb κ hb => by rw [T.get_l] at hb; cases hb
  inj := fun b b' B B' rb κ κ' hb => by rw [T.get_l] at hb; cases hb
  fresh := fun b hb => by simp only [rho0]; rw [if_neg (by omega)]
  glob := fun g hg => by simp only [rho0]; rw [if_pos hg]

def isT (v : LV) (_ : T Blk) (_ : Nat) : Bool :=
  match v with
  | .bool true => true
  | _ => false

/-- A closed run that ends in true. -/
theorem closed_run {P : Program} {G : Nat} (hm : P.follows .mixedOrders = true) {ora : Ora} (ho : OraOk P ora) {tab : T EFn} (ht : ∀ f e, tab.get f = some e → FnOk P G f e) {k f : Nat} {args : List LV} {args' : List Value} (hl : LR (rho0 G) args args')
    (he : evF ora tab k f args .lf G isT = true) : Tri P f args' (fun _ => none) fun v _ => v = .bool true :=
  evF_sound hm ho ht k f args args' .lf G _ _ isT _ hl (HR.start G) he fun lv v H' nx' ρ' h' _ _ _ hv hT => by
    unfold isT at hT
    split at hT
    · cases hv; rfl
    · cases hT

/-- A known function without arguments. -/
theorem ora_const {P : Program} {f : Nat} (ht : Tri P f [] (fun _ => none) fun v _ => v = .bool true) (ρ : Rho) (args' : List Value) (hl : LR ρ [] args') :
    ∃ v, VR ρ (.bool true) v ∧ ∀ h, Tri P f args' h fun v' h' => v' = v ∧ h' = h := by
  rw [hl.nil_inv]
  exact ⟨_, .bool true, fun h => tri_frame ht h⟩
end Go.Ev
