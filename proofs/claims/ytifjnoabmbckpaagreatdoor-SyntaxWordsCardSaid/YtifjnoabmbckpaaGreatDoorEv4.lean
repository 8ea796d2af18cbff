import Derived.Test.YtifjnoabmbckpaaGreatDoorEv3
/- The evaluator's operations without effects, all together. -/
namespace Go.Ev
open Go Go.Den

theorem lenL_eq : ∀ (l : List LV), lenL l = l.length
  | [] => rfl
  | _ :: l => by simp [lenL, lenL_eq l]

theorem nthK_eq : ∀ (l : List LV) (i : Nat), nthK l i = l[i]?
  | [], _ => by simp [nthK]
  | x :: _, 0 => by simp [nthK]
  | _ :: l, i + 1 => by simp [nthK, nthK_eq l i]

theorem appL_eq : ∀ (l m : List LV), appL l m = l ++ m
  | [], _ => rfl
  | v :: l, m => by simp [appL, appL_eq l m]

theorem putL_sound : ∀ {o : Nat} {vs l : List LV} {K : List LV → Bool}, putL o vs l K = true → K (l.take o ++ vs ++ l.drop (o + vs.length)) = true ∧ o + vs.length ≤ l.length
  | 0, [], l, K, h => by simpa [putL] using h
  | 0, v :: vs, [], K, h => by simp [putL] at h
  | 0, v :: vs, x :: l, K, h => by
    obtain ⟨h1, h2⟩ := putL_sound (o := 0) (vs := vs) (l := l) h
    simp only [List.take_zero, List.nil_append, Nat.zero_add] at h1 h2
    refine ⟨?_, by simp; omega⟩
    have e : (v :: vs).length = vs.length + 1 := rfl
    simp only [List.take_zero, List.nil_append, Nat.zero_add, e, List.drop_succ_cons, List.cons_append]
    exact h1
  | o + 1, vs, [], K, h => by cases vs <;> simp [putL] at h
  | o + 1, vs, x :: l, K, h => by
    have h' : putL o vs l (fun r => K (x :: r)) = true := by cases vs <;> exact h
    obtain ⟨h1, h2⟩ := putL_sound h'
    refine ⟨?_, by simp; omega⟩
    rw [show o + 1 + vs.length = (o + vs.length) + 1 by omega]
    simpa using h1

theorem partK_sound : ∀ {o n : Nat} {l : List LV} {K : List LV → Bool}, partK o n l K = true → K ((l.drop o).take n) = true ∧ o + n ≤ l.length
  | 0, 0, l, K, h => by simpa [partK] using h
  | 0, n + 1, [], K, h => by simp [partK] at h
  | 0, n + 1, x :: l, K, h => by
    obtain ⟨h1, h2⟩ := partK_sound (o := 0) (n := n) (l := l) h
    exact ⟨by simpa using h1, by simp; omega⟩
  | o + 1, n, [], K, h => by cases n <;> simp [partK] at h
  | o + 1, n, x :: l, K, h => by
    have h' : partK o n l K = true := by cases n <;> exact h
    obtain ⟨h1, h2⟩ := partK_sound h'
    exact ⟨by simpa using h1, by simp; omega⟩

section
variable {P : Program} {G : Nat} {ρ : Rho} {R : T LV} {s : St}

theorem lvCells_LR {lv : LV} {v : Value} (h : VR ρ lv v) : LR ρ (lvCells lv) (cellsL v) := by
  cases h
  case agg l l' h1 h2 => exact ⟨h1, h2⟩
  all_goals
    refine LR.cons ?_ LR.nil
    first | (constructor <;> assumption) | (constructor)

theorem fillK_sound (hr : RR ρ R s) (hg : GR G ρ) : ∀ {ps : List (Nat × Nat × Operand)} {es : List (Nat × Nat × EX)} {cells : List LV} {cells' : List Value} {K : List LV → Bool},
    cParts G ps = some es → LR ρ cells cells' → fillK R es cells K = true → ∃ l l', K l = true ∧ LR ρ l l' ∧ ∀ (K' : List Value → Prop), K' l' → fillL s cells' ps K'
  | [], es, cells, cells', K, hc, hl, he => by cases hc; exact ⟨_, _, he, hl, fun K' h => h⟩
  | (o, n, x) :: ps, es, cells, cells', K, hc, hl, he => by
    simp only [cParts] at hc
    split at hc
    · rename_i e es' h1 h2
      cases hc
      simp only [fillK] at he
      split at he
      · rename_i lv hlv
        obtain ⟨v, hv, hvr⟩ := cX_ev hr hg h1 hlv
        split at he
        · rename_i hn
          have hn := Nat.eq_of_beq_eq_true hn
          rw [lenL_eq] at hn
          obtain ⟨h3, h4⟩ := putL_sound he
          have hcl := lvCells_LR hvr
          have hlr : LR ρ (cells.take o ++ lvCells lv ++ cells.drop (o + (lvCells lv).length)) (splice cells' o (cellsL v)) := by
            unfold splice
            rw [← hcl.1]
            exact ((hl.take o).append hcl).append (hl.drop _)
          obtain ⟨l, l', hk, hll, hf⟩ := fillK_sound hr hg h2 hlr h3
          refine ⟨l, l', hk, hll, fun K' hK => ?_⟩
          simp only [fillL, hv]
          have : (Nat.beq (cellsL v).length n && Nat.ble (o + n) cells'.length) = true := by
            rw [Bool.and_eq_true]
            refine ⟨?_, ?_⟩
            · rw [← hcl.1, hn]; exact beqSelf n
            · rw [Nat.ble_eq, ← hl.1]; omega
          rw [this]
          exact hf K' hK
        · cases he
      · cases he
    · cases hc

def Good (ρ : Rho) (P : Program) (s : St) (sop : SOp) (K : LV → Bool) : Prop :=
  ∃ lv v, K lv = true ∧ VR ρ lv v ∧ ∀ (h : PHeap) (K' : SV → St → PHeap → Prop), K' (.val v) s h → denOp P sop s h K'

theorem bndK_sound (hr : RR ρ R s) (hg : GR G ρ) {o : Option Operand} {e : Option EX} {d : Nat} {K : Nat → Bool} (hc : cO G o = some e) (he : bndK R e d K = true) :
    ∃ n : Nat, K n = true ∧ ∀ K' : Int → Prop, K' n → bnd s o d K' := by
  cases o with
  | none => cases hc; exact ⟨d, he, fun K' h => h⟩
  | some x =>
    simp only [cO] at hc
    cases hx : cX G x with
    | none => rw [hx] at hc; cases hc
    | some x' =>
      rw [hx] at hc; cases hc
      simp only [bndK] at he
      split at he
      · rename_i k n hev
        obtain ⟨v, hv, hvr⟩ := cX_ev hr hg hx hev
        cases hvr
        refine ⟨n, he, fun K' h => ?_⟩
        simp only [bnd, hv]
        exact h
      · cases he

theorem pv_un {f : Operand → Value} {op : UnOp} {lv : LV} {v : Value} {x : Operand} {t ty : TypeId} {K : LV → Bool} (hx : f x = v) (hv : VR ρ lv v) (h : unK op lv K = true) :
    ∃ lv' v', K lv' = true ∧ VR ρ lv' v' ∧ pureVal P (execOp f (mkO (.unOp op t x) ty)) = some v' := by
  cases op <;> simp only [unK] at h
  case not =>
    split at h
    · cases hv; rw [boolK_eq] at h
      exact ⟨_, _, h, .bool _, by simp [execOp, mkO, hx, Op.unary, pureVal, bind, Sem.bind, pure]⟩
    · cases h
  case neg =>
    split at h
    · cases hv; rw [wrapK_eq] at h
      exact ⟨_, _, h, .int _ _, by simp [execOp, mkO, hx, Op.unary, Op.intArith, pureVal, bind, Sem.bind, pure]; congr 1; show _ = (0 : Int) - _; omega⟩
    · cases h
  all_goals cases h

theorem bind_assoc' {α β γ : Type} (f : α → Sem β) (g : β → Sem γ) : ∀ (m : Sem α), (m.bind f).bind g = m.bind fun a => (f a).bind g
  | .pure a => rfl
  | .load m a k => by simp only [Sem.bind]; congr 1; funext v; exact bind_assoc' f g (k v)
  | .store m a v k => by simp only [Sem.bind]; congr 1; exact bind_assoc' f g k
  | .new o k => by simp only [Sem.bind]; congr 1; funext v; exact bind_assoc' f g (k v)
  | .shape r k => by simp only [Sem.bind]; congr 1; funext v; exact bind_assoc' f g (k v)
  | .freeze a n k => by simp only [Sem.bind]; congr 1; exact bind_assoc' f g k
  | .frozen a k => by simp only [Sem.bind]; congr 1; funext v; exact bind_assoc' f g (k v)
  | .getObj r k => by simp only [Sem.bind]; congr 1; funext v; exact bind_assoc' f g (k v)
  | .setObj r o k => by simp only [Sem.bind]; congr 1; exact bind_assoc' f g k
  | .choose q k => by simp only [Sem.bind]; congr 1; funext v; exact bind_assoc' f g (k v)
  | .sys c k => by simp only [Sem.bind]; congr 1; funext v; exact bind_assoc' f g (k v)
  | .program k => by simp only [Sem.bind]; congr 1; funext v; exact bind_assoc' f g (k v)
  | .mark m k => by simp only [Sem.bind]; congr 1; exact bind_assoc' f g k
  | .halt h => rfl

/-- The type's class of nil. -/
def clsT : TypeDesc → Nat
  | .pointer _ => 0
  | .slice _ => 1
  | .map _ _ => 2
  | .func .. => 3
  | _ => 4

theorem eq_run {t : TypeId} {d : TypeDesc} (hu : P.underlying t = some d) {a b : LV} {va vb : Value} {r : Bool} (ha : VR ρ a va) (hb : VR ρ b vb) (h : nilEq (clsT d) a b = some r) (k : Bool → Sem Next) :
    pureVal P ((Op.equal t va vb).bind k) = pureVal P (k r) := by
  have e : Op.equal t va vb = Op.equalIn (9999 + 1) t va vb := rfl
  rw [e, Op.equalIn]
  cases d <;> simp only [clsT] at h
  case pointer e => cases ha <;> simp [nilEq, isNil] at h <;> cases hb <;> simp at h <;> subst h <;> simp [underlying, program, bind, Sem.bind, pureVal, hu, pure]
  case slice e => cases ha <;> simp [nilEq, isNil] at h <;> cases hb <;> simp at h <;> subst h <;> simp [underlying, program, bind, Sem.bind, pureVal, hu, pure]
  case map k e => cases ha <;> simp [nilEq, isNil] at h <;> cases hb <;> simp at h <;> subst h <;> simp [underlying, program, bind, Sem.bind, pureVal, hu, pure]
  case func x y z => cases ha <;> simp [nilEq, isNil] at h <;> cases hb <;> simp at h <;> subst h <;> simp [underlying, program, bind, Sem.bind, pureVal, hu, pure]
  all_goals simp [nilEq, isNil] at h

theorem nil_guard {c : Nat} {a b : LV} {va vb : Value} {r : Bool} (ha : VR ρ a va) (hb : VR ρ b vb) (h : nilEq c a b = some r) (op : BinOp) (t : TypeId) (x y : Operand) :
    eqGuard op t x y va vb = pure () ∧ binOp .eql t va vb = (Op.equal t va vb).bind (fun b => .pure (.bool b)) ∧ binOp .neq t va vb = (Op.equal t va vb).bind (fun b => .pure (.bool (!b))) := by
  unfold eqGuard
  match c, h with
  | 0, h => cases ha <;> simp [nilEq, isNil] at h <;> cases hb <;> simp at h <;> exact ⟨by cases op <;> rfl, rfl, rfl⟩
  | 1, h => cases ha <;> simp [nilEq, isNil] at h <;> cases hb <;> simp at h <;> exact ⟨by cases op <;> rfl, rfl, rfl⟩
  | 2, h => cases ha <;> simp [nilEq, isNil] at h <;> cases hb <;> simp at h <;> exact ⟨by cases op <;> rfl, rfl, rfl⟩
  | 3, h => cases ha <;> simp [nilEq, isNil] at h <;> cases hb <;> simp at h <;> exact ⟨by cases op <;> rfl, rfl, rfl⟩
  | _ + 4, h => simp [nilEq, isNil] at h

theorem nilEq_sound {a b : LV} {va vb : Value} {r : Bool} (ha : VR ρ a va) (hb : VR ρ b vb) {t : TypeId} {d : TypeDesc} (hu : P.underlying t = some d) (h : nilEq (clsT d) a b = some r)
    {f : Operand → Value} {x y : Operand} (hx : f x = va) (hy : f y = vb) {yt ty : TypeId} :
    pureVal P (execOp f (mkO (.binOp .eql t x y yt) ty)) = some (.bool r) ∧ pureVal P (execOp f (mkO (.binOp .neq t x y yt) ty)) = some (.bool (!r)) := by
  constructor
  · obtain ⟨h1, h2, _⟩ := nil_guard ha hb h .eql t x y
    have : execOp f (mkO (.binOp .eql t x y yt) ty) = (Op.equal t va vb).bind fun b => .pure (.value (.bool b)) := by
      simp only [execOp, mkO, hx, hy, h1, h2]
      show (Sem.bind _ _).bind _ = _
      rw [bind_assoc']
      show Sem.bind (Sem.bind _ _) _ = _
      rw [bind_assoc']; rfl
    rw [this, eq_run hu ha hb h]; rfl
  · obtain ⟨h1, _, h2⟩ := nil_guard ha hb h .neq t x y
    have : execOp f (mkO (.binOp .neq t x y yt) ty) = (Op.equal t va vb).bind fun b => .pure (.value (.bool (!b))) := by
      simp only [execOp, mkO, hx, hy, h1, h2]
      show (Sem.bind _ _).bind _ = _
      rw [bind_assoc']
      show Sem.bind (Sem.bind _ _) _ = _
      rw [bind_assoc']; rfl
    rw [this, eq_run hu ha hb h]; rfl

theorem pv_eqB {neg a b : Bool} {t : TypeId} (hu : P.underlying t = some .bool) {f : Operand → Value} {x y : Operand} (hx : f x = .bool a) (hy : f y = .bool b) {yt ty : TypeId} :
    pureVal P (execOp f (mkO (.binOp (if neg then .neq else .eql) t x y yt) ty)) = some (.bool (if neg then !(a == b) else (a == b))) := by
  have e : Op.equal t (.bool a) (.bool b) = Op.equalIn (9999 + 1) t (.bool a) (.bool b) := rfl
  have run : ∀ k : Bool → Sem Next, pureVal P ((Op.equal t (.bool a) (.bool b)).bind k) = pureVal P (k (a == b)) := by
    intro k
    rw [e, Op.equalIn]
    simp [underlying, program, bind, Sem.bind, pureVal, hu, pure]
  cases neg
  · have : execOp f (mkO (.binOp .eql t x y yt) ty) = (Op.equal t (.bool a) (.bool b)).bind fun b => .pure (.value (.bool b)) := by
      simp only [execOp, mkO, hx, hy]
      show (Sem.bind _ _).bind _ = _
      rw [bind_assoc']
      show Sem.bind (Sem.bind _ _) _ = _
      rw [bind_assoc']; rfl
    simp only [Bool.false_eq_true, if_false]
    rw [this, run]; rfl
  · have : execOp f (mkO (.binOp .neq t x y yt) ty) = (Op.equal t (.bool a) (.bool b)).bind fun b => .pure (.value (.bool (!b))) := by
      simp only [execOp, mkO, hx, hy]
      show (Sem.bind _ _).bind _ = _
      rw [bind_assoc']
      show Sem.bind (Sem.bind _ _) _ = _
      rw [bind_assoc']; rfl
    simp only [if_true]
    rw [this, run]; rfl
end
end Go.Ev
