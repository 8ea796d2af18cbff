import Derived.Test.YtifjnoabmbckpaaGreatDoorEv2
/- The evaluator's operations without effects mean what the lowered code means. -/
namespace Go.Ev
open Go Go.Den

/-! ### Relations -/

def ER (ρ : Rho) (es : List (LV × LV × Nat)) (es' : List MapEntry) : Prop :=
  es.length = es'.length ∧ ∀ (i : Nat) e e', es[i]? = some e → es'[i]? = some e' → VR ρ e.1 e'.key ∧ VR ρ e.2.1 e'.val ∧ e'.born = e.2.2

def BR (ρ : Rho) (κ : Nat) : Blk → Obj → Prop
  | .cells t k n c, o => ∃ l rest, o = .cells ⟨l ++ rest⟩ t (0, 0) ∧ l.length = n ∧ rest.length = κ * k ∧ ∀ i, i < n → ∃ lv v, c.get i = some lv ∧ l[i]? = some v ∧ VR ρ lv v
  | .map es clock, o => ∃ es', o = .map ⟨es'⟩ clock ∧ ER ρ es es'

structure HR (G : Nat) (ρ : Rho) (H : T Blk) (nx : Nat) (h : PHeap) : Prop where
  blk : ∀ b B rb κ, H.get b = some B → ρ b = some (rb, κ) → ∃ o, h rb = some o ∧ BR ρ κ B o
  inj : ∀ b b' B B' rb κ κ', H.get b = some B → H.get b' = some B' → ρ b = some (rb, κ) → ρ b' = some (rb, κ') → b = b'
  fresh : ∀ b, nx ≤ b → ρ b = none
  glob : ∀ g, g < G → ρ g = some (g, 0)

def RR (ρ : Rho) (R : T LV) (s : St) : Prop := ∀ j lv, R.get j = some lv → ∃ v, s.regs j = .val v ∧ VR ρ lv v

def GR (G : Nat) (ρ : Rho) : Prop := ∀ g, g < G → ρ g = some (g, 0)

def Agr (nx : Nat) (ρ ρ' : Rho) : Prop := ∀ b, b < nx → ρ' b = ρ b

theorem Agr.refl (nx : Nat) (ρ : Rho) : Agr nx ρ ρ := fun _ _ => rfl
theorem Agr.trans {n m : Nat} {ρ1 ρ2 ρ3 : Rho} (h1 : Agr n ρ1 ρ2) (h2 : Agr m ρ2 ρ3) (h : n ≤ m) : Agr n ρ1 ρ3 := fun b hb => (h2 b (Nat.lt_of_lt_of_le hb h)).trans (h1 b hb)
theorem Agr.le {n : Nat} {ρ ρ' : Rho} (h : Agr n ρ ρ') (hf : ∀ b, n ≤ b → ρ b = none) : Le ρ ρ' := fun b x hx => by
  by_cases hb : b < n
  · rw [h b hb]; exact hx
  · rw [hf b (Nat.le_of_not_lt hb)] at hx; cases hx

theorem RR.mono {ρ ρ' : Rho} (hle : Le ρ ρ') {R : T LV} {s : St} (h : RR ρ R s) : RR ρ' R s := fun j lv hj => by
  obtain ⟨v, h1, h2⟩ := h j lv hj; exact ⟨v, h1, h2.mono hle⟩

/-! ### Constants and operands -/

theorem lv0_VR {ρ : Rho} {v : Value} {lv : LV} (h : lv0 v = some lv) : VR ρ lv v := by
  unfold lv0 at h
  split at h <;> first | cases h | skip
  all_goals try constructor
  · rename_i l
    have := VR.str (ρ := ρ) l.length (natOf l)
    rw [bytesOf_natOf] at this
    exact this
  · rfl
  · rfl
  · intro i v v' h; simp at h
  · intro i v v' h; simp at h
  · rfl
  · intro i v v' h; simp at h

theorem lvs0_LR {ρ : Rho} : ∀ {l : List Value} {xs : List LV}, lvs0 l = some xs → LR ρ xs l
  | [], xs, h => by cases h; exact LR.nil
  | v :: l, xs, h => by
    simp only [lvs0] at h
    split at h
    · rename_i x ys h1 h2; cases h; exact LR.cons (lv0_VR h1) (lvs0_LR h2)
    · cases h

theorem toLV_VR {ρ : Rho} {v : Value} {lv : LV} (h : toLV v = some lv) : VR ρ lv v := by
  unfold toLV at h
  split at h
  · rename_i l
    cases hx : lvs0 l with
    | none => rw [hx] at h; cases h
    | some xs => rw [hx] at h; cases h; have := lvs0_LR (ρ := ρ) hx; exact .agg this.1 this.2
  · exact lv0_VR h

section
variable {P : Program} {G : Nat} {ρ : Rho} {R : T LV} {s : St}

theorem cX_ev (hr : RR ρ R s) (hg : GR G ρ) {x : Operand} {e : EX} {lv : LV} (hc : cX G x = some e) (he : e.ev R = some lv) : ∃ v, s.ev x = .val v ∧ VR ρ lv v := by
  cases x with
  | tmp t => cases hc; exact hr t lv he
  | const v =>
    simp only [cX] at hc
    cases hx : toLV v with
    | none => rw [hx] at hc; cases hc
    | some x => rw [hx] at hc; cases hc; cases he; exact ⟨v, rfl, toLV_VR hx⟩
  | global g =>
    simp only [cX] at hc
    split at hc
    · rename_i hb; cases hc; cases he; exact ⟨_, rfl, .ptr (hg g (Nat.blt_eq.mp hb))⟩
    · cases hc
  | func f => cases hc; cases he; exact ⟨_, rfl, .fn rfl rfl (fun i v v' h => by simp at h) (fun i v v' h => by simp at h)⟩

theorem cXs_allVal (hr : RR ρ R s) (hg : GR G ρ) : ∀ {l : List Operand} {es : List EX} {K : List LV → Bool}, cXs G l = some es → evsK R es K = true →
    ∃ lvs, K lvs = true ∧ allVal s l = true ∧ LR ρ lvs (vals s l)
  | [], es, K, hc, he => by cases hc; exact ⟨[], he, rfl, LR.nil⟩
  | x :: l, es, K, hc, he => by
    simp only [cXs] at hc
    split at hc
    · rename_i e es' h1 h2
      cases hc
      simp only [evsK] at he
      split at he
      · rename_i lv hlv
        obtain ⟨v, hv, hvr⟩ := cX_ev hr hg h1 hlv
        obtain ⟨lvs, hk, ha, hl⟩ := cXs_allVal hr hg h2 he
        refine ⟨_, hk, ?_, ?_⟩
        · simp [allVal, hv, ha]
        · simp only [vals, St.vv, hv]; exact LR.cons hvr hl
      · cases he
    · cases hc
end

/-! ### Numbers -/

theorem natK_eq (n : Nat) (K : Nat → Bool) : natK n K = K n := by cases n <;> rfl
theorem intK_eq (n : Int) (K : Int → Bool) : intK n K = K n := by cases n <;> simp [intK, natK_eq]
theorem boolK_eq (b : Bool) (K : LV → Bool) : boolK b K = K (.bool b) := by cases b <;> rfl

theorem wrap_i64 (n : Int) (h1 : -9223372036854775808 ≤ n) (h2 : n < 9223372036854775808) : IntKind.i64.wrap n = n := by
  show (if (true && decide (n % 18446744073709551616 ≥ 9223372036854775808)) = true then n % 18446744073709551616 - 18446744073709551616 else n % 18446744073709551616) = n
  split <;> rename_i hh <;> simp at hh <;> omega

theorem wrap_u8 (n : Int) (h1 : 0 ≤ n) (h2 : n < 256) : IntKind.u8.wrap n = n := by
  show (if (false && decide (n % 256 ≥ 128)) = true then n % 256 - 256 else n % 256) = n
  split <;> rename_i hh <;> simp at hh <;> omega

theorem wrap_u32 (n : Int) (h1 : 0 ≤ n) (h2 : n < 4294967296) : IntKind.u32.wrap n = n := by
  show (if (false && decide (n % 4294967296 ≥ 2147483648)) = true then n % 4294967296 - 4294967296 else n % 4294967296) = n
  split <;> rename_i hh <;> simp at hh <;> omega

theorem wrap_u64 (n : Int) (h1 : 0 ≤ n) (h2 : n < 18446744073709551616) : IntKind.u64.wrap n = n := by
  show (if (false && decide (n % 18446744073709551616 ≥ 9223372036854775808)) = true then n % 18446744073709551616 - 18446744073709551616 else n % 18446744073709551616) = n
  split <;> rename_i hh <;> simp at hh <;> omega

theorem inR_wrap {k : IntKind} {i : Int} (h : inR k i = true) : k.wrap i = i := by
  cases k <;> cases i <;> simp only [inR] at h
  all_goals try (exfalso; exact Bool.noConfusion h)
  all_goals
    rename_i n
    have h := Nat.blt_eq.mp h
  · have e : (Int.ofNat n) = (n : Int) := rfl
    rw [e]; exact wrap_i64 _ (by omega) (by omega)
  · have e : (Int.negSucc n) = -(n : Int) - 1 := by rw [Int.negSucc_eq]; omega
    rw [e]; exact wrap_i64 _ (by omega) (by omega)
  · have e : (Int.ofNat n) = (n : Int) := rfl
    rw [e]; exact wrap_u8 _ (by omega) (by omega)
  · have e : (Int.ofNat n) = (n : Int) := rfl
    rw [e]; exact wrap_u32 _ (by omega) (by omega)
  · have e : (Int.ofNat n) = (n : Int) := rfl
    rw [e]; exact wrap_u64 _ (by omega) (by omega)

theorem wrapK_eq (k : IntKind) (i : Int) (K : Int → Bool) : wrapK k i K = K (k.wrap i) := by
  simp only [wrapK, intK_eq]
  split
  · rename_i h; rw [inR_wrap h]
  · rfl

theorem eqI_eq (a b : Int) : eqI a b = (a == b) := by
  cases a with
  | ofNat m => cases b with
    | ofNat n =>
      simp only [eqI]
      rw [Bool.eq_iff_iff]; simp [Nat.beq_eq]; omega
    | negSucc n => simp [eqI]
  | negSucc m => cases b with
    | ofNat n => simp [eqI]
    | negSucc n =>
      simp only [eqI]
      rw [Bool.eq_iff_iff]; simp [Nat.beq_eq]

theorem ltI_eq (a b : Int) : ltI a b = decide (a < b) := by
  cases a with
  | ofNat m => cases b with
    | ofNat n => simp only [ltI]; rw [Bool.eq_iff_iff, Nat.blt_eq]; simp
    | negSucc n => simp only [ltI]; symm; rw [decide_eq_false_iff_not]; have := Int.negSucc_lt_zero n; have : (Int.ofNat m) ≥ 0 := Int.natCast_nonneg m; omega
  | negSucc m => cases b with
    | ofNat n => simp only [ltI]; symm; rw [decide_eq_true_eq]; have := Int.negSucc_lt_zero m; have : (Int.ofNat n) ≥ 0 := Int.natCast_nonneg n; omega
    | negSucc n => simp only [ltI]; rw [Bool.eq_iff_iff, Nat.blt_eq]; simp only [decide_eq_true_eq, Int.negSucc_eq]; omega

theorem leI_eq (a b : Int) : leI a b = decide (a ≤ b) := by
  cases a with
  | ofNat m => cases b with
    | ofNat n => simp only [leI]; rw [Bool.eq_iff_iff, Nat.ble_eq]; simp
    | negSucc n => simp only [leI]; symm; rw [decide_eq_false_iff_not]; have := Int.negSucc_lt_zero n; have : (Int.ofNat m) ≥ 0 := Int.natCast_nonneg m; omega
  | negSucc m => cases b with
    | ofNat n => simp only [leI]; symm; rw [decide_eq_true_eq]; have := Int.negSucc_lt_zero m; have : (Int.ofNat n) ≥ 0 := Int.natCast_nonneg n; omega
    | negSucc n => simp only [leI]; rw [Bool.eq_iff_iff, Nat.ble_eq]; simp only [decide_eq_true_eq, Int.negSucc_eq]; omega

theorem kNo_inj {j k : IntKind} (h : Nat.beq (kNo j) (kNo k) = true) : j = k := by
  cases j <;> cases k <;> first | rfl | (simp [kNo] at h)

theorem bitsN_eq (k : IntKind) (i : Int) : (BitVec.ofInt k.bits i).toNat = bitsN k i := by
  rw [BitVec.toNat_ofInt]
  cases i with
  | ofNat n =>
    simp only [bitsN]
    have e : (Int.ofNat n) = (n : Int) := rfl
    rw [e, ← Int.natCast_emod, Int.toNat_natCast]; rfl
  | negSucc n =>
    show _ = (2 ^ k.bits - 1) - n % 2 ^ k.bits
    have hp : 0 < 2 ^ k.bits := Nat.two_pow_pos _
    generalize 2 ^ k.bits = m at *
    have hp' : (0 : Int) < m := by omega
    have h2 : n % m < m := Nat.mod_lt _ hp
    have h3 : (Int.negSucc n) % (m : Int) = (m : Int) - 1 - (n % m : Nat) := by
      rw [Int.negSucc_emod _ hp']; simp [Int.natCast_emod]
    rw [h3]
    omega

theorem bitsI (k : IntKind) (i : Int) : (i % 2 ^ k.bits).toNat = bitsN k i := by
  have := bitsN_eq k i
  rw [BitVec.toNat_ofInt] at this
  simpa using this

def isInt : Value → Option (IntKind × Int)
  | .int k n => some (k, n)
  | _ => none

section
variable {P : Program} {ρ : Rho} {f : Operand → Value}

theorem pv_bin {op : BinOp} {k : IntKind} {a b : Int} {x y : Operand} {t yt ty : TypeId} {K : LV → Bool} (hx : f x = .int k a) (hy : f y = .int k b) (h : binK op k a b K = true) :
    ∃ lv v, K lv = true ∧ VR ρ lv v ∧ pureVal P (execOp f (mkO (.binOp op t x y yt) ty)) = some v := by
  cases op <;> simp only [binK, wrapK_eq, intK_eq, boolK_eq, eqI_eq, ltI_eq, leI_eq] at h
  case add => exact ⟨_, _, h, .int _ _, by simp [execOp, mkO, eqGuard, binOp, hx, hy, Op.intArith, pureVal, bind, Sem.bind, pure] <;> rfl⟩
  case sub => exact ⟨_, _, h, .int _ _, by simp [execOp, mkO, eqGuard, binOp, hx, hy, Op.intArith, pureVal, bind, Sem.bind, pure] <;> rfl⟩
  case mul => exact ⟨_, _, h, .int _ _, by simp [execOp, mkO, eqGuard, binOp, hx, hy, Op.intArith, pureVal, bind, Sem.bind, pure] <;> rfl⟩
  case quo =>
    split at h
    · cases h
    · rename_i h0
      have h0 : b ≠ 0 := by simpa using h0
      exact ⟨_, _, h, .int _ _, by simp [execOp, mkO, eqGuard, binOp, hx, hy, Op.intDiv, h0, pureVal, bind, Sem.bind, pure]⟩
  case rem =>
    split at h
    · cases h
    · rename_i h0
      have h0 : b ≠ 0 := by simpa using h0
      exact ⟨_, _, h, .int _ _, by simp [execOp, mkO, eqGuard, binOp, hx, hy, Op.intDiv, h0, pureVal, bind, Sem.bind, pure]⟩
  case and => exact ⟨_, _, h, .int _ _, by simp [execOp, mkO, eqGuard, binOp, hx, hy, Op.intBits, pureVal, bind, Sem.bind, pure, BitVec.toNat_and, bitsI] <;> rfl⟩
  case or => exact ⟨_, _, h, .int _ _, by simp [execOp, mkO, eqGuard, binOp, hx, hy, Op.intBits, pureVal, bind, Sem.bind, pure, BitVec.toNat_or, bitsI] <;> rfl⟩
  case xor => exact ⟨_, _, h, .int _ _, by simp [execOp, mkO, eqGuard, binOp, hx, hy, Op.intBits, pureVal, bind, Sem.bind, pure, BitVec.toNat_xor, bitsI] <;> rfl⟩
  case andNot => cases h
  case shl => cases h
  case shr => cases h
  case eql => exact ⟨_, _, h, .bool _, by simp [execOp, mkO, eqGuard, binOp, hx, hy, Op.intCmp, pureVal, bind, Sem.bind, pure]⟩
  case neq => exact ⟨_, _, h, .bool _, by simp [execOp, mkO, eqGuard, binOp, hx, hy, Op.intCmp, pureVal, bind, Sem.bind, pure, bne]⟩
  case lss => exact ⟨_, _, h, .bool _, by simp [execOp, mkO, eqGuard, binOp, hx, hy, Op.intCmp, pureVal, bind, Sem.bind, pure]⟩
  case leq => exact ⟨_, _, h, .bool _, by simp [execOp, mkO, eqGuard, binOp, hx, hy, Op.intCmp, pureVal, bind, Sem.bind, pure]⟩
  case gtr => exact ⟨_, _, h, .bool _, by simp [execOp, mkO, eqGuard, binOp, hx, hy, Op.intCmp, pureVal, bind, Sem.bind, pure]⟩
  case geq => exact ⟨_, _, h, .bool _, by simp [execOp, mkO, eqGuard, binOp, hx, hy, Op.intCmp, pureVal, bind, Sem.bind, pure]⟩

theorem pv_shift {left : Bool} {k k' : IntKind} {a b : Int} {x y : Operand} {t yt ty : TypeId} {K : LV → Bool} (hx : f x = .int k a) (hy : f y = .int k' b) (h : shiftK left k a b K = true) :
    ∃ lv v, K lv = true ∧ VR ρ lv v ∧ pureVal P (execOp f (mkO (.binOp (if left then .shl else .shr) t x y yt) ty)) = some v := by
  unfold shiftK at h
  split at h
  · cases h
  · rename_i n
    split at h
    · cases h
    · rename_i hle
      have hle := Nat.le_of_ble_eq_true hle
      have hn : ¬ ((Int.ofNat n) < 0) := by have : (Int.ofNat n) ≥ 0 := Int.natCast_nonneg n; omega
      have hm : min (Int.ofNat n).toNat k.bits = n := by simp; omega
      split at h
      · rw [wrapK_eq] at h
        refine ⟨_, _, h, .int _ _, ?_⟩
        have : a.mul (Int.ofNat (Nat.pow 2 n)) = a * 2 ^ n := by
          show a * ((2 ^ n : Nat) : Int) = _
          rw [Int.natCast_pow]; rfl
        rw [this]
        simp only [if_true, execOp, mkO, eqGuard, binOp, hx, hy, Op.shift, if_neg hn, hm]
        rfl
      · split at h
        · rename_i m
          rw [natK_eq] at h
          refine ⟨_, _, h, .int _ _, ?_⟩
          have : (Int.ofNat m).fdiv (2 ^ n) = Int.ofNat (m / 2 ^ n) := by
            have e : (2 : Int) ^ n = ((2 ^ n : Nat) : Int) := by rw [Int.natCast_pow]; rfl
            rw [e]
            show ((m : Int)).fdiv _ = ((m / 2 ^ n : Nat) : Int)
            rw [Int.fdiv_eq_ediv_of_nonneg _ (Int.natCast_nonneg _), ← Int.natCast_ediv]
          simp only [Bool.false_eq_true, if_false, execOp, mkO, eqGuard, binOp, hx, hy, Op.shift, if_neg hn, hm, this]
          rfl
        · cases h
end
end Go.Ev
