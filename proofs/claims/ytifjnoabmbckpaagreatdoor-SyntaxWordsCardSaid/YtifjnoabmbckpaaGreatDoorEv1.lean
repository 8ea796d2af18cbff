import Derived.Test.YtifjnoabmbckpaaGreatDoorDenLib
/- A closed evaluator over the lowered code: trees, values, numbers, strings. -/
namespace Go.Ev
open Go Go.Den

/-! ### Trees -/

inductive T (α : Type) where
  | lf : T α
  | nd (a : T α) (v : Option α) (b : T α) : T α

section
variable {α : Type}

def T.get : T α → Nat → Option α
  | .lf, _ => none
  | .nd _ v _, 0 => v
  | .nd a _ b, k + 1 => match Nat.mod k 2 with
    | 0 => a.get (Nat.div k 2)
    | _ + 1 => b.get (Nat.div k 2)

def T.putK (x : Option α) : Nat → T α → Nat → (T α → Bool) → Bool
  | 0, _, _, _ => false
  | _ + 1, .lf, 0, K => K (.nd .lf x .lf)
  | d + 1, .lf, k + 1, K => match Nat.mod k 2 with
    | 0 => putK x d .lf (Nat.div k 2) fun a => K (.nd a none .lf)
    | _ + 1 => putK x d .lf (Nat.div k 2) fun b => K (.nd .lf none b)
  | _ + 1, .nd a _ b, 0, K => K (.nd a x b)
  | d + 1, .nd a v b, k + 1, K => match Nat.mod k 2 with
    | 0 => putK x d a (Nat.div k 2) fun a => K (.nd a v b)
    | _ + 1 => putK x d b (Nat.div k 2) fun b => K (.nd a v b)

theorem T.get_l (k : Nat) : (T.lf : T α).get k = none := by cases k <;> rfl
theorem T.get_zero (a b : T α) (v : Option α) : (T.nd a v b).get 0 = v := rfl
theorem T.get_succ (a b : T α) (v : Option α) (k : Nat) : (T.nd a v b).get (k + 1) = if k % 2 = 0 then a.get (k / 2) else b.get (k / 2) := by
  have : (T.nd a v b).get (k + 1) = match k % 2 with
    | 0 => a.get (k / 2)
    | _ + 1 => b.get (k / 2) := rfl
  rw [this]
  cases h : k % 2 <;> simp

theorem T.putK_sound {x : Option α} : ∀ {d : Nat} {t : T α} {k : Nat} {K : T α → Bool}, T.putK x d t k K = true →
    ∃ t', K t' = true ∧ ∀ j, t'.get j = if j = k then x else t.get j
  | 0, _, _, _, h => by simp [T.putK] at h
  | d + 1, .lf, 0, K, h => by
    refine ⟨_, h, fun j => ?_⟩
    cases j with
    | zero => rfl
    | succ j => rw [T.get_succ]; simp [T.get_l]
  | d + 1, .lf, k + 1, K, h => by
    have h' : (match k % 2 with
      | 0 => T.putK x d .lf (k / 2) fun a => K (.nd a none .lf)
      | _ + 1 => T.putK x d .lf (k / 2) fun b => K (.nd .lf none b)) = true := h
    cases hk : k % 2 with
    | zero =>
      rw [hk] at h'
      obtain ⟨t', h1, h2⟩ := T.putK_sound h'
      refine ⟨_, h1, fun j => ?_⟩
      cases j with
      | zero => rw [T.get_zero, T.get_l]; simp
      | succ j =>
        rw [T.get_succ, h2, T.get_l, T.get_l]
        by_cases hj : j = k
        · subst hj; simp [hk]
        · have : ¬ (j % 2 = 0 ∧ j / 2 = k / 2) := fun ⟨a, b⟩ => hj (by omega)
          by_cases h3 : j % 2 = 0
          · simp [h3, hj]; intro h4; exact absurd ⟨h3, h4⟩ this
          · simp [h3, hj]
    | succ m =>
      rw [hk] at h'
      obtain ⟨t', h1, h2⟩ := T.putK_sound h'
      refine ⟨_, h1, fun j => ?_⟩
      cases j with
      | zero => rw [T.get_zero, T.get_l]; simp
      | succ j =>
        rw [T.get_succ, h2, T.get_l, T.get_l]
        by_cases hj : j = k
        · subst hj; simp [hk]
        · have : ¬ (j % 2 ≠ 0 ∧ j / 2 = k / 2) := fun ⟨a, b⟩ => hj (by omega)
          by_cases h3 : j % 2 = 0
          · simp [h3, hj]
          · simp [h3, hj]; intro h4; exact absurd ⟨h3, h4⟩ this
  | d + 1, .nd a v b, 0, K, h => by
    refine ⟨_, h, fun j => ?_⟩
    cases j with
    | zero => rfl
    | succ j => rw [T.get_succ, T.get_succ]; simp
  | d + 1, .nd a v b, k + 1, K, h => by
    have h' : (match k % 2 with
      | 0 => T.putK x d a (k / 2) fun a => K (.nd a v b)
      | _ + 1 => T.putK x d b (k / 2) fun b => K (.nd a v b)) = true := h
    cases hk : k % 2 with
    | zero =>
      rw [hk] at h'
      obtain ⟨t', h1, h2⟩ := T.putK_sound h'
      refine ⟨_, h1, fun j => ?_⟩
      cases j with
      | zero => rw [T.get_zero, T.get_zero]; simp
      | succ j =>
        rw [T.get_succ, h2, T.get_succ]
        by_cases hj : j = k
        · subst hj; simp [hk]
        · have : ¬ (j % 2 = 0 ∧ j / 2 = k / 2) := fun ⟨a, b⟩ => hj (by omega)
          by_cases h3 : j % 2 = 0
          · simp [h3, hj]; intro h4; exact absurd ⟨h3, h4⟩ this
          · simp [h3, hj]
    | succ m =>
      rw [hk] at h'
      obtain ⟨t', h1, h2⟩ := T.putK_sound h'
      refine ⟨_, h1, fun j => ?_⟩
      cases j with
      | zero => rw [T.get_zero, T.get_zero]; simp
      | succ j =>
        rw [T.get_succ, h2, T.get_succ]
        by_cases hj : j = k
        · subst hj; simp [hk]
        · have : ¬ (j % 2 ≠ 0 ∧ j / 2 = k / 2) := fun ⟨a, b⟩ => hj (by omega)
          by_cases h3 : j % 2 = 0
          · simp [h3, hj]
          · simp [h3, hj]; intro h4; exact absurd ⟨h3, h4⟩ this

/-- One more in front. -/
def T.cons (x : Option α) : T α → T α
  | .lf => .nd .lf x .lf
  | .nd a v b => .nd (T.cons v b) x a

theorem T.cons_zero (x : Option α) (t : T α) : (T.cons x t).get 0 = x := by cases t <;> rfl
theorem T.cons_succ : ∀ (t : T α) (x : Option α) (j : Nat), (T.cons x t).get (j + 1) = t.get j
  | .lf, x, j => by rw [T.cons, T.get_succ]; simp [T.get_l]
  | .nd a v b, x, 0 => by rw [T.cons, T.get_succ]; simp [T.cons_zero, T.get_zero]
  | .nd a v b, x, j + 1 => by
    rw [T.cons, T.get_succ, T.get_succ]
    rcases Nat.mod_two_eq_zero_or_one j with h | h
    · have h1 : (j + 1) % 2 = 1 := by omega
      have h2 : (j + 1) / 2 = j / 2 := by omega
      simp [h, h1, h2]
    · have h1 : (j + 1) % 2 = 0 := by omega
      have h2 : (j + 1) / 2 = j / 2 + 1 := by omega
      simp [h, h1, h2, T.cons_succ b v]

def T.ofL : List α → T α
  | [] => .lf
  | x :: l => T.cons (some x) (T.ofL l)

theorem T.ofL_get : ∀ (l : List α) (i : Nat), (T.ofL l).get i = l[i]?
  | [], i => by rw [T.ofL, T.get_l]; simp
  | x :: l, 0 => by rw [T.ofL, T.cons_zero]; rfl
  | x :: l, i + 1 => by rw [T.ofL, T.cons_succ, T.ofL_get l i]; simp

def T.consK (x : Option α) : T α → (T α → Bool) → Bool
  | .lf, K => K (.nd .lf x .lf)
  | .nd a v b, K => T.consK v b fun b' => K (.nd b' x a)

theorem T.consK_eq : ∀ (t : T α) (x : Option α) (K : T α → Bool), T.consK x t K = K (T.cons x t)
  | .lf, _, _ => rfl
  | .nd a v b, x, K => by rw [T.consK, T.consK_eq b v]; rfl

def T.ofLK : List α → (T α → Bool) → Bool
  | [], K => K .lf
  | x :: l, K => T.ofLK l fun t => T.consK (some x) t K

theorem T.ofLK_eq : ∀ (l : List α) (K : T α → Bool), T.ofLK l K = K (T.ofL l)
  | [], _ => rfl
  | x :: l, K => by rw [T.ofLK, T.ofLK_eq l, T.consK_eq]; rfl

end

/-! ### Values -/

inductive LV where
  | bool (b : Bool)
  | int (k : IntKind) (n : Int)
  | str (len n : Nat)
  | ptr (b off : Nat)
  | nilp
  | slice (b off len cap : Nat) (g : Bool)
  | nils
  | map (b : Nat)
  | nilm
  | fn (f : Nat) (first captured : List LV)
  | nilf
  | iface (t : Nat) (v : LV)
  | nili
  | agg (l : List LV)
  | tup (l : List LV)
  | sym (ex : List (Nat × Nat))

/-- The bytes of a number, the lowest first. -/
def bytesOf : Nat → Nat → List UInt8
  | 0, _ => []
  | k + 1, n => UInt8.ofNat (n % 256) :: bytesOf k (n / 256)

abbrev Rho := Nat → Option (Nat × Nat)

inductive VR (ρ : Rho) : LV → Value → Prop where
  | bool (b : Bool) : VR ρ (.bool b) (.bool b)
  | int (k : IntKind) (n : Int) : VR ρ (.int k n) (.int k n)
  | str (len n : Nat) : VR ρ (.str len n) (.string ⟨⟨bytesOf len n⟩⟩)
  | ptr {b o rb κ : Nat} (h : ρ b = some (rb, κ)) : VR ρ (.ptr b o) (.pointer (some ⟨rb, o, none⟩))
  | nilp : VR ρ .nilp (.pointer none)
  | slice {b o len cap rb κ : Nat} {g : Bool} (h : ρ b = some (rb, κ)) : VR ρ (.slice b o len cap g) (.slice (some ⟨rb, o, none⟩) len (bif g then cap + κ else cap))
  | nils : VR ρ .nils (.slice none 0 0)
  | map {b rb κ : Nat} (h : ρ b = some (rb, κ)) : VR ρ (.map b) (.map (some rb))
  | nilm : VR ρ .nilm (.map none)
  | fn {f : Nat} {a c : List LV} {a' c' : List Value} (h1 : a.length = a'.length) (h2 : c.length = c'.length) (h3 : ∀ (i : Nat) v v', a[i]? = some v → a'[i]? = some v' → VR ρ v v') (h4 : ∀ (i : Nat) v v', c[i]? = some v → c'[i]? = some v' → VR ρ v v') :
      VR ρ (.fn f a c) (.func (.func f) ⟨a'⟩ ⟨c'⟩)
  | nilf : VR ρ .nilf .nilFunc
  | iface {t : Nat} {v : LV} {v' : Value} (h : VR ρ v v') : VR ρ (.iface t v) (.iface t v')
  | nili : VR ρ .nili .nilIface
  | agg {l : List LV} {l' : List Value} (h1 : l.length = l'.length) (h2 : ∀ (i : Nat) v v', l[i]? = some v → l'[i]? = some v' → VR ρ v v') : VR ρ (.agg l) (.agg ⟨l'⟩)
  | tup {l : List LV} {l' : List Value} (h1 : l.length = l'.length) (h2 : ∀ (i : Nat) v v', l[i]? = some v → l'[i]? = some v' → VR ρ v v') : VR ρ (.tup l) (.tuple ⟨l'⟩)
  | sym {ex : List (Nat × Nat)} {b : List UInt8} (h : ∀ p, p ∈ ex → b ≠ bytesOf p.1 p.2) : VR ρ (.sym ex) (.string ⟨⟨b⟩⟩)

def LR (ρ : Rho) (l : List LV) (l' : List Value) : Prop := l.length = l'.length ∧ ∀ (i : Nat) v v', l[i]? = some v → l'[i]? = some v' → VR ρ v v'

def Le (ρ ρ' : Rho) : Prop := ∀ b x, ρ b = some x → ρ' b = some x

theorem Le.refl (ρ : Rho) : Le ρ ρ := fun _ _ h => h
theorem Le.trans {ρ1 ρ2 ρ3 : Rho} (h1 : Le ρ1 ρ2) (h2 : Le ρ2 ρ3) : Le ρ1 ρ3 := fun b x h => h2 b x (h1 b x h)

theorem VR.mono {ρ ρ' : Rho} (hle : Le ρ ρ') {lv : LV} {v : Value} (h : VR ρ lv v) : VR ρ' lv v := by
  induction h with
  | bool b => exact .bool b
  | int k n => exact .int k n
  | str len n => exact .str len n
  | ptr h => exact .ptr (hle _ _ h)
  | nilp => exact .nilp
  | slice h => exact .slice (hle _ _ h)
  | nils => exact .nils
  | map h => exact .map (hle _ _ h)
  | nilm => exact .nilm
  | fn h1 h2 _ _ ih1 ih2 => exact .fn h1 h2 ih1 ih2
  | nilf => exact .nilf
  | iface _ ih => exact .iface ih
  | nili => exact .nili
  | agg h1 _ ih => exact .agg h1 ih
  | tup h1 _ ih => exact .tup h1 ih
  | sym h => exact .sym h

theorem LR.mono {ρ ρ' : Rho} (hle : Le ρ ρ') {l : List LV} {l' : List Value} (h : LR ρ l l') : LR ρ' l l' := ⟨h.1, fun i v v' h1 h2 => (h.2 i v v' h1 h2).mono hle⟩

theorem LR.nil {ρ : Rho} : LR ρ [] [] := ⟨rfl, fun i v v' h => by simp at h⟩
theorem LR.cons {ρ : Rho} {v : LV} {v' : Value} {l : List LV} {l' : List Value} (h : VR ρ v v') (hl : LR ρ l l') : LR ρ (v :: l) (v' :: l') :=
  ⟨by simp [hl.1], fun i u u' h1 h2 => by
    cases i with
    | zero => simp at h1 h2; subst h1; subst h2; exact h
    | succ i => simp at h1 h2; exact hl.2 i u u' h1 h2⟩
theorem LR.nil_inv {ρ : Rho} {l' : List Value} (h : LR ρ [] l') : l' = [] := List.eq_nil_of_length_eq_zero (by simpa using h.1.symm)
theorem LR.cons_inv {ρ : Rho} {v : LV} {l : List LV} {l' : List Value} (h : LR ρ (v :: l) l') : ∃ v' r, l' = v' :: r ∧ VR ρ v v' ∧ LR ρ l r := by
  cases l' with
  | nil => simpa using h.1
  | cons v' r => exact ⟨v', r, rfl, h.2 0 v v' rfl rfl, by simpa using h.1, fun i u u' h1 h2 => h.2 (i + 1) u u' (by simpa using h1) (by simpa using h2)⟩
theorem LR.get {ρ : Rho} {l : List LV} {l' : List Value} (h : LR ρ l l') {i : Nat} {v : LV} (hi : l[i]? = some v) : ∃ v', l'[i]? = some v' ∧ VR ρ v v' := by
  have hlt := (List.getElem?_eq_some_iff.1 hi).1
  have hlt' : i < l'.length := h.1 ▸ hlt
  exact ⟨l'[i], List.getElem?_eq_getElem hlt', h.2 i v _ hi (List.getElem?_eq_getElem hlt')⟩
theorem LR.append {ρ : Rho} : ∀ {l m : List LV} {l' m' : List Value}, LR ρ l l' → LR ρ m m' → LR ρ (l ++ m) (l' ++ m')
  | [], m, l', m', h1, h2 => by rw [h1.nil_inv]; simpa using h2
  | v :: l, m, l', m', h1, h2 => by
    obtain ⟨v', r, rfl, hv, hr⟩ := h1.cons_inv
    exact LR.cons hv (hr.append h2)
theorem LR.take {ρ : Rho} {l : List LV} {l' : List Value} (h : LR ρ l l') (n : Nat) : LR ρ (l.take n) (l'.take n) :=
  ⟨by simp [h.1], fun i v v' h1 h2 => by
    rw [List.getElem?_take] at h1 h2
    split at h1
    · rename_i hi; rw [if_pos hi] at h2; exact h.2 i v v' h1 h2
    · cases h1⟩
theorem LR.drop {ρ : Rho} {l : List LV} {l' : List Value} (h : LR ρ l l') (n : Nat) : LR ρ (l.drop n) (l'.drop n) :=
  ⟨by simp [h.1], fun i v v' h1 h2 => by
    rw [List.getElem?_drop] at h1 h2
    exact h.2 _ v v' h1 h2⟩

/-! ### Strings -/

theorem bytesOf_length : ∀ (k n : Nat), (bytesOf k n).length = k
  | 0, _ => rfl
  | k + 1, n => by simp [bytesOf, bytesOf_length k]

theorem bytesOf_get : ∀ (k n i : Nat), i < k → (bytesOf k n)[i]? = some (UInt8.ofNat (n / 2 ^ (8 * i) % 256))
  | k + 1, n, 0, _ => by simp [bytesOf]
  | k + 1, n, i + 1, h => by
    have := bytesOf_get k (n / 256) i (by omega)
    simp only [bytesOf, List.getElem?_cons_succ, this]
    rw [Nat.div_div_eq_div_mul, show 8 * (i + 1) = 8 * i + 8 by omega, Nat.pow_add, Nat.mul_comm 256]

theorem bytesOf_take : ∀ (k n m : Nat), m ≤ k → (bytesOf k n).take m = bytesOf m n
  | _, _, 0, _ => by simp [bytesOf]
  | k + 1, n, m + 1, h => by simp [bytesOf, bytesOf_take k (n / 256) m (by omega)]

theorem bytesOf_drop : ∀ (k n a : Nat), (bytesOf k n).drop a = bytesOf (k - a) (n / 2 ^ (8 * a))
  | k, n, 0 => by simp
  | 0, n, a + 1 => by simp [bytesOf]
  | k + 1, n, a + 1 => by
    simp only [bytesOf, List.drop_succ_cons, bytesOf_drop k (n / 256) a]
    rw [Nat.div_div_eq_div_mul, show 8 * (a + 1) = 8 * a + 8 by omega, Nat.pow_add, Nat.mul_comm 256, Nat.add_sub_add_right]

theorem bytesOf_mod : ∀ (k n : Nat), bytesOf k (n % 2 ^ (8 * k)) = bytesOf k n
  | 0, _ => rfl
  | k + 1, n => by
    simp only [bytesOf]
    have e : 2 ^ (8 * (k + 1)) = 256 * 2 ^ (8 * k) := by rw [show 8 * (k + 1) = 8 + 8 * k by omega, Nat.pow_add]
    have h1 : n % 2 ^ (8 * (k + 1)) % 256 = n % 256 := by rw [e, Nat.mod_mul_right_mod]
    have h2 : n % 2 ^ (8 * (k + 1)) / 256 = (n / 256) % 2 ^ (8 * k) := by rw [e, Nat.mod_mul_right_div_self]
    rw [h1, h2, bytesOf_mod k (n / 256)]

theorem bytesOf_inj : ∀ (k n m : Nat), bytesOf k n = bytesOf k m → n % 2 ^ (8 * k) = m % 2 ^ (8 * k)
  | 0, n, m, _ => by simp [Nat.mod_one]
  | k + 1, n, m, h => by
    simp only [bytesOf, List.cons.injEq] at h
    have h1 : n % 256 = m % 256 := by
      have := congrArg UInt8.toNat h.1
      simpa using this
    have h2 := bytesOf_inj k _ _ h.2
    have e : 2 ^ (8 * (k + 1)) = 256 * 2 ^ (8 * k) := by rw [show 8 * (k + 1) = 8 + 8 * k by omega, Nat.pow_add]
    rw [e, Nat.mod_mul, Nat.mod_mul, h1, h2]

theorem bytesOf_append : ∀ (a b n m : Nat), bytesOf (a + b) (n % 2 ^ (8 * a) + m * 2 ^ (8 * a)) = bytesOf a n ++ bytesOf b m
  | 0, b, n, m => by simp [bytesOf, Nat.mod_one]
  | a + 1, b, n, m => by
    have e : 2 ^ (8 * (a + 1)) = 256 * 2 ^ (8 * a) := by rw [show 8 * (a + 1) = 8 + 8 * a by omega, Nat.pow_add]
    rw [show a + 1 + b = (a + b) + 1 by omega]
    simp only [bytesOf, List.cons_append]
    have h1 : (n % 2 ^ (8 * (a + 1)) + m * 2 ^ (8 * (a + 1))) % 256 = n % 256 := by
      rw [e, show m * (256 * 2 ^ (8 * a)) = 256 * (m * 2 ^ (8 * a)) by rw [Nat.mul_left_comm], Nat.add_mul_mod_self_left, Nat.mod_mul_right_mod]
    have h2 : (n % 2 ^ (8 * (a + 1)) + m * 2 ^ (8 * (a + 1))) / 256 = (n / 256) % 2 ^ (8 * a) + m * 2 ^ (8 * a) := by
      rw [e, show m * (256 * 2 ^ (8 * a)) = 256 * (m * 2 ^ (8 * a)) by rw [Nat.mul_left_comm], Nat.add_mul_div_left _ _ (by omega), Nat.mod_mul_right_div_self]
    rw [h1, h2, bytesOf_append a b (n / 256) m]

/-- The number of bytes. -/
def natOf : List UInt8 → Nat
  | [] => 0
  | c :: l => c.toNat + 256 * natOf l

theorem bytesOf_natOf : ∀ (l : List UInt8), bytesOf l.length (natOf l) = l
  | [] => rfl
  | c :: l => by
    have hc : c.toNat < 256 := c.toNat_lt
    simp only [List.length_cons, bytesOf, natOf]
    have h1 : (c.toNat + 256 * natOf l) % 256 = c.toNat := by omega
    have h2 : (c.toNat + 256 * natOf l) / 256 = natOf l := by omega
    rw [h1, h2, bytesOf_natOf l]
    simp

end Go.Ev
