import Derived.Test.YtifjnoabmbckpaaGreatDoorEv6
/- Memory: how the evaluator's heap stays related; maps; appends. -/
namespace Go.Ev
open Go Go.Den

section
variable {G : Nat} {ρ ρ' : Rho} {H H' : T Blk} {nx : Nat} {h : PHeap}

theorem BR.mono (hle : Le ρ ρ') {κ : Nat} {B : Blk} {o : Obj} (hb : BR ρ κ B o) : BR ρ' κ B o := by
  cases B with
  | cells t k n c =>
    obtain ⟨l, rest, h1, h2, h3, h4⟩ := hb
    exact ⟨l, rest, h1, h2, h3, fun i hi => by obtain ⟨lv, v, a, b, c⟩ := h4 i hi; exact ⟨lv, v, a, b, c.mono hle⟩⟩
  | map es clock =>
    obtain ⟨es', h1, h2, h3⟩ := hb
    exact ⟨es', h1, h2, fun i e e' a b => by obtain ⟨x, y, z⟩ := h3 i e e' a b; exact ⟨x.mono hle, y.mono hle, z⟩⟩

theorem HR.lt (hh : HR G ρ H nx h) {b : Nat} {x : Nat × Nat} (hb : ρ b = some x) : b < nx := by
  rcases Nat.lt_or_ge b nx with h1 | h1
  · exact h1
  · rw [hh.fresh b h1] at hb; cases hb

/-- One block more. -/
def ext (ρ : Rho) (nx rb κ : Nat) : Rho := fun b => if b = nx then some (rb, κ) else ρ b

theorem ext_agr (ρ : Rho) (nx rb κ : Nat) : Agr nx ρ (ext ρ nx rb κ) := fun b hb => by
  simp only [ext]; rw [if_neg (by omega)]

theorem HR.le (hh : HR G ρ H nx h) (ha : Agr nx ρ ρ') : Le ρ ρ' := ha.le hh.fresh

theorem HR.new (hh : HR G ρ H nx h) {rb κ : Nat} {B : Blk} {o : Obj} (hn : ∀ b B κ, H.get b = some B → ρ b = some (rb, κ) → False) (hB : BR (ext ρ nx rb κ) κ B o)
    (hH : ∀ j, H'.get j = if j = nx then some B else H.get j) : HR G (ext ρ nx rb κ) H' (nx + 1) (h.put rb o) where
  blk := fun b B' rb' κ' hb hρ => by
    rw [hH] at hb
    by_cases e : b = nx
    · subst e
      rw [if_pos rfl] at hb; cases hb
      simp only [ext, if_pos] at hρ; cases hρ
      exact ⟨o, by simp [PHeap.put], hB⟩
    · rw [if_neg e] at hb
      simp only [ext, if_neg e] at hρ
      obtain ⟨o', h1, h2⟩ := hh.blk b B' rb' κ' hb hρ
      have : rb' ≠ rb := fun e2 => by subst e2; exact hn b B' κ' hb hρ
      exact ⟨o', by simp [PHeap.put, this, h1], h2.mono (hh.le (ext_agr ρ nx rb κ))⟩
  inj := fun b b' B1 B2 rb' κ1 κ2 h1 h2 h3 h4 => by
    rw [hH] at h1 h2
    simp only [ext] at h3 h4
    by_cases e1 : b = nx <;> by_cases e2 : b' = nx
    · rw [e1, e2]
    · rw [if_pos e1] at h3; rw [if_neg e2] at h4 h2; cases h3; exact (hn b' _ _ h2 h4).elim
    · rw [if_pos e2] at h4; rw [if_neg e1] at h3 h1; cases h4; exact (hn b _ _ h1 h3).elim
    · rw [if_neg e1] at h1 h3; rw [if_neg e2] at h2 h4; exact hh.inj b b' B1 B2 rb' κ1 κ2 h1 h2 h3 h4
  fresh := fun b hb => by simp only [ext]; rw [if_neg (by omega)]; exact hh.fresh b (by omega)
  glob := fun g hg => by
    have := hh.lt (hh.glob g hg)
    simp only [ext]; rw [if_neg (by omega)]; exact hh.glob g hg

theorem HR.noB (hh : HR G ρ H nx h) {rb : Nat} (hn : h rb = none) : ∀ b B κ, H.get b = some B → ρ b = some (rb, κ) → False := fun b B κ h1 h2 => by
  obtain ⟨o, h3, _⟩ := hh.blk b B rb κ h1 h2; rw [hn] at h3; cases h3

theorem HR.set (hh : HR G ρ H nx h) {b rb κ : Nat} {B B2 : Blk} {o : Obj} (hb : H.get b = some B) (hρ : ρ b = some (rb, κ)) (hB : BR ρ κ B2 o)
    (hH : ∀ j, H'.get j = if j = b then some B2 else H.get j) : HR G ρ H' nx (h.put rb o) where
  blk := fun b' B' rb' κ' h1 h2 => by
    rw [hH] at h1
    by_cases e : b' = b
    · subst e
      rw [if_pos rfl] at h1; cases h1
      rw [hρ] at h2; cases h2
      exact ⟨o, by simp [PHeap.put], hB⟩
    · rw [if_neg e] at h1
      obtain ⟨o', h3, h4⟩ := hh.blk b' B' rb' κ' h1 h2
      have : rb' ≠ rb := fun e2 => by subst e2; exact e (hh.inj b' b B' B rb' κ' κ h1 hb h2 hρ)
      exact ⟨o', by simp [PHeap.put, this, h3], h4⟩
  inj := fun b1 b2 B1 B2' rb' κ1 κ2 h1 h2 h3 h4 => by
    rw [hH] at h1 h2
    have g1 : ∃ C, H.get b1 = some C := by
      by_cases e : b1 = b
      · exact ⟨B, by rw [e]; exact hb⟩
      · rw [if_neg e] at h1; exact ⟨_, h1⟩
    have g2 : ∃ C, H.get b2 = some C := by
      by_cases e : b2 = b
      · exact ⟨B, by rw [e]; exact hb⟩
      · rw [if_neg e] at h2; exact ⟨_, h2⟩
    obtain ⟨C1, g1⟩ := g1
    obtain ⟨C2, g2⟩ := g2
    exact hh.inj b1 b2 C1 C2 rb' κ1 κ2 g1 g2 h3 h4
  fresh := hh.fresh
  glob := hh.glob

/-- A block is forgotten. -/
theorem HR.kill (hh : HR G ρ H nx h) {b : Nat} (hH : ∀ j, H'.get j = if j = b then none else H.get j) : HR G ρ H' nx h where
  blk := fun b' B' rb' κ' h1 h2 => by
    rw [hH] at h1
    by_cases e : b' = b
    · rw [if_pos e] at h1; cases h1
    · rw [if_neg e] at h1; exact hh.blk b' B' rb' κ' h1 h2
  inj := fun b1 b2 B1 B2 rb' κ1 κ2 h1 h2 h3 h4 => by
    rw [hH] at h1 h2
    by_cases e1 : b1 = b
    · rw [if_pos e1] at h1; cases h1
    · by_cases e2 : b2 = b
      · rw [if_pos e2] at h2; cases h2
      · rw [if_neg e1] at h1; rw [if_neg e2] at h2; exact hh.inj b1 b2 B1 B2 rb' κ1 κ2 h1 h2 h3 h4
  fresh := hh.fresh
  glob := hh.glob

theorem newK_sound {B : Blk} {K : T Blk → Nat → Bool} (he : newK H nx B K = true) : ∃ H', K H' (nx + 1) = true ∧ ∀ j, H'.get j = if j = nx then some B else H.get j := by
  obtain ⟨H', h1, h2⟩ := T.putK_sound he
  exact ⟨H', h1, h2⟩

theorem readK_sound : ∀ {n : Nat} {c : T LV} {o : Nat} {K : List LV → Bool}, readK n c o K = true → ∃ l, K l = true ∧ l.length = n ∧ ∀ i, i < n → c.get (o + i) = l[i]?
  | 0, c, o, K, he => ⟨[], he, rfl, fun i hi => by omega⟩
  | n + 1, c, o, K, he => by
    simp only [readK] at he
    split at he
    · rename_i v hv
      obtain ⟨l, h1, h2, h3⟩ := readK_sound he
      refine ⟨v :: l, h1, by simp [h2], fun i hi => ?_⟩
      cases i with
      | zero => simpa using hv
      | succ i =>
        have := h3 i (by omega)
        rw [show o + (i + 1) = Nat.succ o + i by omega, this]; simp
    · cases he

theorem writeK_sound : ∀ {l : List LV} {c : T LV} {o : Nat} {K : T LV → Bool}, writeK l c o K = true → ∃ c', K c' = true ∧ ∀ j, c'.get j = if o ≤ j ∧ j < o + l.length then l[j - o]? else c.get j
  | [], c, o, K, he => ⟨c, he, fun j => by rw [if_neg (by simp)]⟩
  | v :: l, c, o, K, he => by
    simp only [writeK] at he
    obtain ⟨c1, h1, h2⟩ := T.putK_sound he
    obtain ⟨c', h3, h4⟩ := writeK_sound h1
    refine ⟨c', h3, fun j => ?_⟩
    rw [h4]
    by_cases e : j = o
    · subst e
      rw [if_neg (by omega), h2, if_pos rfl, if_pos (by simp)]; simp
    · by_cases e2 : Nat.succ o ≤ j ∧ j < Nat.succ o + l.length
      · rw [if_pos e2, if_pos (by simp; omega)]
        rw [show j - o = (j - Nat.succ o) + 1 by omega]; simp
      · rw [if_neg e2, h2, if_neg e, if_neg (by simp; omega)]

theorem rowK_sound (hh : HR G ρ H nx h) {b rb κ off n : Nat} {K : List LV → Bool} (hρ : ρ b = some (rb, κ)) (he : rowK H b off n K = true) :
    ∃ l l', K l = true ∧ LR ρ l l' ∧ l'.length = n ∧ h.row rb off l' := by
  unfold rowK at he
  split at he
  · rename_i t k m c hb
    split at he
    · rename_i hle
      have hle : off + n ≤ m := Nat.le_of_ble_eq_true hle
      obtain ⟨o, ho, hB⟩ := hh.blk b _ rb κ hb hρ
      obtain ⟨cl, rest, rfl, hcl, hrest, hc⟩ := hB
      obtain ⟨l, h1, h2, h3⟩ := readK_sound he
      have hl' : ((cl.drop off).take n).length = n := by simp; omega
      refine ⟨l, (cl.drop off).take n, h1, ⟨by rw [h2, hl'], fun i v v' hi hi' => ?_⟩, hl', ?_⟩
      · have hlt : i < n := by have := (List.getElem?_eq_some_iff.1 hi).1; omega
        obtain ⟨lv, u, a1, a2, a3⟩ := hc (off + i) (by omega)
        rw [h3 i hlt, hi] at a1; cases a1
        rw [List.getElem?_take, if_pos hlt, List.getElem?_drop, a2] at hi'
        cases hi'; exact a3
      · refine row_of _ _ fun j v hj => ?_
        have hlt : j < n := by have := (List.getElem?_eq_some_iff.1 hj).1; omega
        rw [List.getElem?_take, if_pos hlt, List.getElem?_drop] at hj
        have hlt2 := (List.getElem?_eq_some_iff.1 hj).1
        simp [PHeap.cell, ho, List.getElem?_append_left hlt2, hj]
    · cases he
  · cases he

theorem packK_sound {agg : Bool} {l : List LV} {l' : List Value} {K : LV → Bool} (hl : LR ρ l l') (he : packK agg l K = true) : ∃ lv, K lv = true ∧ VR ρ lv (packV agg l') := by
  unfold packK at he
  split at he
  · exact ⟨_, he, .agg hl.1 hl.2⟩
  · split at he
    · obtain ⟨v', r, rfl, hv, hr⟩ := hl.cons_inv
      rw [hr.nil_inv]
      exact ⟨_, he, hv⟩
    · cases he

theorem oneV_one {lv : LV} {v : Value} (hv : VR ρ lv v) (h1 : oneV lv = true) : v.oneCell' = true := by
  cases hv <;> first | rfl | (simp [oneV] at h1)

theorem allOneV_one : ∀ {l : List LV} {l' : List Value}, LR ρ l l' → allOneV l = true → allOne l' = true
  | [], l', hl, _ => by rw [hl.nil_inv]; rfl
  | v :: l, l', hl, h1 => by
    obtain ⟨v', r, rfl, hv, hr⟩ := hl.cons_inv
    simp only [allOneV] at h1
    split at h1
    · rename_i h2; simp only [allOne, Bool.and_eq_true]; exact ⟨oneV_one hv h2, allOneV_one hr h1⟩
    · cases h1

/-- Cells written into a block. -/
theorem BR.write {κ t k n : Nat} {c c' : T LV} {o : Obj} (hB : BR ρ κ (.cells t k n c) o) {l : List LV} {l' : List Value} {off : Nat} (hl : LR ρ l l') (hle : off + l.length ≤ n)
    (hc : ∀ j, c'.get j = if off ≤ j ∧ j < off + l.length then l[j - off]? else c.get j) :
    ∃ cs, o = .cells ⟨cs⟩ t (0, 0) ∧ n ≤ cs.length ∧ BR ρ κ (.cells t k n c') (.cells ⟨splice cs off l'⟩ t (0, 0)) := by
  obtain ⟨cl, rest, rfl, hcl, hrest, hcc⟩ := hB
  refine ⟨cl ++ rest, rfl, by simp; omega, splice cl off l', rest, ?_, ?_, hrest, fun i hi => ?_⟩
  · congr 2
    unfold splice
    have h1 : off + l'.length ≤ cl.length := by rw [← hl.1]; omega
    rw [List.take_append_of_le_length (by omega), List.drop_append_of_le_length h1]
    simp
  · unfold splice; simp [← hl.1]; omega
  · have hsp : (splice cl off l')[i]? = if off ≤ i ∧ i < off + l.length then l'[i - off]? else cl[i]? := by
      unfold splice
      by_cases h1 : i < off
      · rw [if_neg (by omega), List.append_assoc, List.getElem?_append_left (by simp; omega), List.getElem?_take, if_pos h1]
      · by_cases h2 : i < off + l.length
        · rw [if_pos ⟨by omega, h2⟩, List.append_assoc, List.getElem?_append_right (by simp; omega), List.getElem?_append_left (by rw [← hl.1]; simp; omega)]
          congr 1; simp; omega
        · rw [if_neg (by omega), List.getElem?_append_right (by simp [← hl.1]; omega), List.getElem?_drop]
          congr 1; simp [← hl.1]; omega
    rw [hc, hsp]
    by_cases h1 : off ≤ i ∧ i < off + l.length
    · rw [if_pos h1, if_pos h1]
      have hlt : i - off < l.length := by omega
      have hg : l[i - off]? = some l[i - off] := List.getElem?_eq_getElem hlt
      obtain ⟨v', a1, a2⟩ := hl.get hg
      exact ⟨_, v', hg, a1, a2⟩
    · rw [if_neg h1, if_neg h1]; exact hcc i hi

/-- A block out of a list. -/
theorem BR.ofL {t k : Nat} {l : List LV} {l' rest : List Value} {κ : Nat} (hl : LR ρ l l') (hr : rest.length = κ * k) : BR ρ κ (.cells t k l.length (T.ofL l)) (.cells ⟨l' ++ rest⟩ t (0, 0)) := by
  refine ⟨l', rest, rfl, hl.1.symm, hr, fun i hi => ?_⟩
  have hg : l[i]? = some l[i] := List.getElem?_eq_getElem hi
  obtain ⟨v', a1, a2⟩ := hl.get hg
  exact ⟨_, v', by rw [T.ofL_get]; exact hg, a1, a2⟩

theorem packB_sound : ∀ {l : List LV} {l' : List Value} {m : Nat}, LR ρ l l' → packB l = some m → l' = (bytesOf l.length m).map byteV
  | [], l', m, hl, _ => by rw [hl.nil_inv]; rfl
  | v :: l, l', m, hl, he => by
    obtain ⟨v', r, rfl, hv, hr⟩ := hl.cons_inv
    unfold packB at he
    split at he
    · rename_i heq; cases heq
    · rename_i c l2 heq
      cases heq
      split at he
      · rename_i hlt
        have hlt := Nat.blt_eq.mp hlt
        split at he
        · rename_i n hn
          cases he
          have ih := packB_sound hr hn
          cases hv
          have e1 : Nat.add c (Nat.mul 256 n) % 256 = c := by show (c + 256 * n) % 256 = c; omega
          have e2 : Nat.add c (Nat.mul 256 n) / 256 = n := by show (c + 256 * n) / 256 = n; omega
          simp only [List.length_cons, bytesOf, List.map_cons, e1, e2, ← ih]
          congr 1
          simp only [byteV, UInt8.toNat_ofNat']
          congr 1
          have : c % 256 = c := Nat.mod_eq_of_lt hlt
          show (c : Int) = _
          simp [this]
        · cases he
      · cases he
    · cases he

theorem cellsB_LR : ∀ (k n : Nat), LR ρ (cellsB k n) (byteCells ⟨⟨bytesOf k n⟩⟩)
  | 0, n => LR.nil
  | k + 1, n => by
    have := cellsB_LR k (n / 256)
    refine LR.cons ?_ this
    have hm : n % 256 < 256 := Nat.mod_lt _ (by omega)
    have e : ((UInt8.ofNat (n % 256)).toNat : Int) = Int.ofNat (Nat.mod n 256) := by
      rw [UInt8.toNat_ofNat']; show ((n % 256 % 256 : Nat) : Int) = ((n % 256 : Nat) : Int); rw [Nat.mod_mod]
    show VR ρ _ (.int .u8 ((UInt8.ofNat (n % 256)).toNat : Int))
    rw [e]; exact .int _ _

theorem cellsB_len : ∀ (k n : Nat), (cellsB k n).length = k
  | 0, n => rfl
  | k + 1, n => by simp [cellsB, cellsB_len k]

theorem cellsB_one : ∀ (k n : Nat), allOneV (cellsB k n) = true
  | 0, n => rfl
  | k + 1, n => by simp [cellsB, allOneV, oneV, cellsB_one k]

/-! ### Raw operations -/

variable {P : Program} {f : Operand → Value}

theorem raw_makeMap {t ty : TypeId} {Q : Value → PHeap → Prop} (hq : ∀ b, h b = none → Q (.map (some b)) (h.put b (.map ⟨[]⟩ 0))) : Raw P (execOp f (mkO (.makeMap t none) ty)) h Q := by
  intro w hs
  refine ⟨.value (.map (some w.heap.size)), .map (some w.heap.size), w.alloc (.map ⟨[]⟩ 0), h.put w.heap.size (.map ⟨[]⟩ 0), ?_, .inl rfl, hq _ hs.fresh, hs.allocReal _, Keep.allocReal w h _⟩
  rfl

theorem beq_bytes (a b : List UInt8) : ((⟨⟨a⟩⟩ : ByteArray) == ⟨⟨b⟩⟩) = (a == b) := by
  show ((⟨a⟩ : Array UInt8) == ⟨b⟩) = (a == b)
  rw [Bool.eq_iff_iff, beq_iff_eq, beq_iff_eq]
  constructor
  · intro e; cases e; rfl
  · rintro rfl; rfl

theorem eqKey_sound {ks : Bool} {a b : LV} {va vb : Value} {r : Bool} {d : TypeDesc} (hd : (ks = true ∧ d = .string) ∨ (ks = false ∧ ∃ k, d = .int k)) (ha : VR ρ a va) (hb : VR ρ b vb) (he : eqKey ks a b = some r) :
    Instr.sameNow d va vb = some r := by
  rcases hd with ⟨rfl, rfl⟩ | ⟨rfl, k, rfl⟩
  · simp only [eqKey] at he
    split at he
    · rename_i k n
      split at he
      · rename_i j m
        cases ha; cases hb; cases he
        simp only [Instr.sameNow, beq_bytes, Option.some.injEq]
        symm
        rw [Bool.eq_iff_iff, Bool.and_eq_true, Nat.beq_eq, Nat.beq_eq, beq_iff_eq]
        constructor
        · rintro ⟨rfl, h4⟩
          have h4 : n % 2 ^ (8 * k) = m % 2 ^ (8 * k) := h4
          rw [← bytesOf_mod k n, ← bytesOf_mod k m, h4]
        · intro h4
          have h5 : k = j := by have := congrArg List.length h4; simpa [bytesOf_length] using this
          subst h5
          exact ⟨rfl, bytesOf_inj k n m h4⟩
      · cases he
    · cases he
  · simp only [eqKey] at he
    split at he
    · split at he
      · split at he
        · rename_i hk
          have := kNo_inj hk; subst this
          cases ha; cases hb; cases he
          simp [Instr.sameNow, eqI_eq]
        · cases he
      · cases he
    · cases he

theorem findE_sound {ks : Bool} {d : TypeDesc} (hd : (ks = true ∧ d = .string) ∨ (ks = false ∧ ∃ k, d = .int k)) {k : LV} {vk : Value} (hk : VR ρ k vk) :
    ∀ {es : List (LV × LV × Nat)} {es' : List MapEntry} {i : Nat} {r : Option (Nat × LV)}, ER ρ es es' → findE ks k es i = some r →
      (r = none ∧ Instr.findNow d vk es' i = some none) ∨ ∃ j lv v e e', r = some (i + j, lv) ∧ VR ρ lv v ∧ Instr.findNow d vk es' i = some (some (i + j, v)) ∧ es[j]? = some e ∧ es'[j]? = some e' ∧ eqKey ks k e.1 = some true
  | [], es', i, r, he, hf => by
    cases hf
    have : es' = [] := List.eq_nil_of_length_eq_zero (by simpa using he.1.symm)
    subst this
    exact .inl ⟨rfl, rfl⟩
  | (key, v, c) :: es, es', i, r, he, hf => by
    cases es' with
    | nil => simpa using he.1
    | cons e' es' =>
      obtain ⟨h1, h2, h3⟩ := he.2 0 _ _ rfl rfl
      have het : ER ρ es es' := ⟨by simpa using he.1, fun i a b ha hb => he.2 (i + 1) a b (by simpa using ha) (by simpa using hb)⟩
      simp only [findE] at hf
      split at hf
      · rename_i heq
        cases hf
        have := eqKey_sound hd hk h1 heq
        exact .inr ⟨0, v, e'.val, _, _, rfl, h2, by simp [Instr.findNow, this], rfl, rfl, heq⟩
      · rename_i heq
        have := eqKey_sound hd hk h1 heq
        rcases findE_sound hd hk het hf with ⟨rfl, h4⟩ | ⟨j, lv, v2, e, e2, rfl, h5, h6, h7, h8, h9⟩
        · exact .inl ⟨rfl, by simp [Instr.findNow, this, h4]⟩
        · refine .inr ⟨j + 1, lv, v2, e, e2, by rw [show Nat.succ i + j = i + (j + 1) by omega], h5, ?_, by simpa using h7, by simpa using h8, h9⟩
          have h6' : Instr.findNow d vk es' (i + 1) = some (some (i + (j + 1), v2)) := by rw [h6]; congr 3; omega
          simp [Instr.findNow, this, h6']
      · cases hf

theorem keyCls_sound {t : TypeId} {ks : Bool} (hk : keyCls P t = some ks) : ∃ d, P.underlying t = some d ∧ ((ks = true ∧ d = .string) ∨ (ks = false ∧ ∃ k, d = .int k)) := by
  unfold keyCls at hk
  split at hk
  · rename_i hu; cases hk; exact ⟨_, hu, .inl ⟨rfl, rfl⟩⟩
  · rename_i k hu; cases hk; exact ⟨_, hu, .inr ⟨rfl, k, rfl⟩⟩
  · cases hk

theorem checkKey_run {t : TypeId} {ks : Bool} (hk : keyCls P t = some ks) (e : Bool) (v : Value) (w : World) : (Instr.checkKey e 10000 t v).run P w = .ok () w := by
  obtain ⟨d, hu, hd⟩ := keyCls_sound hk
  have : Instr.checkKey e 10000 t v = Instr.checkKey e (9999 + 1) t v := rfl
  rw [this, Instr.checkKey]
  rcases hd with ⟨_, rfl⟩ | ⟨_, k, rfl⟩ <;> simp [run_underlying hu]

theorem raw_lookup {t key elem ty : TypeId} {ok : Bool} {m k : Operand} {ks : Bool} {r clock : Nat} {es : List MapEntry} {vk z : Value} {res : Option (Nat × Value)} {Q : Value → PHeap → Prop}
    (hu : P.underlying t = some (.map key elem)) (hks : keyCls P key = some ks) (hz : zeroT P elem = some z) (hm : f m = .map (some r)) (hk : f k = vk) (hr : h r = some (.map ⟨es⟩ clock))
    (hf : ∀ d, P.underlying key = some d → Instr.findNow d vk es 0 = some res)
    (hq : Q (if ok then .tuple ⟨[match res with | some (_, v) => v | none => z, .bool (match res with | some _ => true | none => false)]⟩ else (match res with | some (_, v) => v | none => z)) h) :
    Raw P (execOp f (mkO (.lookup t m k ok) ty)) h Q := by
  intro w hs
  have hw := hs _ _ hr
  obtain ⟨d, hud, _⟩ := keyCls_sound hks
  have hfn := hf d hud
  have hgo : (getObj r).run P w = .ok (.map ⟨es⟩ clock) w := by simp [getObj, Sem.run, hw]
  have hzr : (zeroValue elem).run P w = .ok z w := by
    unfold zeroT at hz
    cases hi : P.info? elem with
    | none => rw [hi] at hz; cases hz
    | some i => rw [hi] at hz; simp at hz; simp [zeroValue, typeInfo, program, Sem.run, hi, hz]
  refine ⟨_, _, w, h, ?_, .inl rfl, hq, hs, Keep.refl w h⟩
  cases res with
  | none => cases ok <;> simp [execOp, mkO, Instr.lookup, run_underlying hu, hm, hk, hgo, checkKey_run hks, Instr.findKey, run_underlying hud, hfn, hzr]
  | some p => obtain ⟨i, v⟩ := p; cases ok <;> simp [execOp, mkO, Instr.lookup, run_underlying hu, hm, hk, hgo, checkKey_run hks, Instr.findKey, run_underlying hud, hfn]

theorem setObj_keep {w : World} {r : Nat} {o o2 : Obj} (hs : Sub w h) (hr : h r = some o) : Sub { w with heap := w.heap.setIfInBounds r o2 } (h.put r o2) ∧ Keep w h { w with heap := w.heap.setIfInBounds r o2 } (h.put r o2) := by
  have hw := hs _ _ hr
  have hlt := (Array.getElem?_eq_some_iff.1 hw).1
  refine ⟨fun k o' hk => ?_, rfl, rfl, rfl, by simp, fun k hk hn => ?_⟩
  · simp only [PHeap.put] at hk
    split at hk
    · rename_i e; subst e; cases hk; simp [hlt]
    · rename_i e
      show (w.heap.setIfInBounds r o2)[k]? = _
      rw [Array.getElem?_setIfInBounds_ne (Ne.symm e)]; exact hs _ _ hk
  · have : k ≠ r := fun e => by subst e; rw [hr] at hn; cases hn
    refine ⟨by simp only [PHeap.put]; rw [if_neg this]; exact hn, ?_⟩
    show (w.heap.setIfInBounds r o2)[k]? = _
    rw [Array.getElem?_setIfInBounds_ne (Ne.symm this)]

theorem sameBits_plain {ks : Bool} {a b : LV} {va vb : Value} (ha : VR ρ a va) (hb : VR ρ b vb) (he : eqKey ks a b = some true) : Instr.sameBits 10000 vb va = true := by
  cases ks
  · simp only [eqKey] at he
    split at he
    · split at he
      · split at he
        · rename_i hk
          have := kNo_inj hk; subst this
          cases ha; cases hb
          rw [eqI_eq] at he
          simp at he
          subst he
          simp [Instr.sameBits]
        · cases he
      · cases he
    · cases he
  · have := eqKey_sound (d := .string) (.inl ⟨rfl, rfl⟩) ha hb he
    simp only [eqKey] at he
    split at he
    · split at he
      · cases ha; cases hb
        simp only [Instr.sameNow, Option.some.injEq, beq_bytes, beq_iff_eq] at this
        rw [this]
        simp [Instr.sameBits, beq_bytes]
      · cases he
    · cases he

theorem upd_run {t key elem : TypeId} {ks : Bool} {r clock : Nat} {es : List MapEntry} {vk vv : Value} {res : Option (Nat × Value)} {w : World}
    (hu : P.underlying t = some (.map key elem)) (hks : keyCls P key = some ks) (hw : w.heap[r]? = some (.map ⟨es⟩ clock)) (hf : ∀ d, P.underlying key = some d → Instr.findNow d vk es 0 = some res)
    (hst : ∀ i v, res = some (i, v) → ∃ e, es[i]? = some e ∧ Instr.sameBits 10000 e.key vk = true) :
    (Instr.mapUpdate t (.map (some r)) vk vv).run P w = .ok () { w with heap := w.heap.setIfInBounds r (match res with
      | some (i, _) => .map ⟨es.modify i fun e => { e with key := vk, val := vv }⟩ clock
      | none => .map ⟨es ++ [{ key := vk, val := vv, born := clock }]⟩ (clock + 1)) } := by
  obtain ⟨d, hud, _⟩ := keyCls_sound hks
  have hfn := hf d hud
  have hgo : (getObj r).run P w = .ok (.map ⟨es⟩ clock) w := by simp [getObj, Sem.run, hw]
  have hso : ∀ o, (setObj r o).run P w = .ok () { w with heap := w.heap.setIfInBounds r o } := fun o => by simp [setObj, Sem.run, hw]
  cases res with
  | none => simp [Instr.mapUpdate, run_underlying hu, hgo, checkKey_run hks, Instr.findKey, run_underlying hud, hfn, hso]
  | some p =>
    obtain ⟨i, v⟩ := p
    obtain ⟨e, he, hsb⟩ := hst i v rfl
    simp [Instr.mapUpdate, run_underlying hu, hgo, checkKey_run hks, Instr.findKey, run_underlying hud, hfn, he, Instr.keyThatStays, hsb, hso]
end
end Go.Ev
