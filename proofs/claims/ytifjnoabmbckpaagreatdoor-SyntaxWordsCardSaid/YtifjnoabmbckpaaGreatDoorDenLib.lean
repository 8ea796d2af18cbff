import Derived.Test.YtifjnoabmbckpaaGreatDoorDenS11
import Derived.Deep.AppendSrc
namespace Go.Den
open Go
section
variable {P : Program} {h : PHeap} {ρ : Operand → Value}

/-! ### Appending -/

/-- A slice of the call's own, known up to its capacity: n elements of k cells each. -/
def Own (h : PHeap) (e : TypeId) (k : Nat) (v : Value) (n : Nat) (xs : List Value) : Prop :=
  xs.length = n * k ∧ ((v = .slice none 0 0 ∧ n = 0) ∨
    ∃ b cap rest, v = .slice (some ⟨b, 0, none⟩) n cap ∧ h b = some (.cells ⟨xs ++ rest⟩ e (0, 0)) ∧ rest.length = (cap - n) * k ∧ n ≤ cap)

def bytesT (P : Program) (t : TypeId) : Option Nat := (P.info? t).map (·.bytes)

theorem bytesT_run {t : TypeId} {k : Nat} {w : World} (ht : bytesT P t = some k) : ∃ i, (typeInfo t).run P w = .ok i w ∧ i.bytes = k := by
  unfold bytesT at ht
  unfold typeInfo
  cases hu : P.info? t with
  | none => rw [hu] at ht; cases ht
  | some i =>
    rw [hu] at ht
    exact ⟨i, by simp [program, Sem.run, hu], by simpa using ht⟩

theorem growBy_le (m : Nat) : ∀ (r c : Nat), Builtin.growBy m r c ≤ (c + 1024) * 2 ^ r
  | 0, c => by simp [Builtin.growBy]
  | r + 1, c => by
    unfold Builtin.growBy
    have hp : 1 ≤ 2 ^ (r + 1) := Nat.one_le_two_pow
    split
    · have := Nat.mul_le_mul_left (c + 1024) hp
      rw [Nat.mul_one] at this
      exact Nat.le_trans (Nat.le_add_right _ _) this
    · refine Nat.le_trans (growBy_le m r _) ?_
      rw [Nat.pow_succ, Nat.mul_comm (2 ^ r) 2, ← Nat.mul_assoc]
      exact Nat.mul_le_mul_right _ (by omega)

theorem nextcap_le {need cap : Nat} (hc : cap < need) : Builtin.nextslicecap need cap ≤ 16 * need + 16384 := by
  unfold Builtin.nextslicecap
  split
  · omega
  · split
    · omega
    · have := growBy_le need 4 cap
      generalize Builtin.growBy need 4 cap = g at *
      have e : (cap + 1024) * 2 ^ 4 = 16 * cap + 16384 := by simp; omega
      rw [e] at this
      omega

/-- A source of an append, as far as the heap is known. -/
def SrcH (P : Program) (h : PHeap) (k : Nat) (t : TypeId) (v : Value) (m : Nat) (ys : List Value) : Prop := ∀ w, Sub w h → Go.Src P k t v m ys w

theorem row_of {b : Nat} : ∀ (ys : List Value) (o : Nat), (∀ j v, ys[j]? = some v → h.cell b (o + j) = some v) → h.row b o ys
  | [], o, _ => trivial
  | [y], o, hc => hc 0 y rfl
  | y :: z :: ys, o, hc => ⟨hc 0 y rfl, row_of (z :: ys) (o + 1) fun j v hj => by
      have := hc (j + 1) v (by simpa using hj); rw [show o + 1 + j = o + (j + 1) by omega]; exact this⟩

theorem allOne_mem : ∀ {l : List Value}, allOne l = true → ∀ x ∈ l, x.oneCell' = true
  | [], _, x, hx => by cases hx
  | y :: l, hl, x, hx => by
    simp only [allOne, Bool.and_eq_true] at hl
    cases hx with
    | head => exact hl.1
    | tail _ hm => exact allOne_mem hl.2 x hm

theorem SrcH.row {k m c b o : Nat} {t e : TypeId} {ys : List Value} (hk : P.underlying t = some (.slice e)) (hl : ys.length = m * k) (hr : h.row b o ys) (h1 : allOne ys = true) : SrcH P h k t (.slice (some ⟨b, o, none⟩) m c) m ys :=
  fun w hs => Go.Src.ofSlice w hk _ m c ys hl (fun j u hj => hs.row hr j u hj) (allOne_mem h1)

theorem SrcH.nil {k c : Nat} {t e : TypeId} (hk : P.underlying t = some (.slice e)) : SrcH P h k t (.slice none 0 c) 0 [] := fun w _ => Go.Src.ofNil w hk c

theorem SrcH.string {t : TypeId} (hk : P.underlying t = some .string) (s : ByteArray) : SrcH P h 1 t (.string s) s.size (byteCells s) := fun w _ => Go.Src.ofString w hk s

theorem Own.row {e : TypeId} {k n cap b : Nat} {xs : List Value} (ho : Own h e k (.slice (some ⟨b, 0, none⟩) n cap) n xs) : h.row b 0 xs := by
  obtain ⟨hl, ho⟩ := ho
  rcases ho with ⟨ho, _⟩ | ⟨b', cap', rest, hv, hb, _, _⟩
  · cases ho
  · cases hv
    refine row_of xs 0 fun j v hj => ?_
    have hlt : j < xs.length := (List.getElem?_eq_some_iff.1 hj).1
    simp [PHeap.cell, hb, List.getElem?_append_left hlt, hj]

theorem raw_append {c : Call} {x y : Operand} {t t2 e : TypeId} {i : TypeInfo} {n m : Nat} {z vx vy : Value} {xs ys : List Value} {ty : TypeId}
    (hc : c.callee = .builtin .append) (ha : c.args = #[x, y]) (hts : c.argTypes = #[t, t2]) (hu : P.underlying t = some (.slice e)) (hi : P.info? e = some i) (hz : i.zero = some z)
    (hx : ρ x = vx) (hy : ρ y = vy) (ho : Own h e i.size vx n xs) (hsrc : SrcH P h i.size t2 vy m ys) (hzc : z.cells.size = i.size) (hm : 0 < m) (hbig : (16 * (n + m) + 16384) * i.bytes ≤ 281474976710656) (h63 : n + m ≤ 1000000000) :
    Raw P (execOp ρ (mkO (.call c) ty)) h fun v h' => ∃ b cap rest, v = .slice (some ⟨b, 0, none⟩) (n + m) cap ∧ h' = h.put b (.cells ⟨xs ++ ys ++ rest⟩ e (0, 0)) ∧ rest.length = (cap - (n + m)) * i.size ∧ n + m ≤ cap ∧
      (h b = none ∨ ∃ c, vx = .slice (some ⟨b, 0, none⟩) n c) := by
  intro w hs
  have hsr := hsrc w hs
  have hexec : (execOp ρ (mkO (.call c) ty)).run P w = ((Builtin.append_ #[t, t2] ty #[vx, vy]).run P w).andThen fun v w' => .ok (.value v) w' := by
    simp [execOp, mkO, resolve, hc, ha, hts, hx, hy, invoke, builtin]
  have grow : ∀ cap (base : Option Addr), vx = .slice base n cap → (Builtin.firstCells i.size n (.slice base n cap)).run P w.drew = .ok xs.toArray w.drew → cap < n + m → ∃ nn v w' h', (execOp ρ (mkO (.call c) ty)).run P w = .ok nn w' ∧ ((nn = .value v) ∨ (nn = .skip ∧ v = undef)) ∧
      (∃ b cap rest, v = .slice (some ⟨b, 0, none⟩) (n + m) cap ∧ h' = h.put b (.cells ⟨xs ++ ys ++ rest⟩ e (0, 0)) ∧ rest.length = (cap - (n + m)) * i.size ∧ n + m ≤ cap ∧
      (h b = none ∨ ∃ c, vx = .slice (some ⟨b, 0, none⟩) n c)) ∧ Sub w' h' ∧ Keep w h w' h' := by
    intro cap base hvx hold hlt
    have hnc := nextcap_le hlt
    have hle : Builtin.nextslicecap (n + m) cap * i.bytes ≤ 281474976710656 := Nat.le_trans (Nat.mul_le_mul_right _ hnc) hbig
    have hrun := run_append_grow_src w t t2 ty e i z hu hi hz base n cap xs hold vy m ys hsr hlt (by omega) hle
    have hcap : n + m ≤ grownCap w (n + m) cap e := by
      unfold grownCap; simp only [Question.cut]; omega
    rw [hexec, hvx, hrun]
    have hobj : (Obj.cells ((xs ++ ys).toArray ++ Builtin.zeroCells z.cells (grownCap w (n + m) cap e - (n + m))) e) =
        .cells ⟨xs ++ ys ++ (Builtin.zeroCells z.cells (grownCap w (n + m) cap e - (n + m))).toList⟩ e (0, 0) := by
      congr 1
      apply Array.ext'; simp
    rw [hobj]
    have hs' : Sub w.drew h := hs
    refine ⟨_, _, _, h.put w.heap.size _, rfl, .inl rfl, ⟨w.heap.size, _, _, rfl, rfl, ?_, hcap, .inl hs.fresh⟩, hs'.allocReal _, ?_⟩
    · simp [Builtin.zeroCells, hzc]
    · have := Keep.allocReal w.drew h (.cells ⟨xs ++ ys ++ (Builtin.zeroCells z.cells (grownCap w (n + m) cap e - (n + m))).toList⟩ e (0, 0))
      exact ⟨this.os, this.tape, this.output, this.size, this.out⟩
  have ho' := ho
  obtain ⟨hl, hov⟩ := ho
  rcases hov with ⟨hvx, hn⟩ | ⟨b, cap, rest, hvx, hb, hrest, hle⟩
  · subst hn
    have : xs = [] := List.eq_nil_of_length_eq_zero (by simpa using hl)
    subst this
    exact grow 0 none hvx (by rfl) (by omega)
  · by_cases hfit : n + m ≤ cap
    · have hst := Go.run_storeCells_atF P b (n * i.size) e (0, 0) ys 0 ⟨xs ++ rest⟩ w (hs _ _ hb) (Nat.zero_le _)
        (by
          have h2 := hsr.newsLen
          simp only [Nat.add_zero, List.size_toArray, List.length_append, hl, hrest, h2]
          rw [← Nat.add_mul, ← Nat.add_mul]
          exact Nat.mul_le_mul_right _ (by omega)) hsr.one
      have hrun : (Builtin.append_ #[t, t2] ty #[.slice (some ⟨b, 0, none⟩) n cap, vy]).run P w = .ok (.slice (some ⟨b, 0, none⟩) (n + m) cap) (w.setRow b ⟨splice (xs ++ rest) (n * i.size) ys⟩) := by
        have hst' : (storeCells ⟨b, n * i.size, none⟩ ys).run P w = .ok () (w.setRow b ⟨splice (xs ++ rest) (n * i.size) ys⟩) := by
          rw [hst]; simp [splice]
        rcases hsr.kind with ⟨e', hk⟩ | hk <;> simp [Builtin.append_, run_underlying hu, run_underlying hk, sizeOf, typeInfo, hi, hsr.len, hfit, hsr.cells, addNone, hst']
      rw [hexec, hvx, hrun]
      have hsp : splice (xs ++ rest) (n * i.size) ys = xs ++ ys ++ rest.drop (m * i.size) := by
        unfold splice
        rw [← hl, List.take_left, List.drop_append, hsr.newsLen]
        simp [Nat.add_sub_cancel_left]
      rw [hsp]
      refine ⟨_, _, _, h.put b (.cells ⟨xs ++ ys ++ rest.drop (m * i.size)⟩ e (0, 0)), rfl, .inl rfl, ⟨b, cap, _, rfl, rfl, ?_, hfit, .inr ⟨cap, rfl⟩⟩, ?_, ?_⟩
      · rw [List.length_drop, hrest, ← Nat.sub_mul, Nat.sub_sub]
      · intro k o hk
        simp only [PHeap.put] at hk
        split at hk
        · rename_i e1; subst e1; cases hk
          exact setRow_heap _ _ _ _ _ _ (hs _ _ hb)
        · rename_i e1
          rw [setRow_other _ _ _ _ e1]; exact hs _ _ hk
      · refine ⟨rfl, rfl, rfl, by rw [size_setRow]; exact Nat.le_refl _, fun k hk hn => ?_⟩
        have : k ≠ b := fun e => by subst e; rw [hb] at hn; cases hn
        exact ⟨by simp only [PHeap.put]; rw [if_neg this]; exact hn, setRow_other _ _ _ _ this⟩
    · refine grow cap _ hvx ?_ (by omega)
      subst hvx
      have hs' : Sub w.drew h := hs
      have hrow := ho'.row
      show (loadCells ⟨b, 0, none⟩ (n * i.size)).run P w.drew = _
      rw [← hl]
      exact run_loadCells_list w.drew _ xs fun j v hj => hs'.row hrow j v hj
end
end Go.Den
