import Derived.Test.YtifjnoabmbckpaaGreatDoorEv7
/- Appends. -/
namespace Go.Ev
open Go Go.Den
section
variable {P : Program} {h : PHeap} {f : Operand → Value}

theorem exec_append {x y : Operand} {t t2 ty : TypeId} {vx vy : Value} (hx : f x = vx) (hy : f y = vy) (w : World) :
    (execOp f (mkO (.call ⟨.builtin .append, ⟨[x, y]⟩, ⟨[t, t2]⟩⟩) ty)).run P w = ((Builtin.append_ #[t, t2] ty #[vx, vy]).run P w).andThen fun v w' => .ok (.value v) w' := by
  simp [execOp, mkO, resolve, hx, hy, invoke, builtin]

theorem raw_append_in {x y : Operand} {t t2 ty e te : TypeId} {i : TypeInfo} {n m cap b o : Nat} {vy : Value} {ys cs : List Value} {Q : Value → PHeap → Prop}
    (hu : P.underlying t = some (.slice e)) (hi : P.info? e = some i) (hx : f x = .slice (some ⟨b, o, none⟩) n cap) (hy : f y = vy) (hb : h b = some (.cells ⟨cs⟩ te (0, 0)))
    (hsrc : SrcH P h i.size t2 vy m ys) (hfit : n + m ≤ cap) (hlen : o + (n + m) * i.size ≤ cs.length)
    (hq : Q (.slice (some ⟨b, o, none⟩) (n + m) cap) (h.put b (.cells ⟨splice cs (o + n * i.size) ys⟩ te (0, 0)))) :
    Raw P (execOp f (mkO (.call ⟨.builtin .append, ⟨[x, y]⟩, ⟨[t, t2]⟩⟩) ty)) h Q := by
  intro w hs
  have hsr := hsrc w hs
  have hst := Go.run_storeCells_atF P b (o + n * i.size) te (0, 0) ys 0 ⟨cs⟩ w (hs _ _ hb) (Nat.zero_le _)
    (by
      have h2 := hsr.newsLen
      simp only [Nat.add_zero, List.size_toArray, h2]
      rw [Nat.add_assoc, ← Nat.add_mul]; exact hlen) hsr.one
  have hrun : (Builtin.append_ #[t, t2] ty #[.slice (some ⟨b, o, none⟩) n cap, vy]).run P w = .ok (.slice (some ⟨b, o, none⟩) (n + m) cap) (w.setRow b ⟨splice cs (o + n * i.size) ys⟩) := by
    have hst' : (storeCells ⟨b, o + n * i.size, none⟩ ys).run P w = .ok () (w.setRow b ⟨splice cs (o + n * i.size) ys⟩) := by
      rw [hst]; simp [splice]
    rcases hsr.kind with ⟨e', hk⟩ | hk <;> simp [Builtin.append_, run_underlying hu, run_underlying hk, sizeOf, typeInfo, hi, hsr.len, hfit, hsr.cells, addNone, hst']
  rw [exec_append hx hy, hrun]
  refine ⟨_, _, _, h.put b (.cells ⟨splice cs (o + n * i.size) ys⟩ te (0, 0)), rfl, .inl rfl, hq, ?_, ?_⟩
  · intro k o' hk
    simp only [PHeap.put] at hk
    split at hk
    · rename_i e1; subst e1; cases hk
      exact setRow_heap _ _ _ _ _ _ (hs _ _ hb)
    · rename_i e1
      rw [setRow_other _ _ _ _ e1]; exact hs _ _ hk
  · refine ⟨rfl, rfl, rfl, by rw [size_setRow]; exact Nat.le_refl _, fun k hk hn => ?_⟩
    have : k ≠ b := fun e => by subst e; rw [hb] at hn; cases hn
    exact ⟨by simp only [PHeap.put]; rw [if_neg this]; exact hn, setRow_other _ _ _ _ this⟩

theorem raw_append_grow {x y : Operand} {t t2 ty e : TypeId} {i : TypeInfo} {z : Value} {n m cap b o : Nat} {vy : Value} {xs ys : List Value} {Q : Value → PHeap → Prop}
    (hu : P.underlying t = some (.slice e)) (hi : P.info? e = some i) (hz : i.zero = some z) (hzc : z.cells.size = i.size) (hx : f x = .slice (some ⟨b, o, none⟩) n cap) (hy : f y = vy)
    (hrow : h.row b o xs) (hl : xs.length = n * i.size) (hsrc : SrcH P h i.size t2 vy m ys) (hlt : cap < n + m) (hbig : (16 * (n + m) + 16384) * i.bytes ≤ 281474976710656) (h63 : n + m ≤ 1000000000)
    (hq : ∀ b2 cap2 rest, h b2 = none → n + m ≤ cap2 → rest.length = (cap2 - (n + m)) * i.size → Q (.slice (some ⟨b2, 0, none⟩) (n + m) cap2) (h.put b2 (.cells ⟨xs ++ ys ++ rest⟩ e (0, 0)))) :
    Raw P (execOp f (mkO (.call ⟨.builtin .append, ⟨[x, y]⟩, ⟨[t, t2]⟩⟩) ty)) h Q := by
  intro w hs
  have hsr := hsrc w hs
  have hs' : Sub w.drew h := hs
  have hold : (Builtin.firstCells i.size n (.slice (some ⟨b, o, none⟩) n cap)).run P w.drew = .ok xs.toArray w.drew := by
    show (loadCells ⟨b, o, none⟩ (n * i.size)).run P w.drew = _
    rw [← hl]
    exact run_loadCells_list w.drew _ xs fun j v hj => hs'.row hrow j v hj
  have hnc := nextcap_le hlt
  have hle : Builtin.nextslicecap (n + m) cap * i.bytes ≤ 281474976710656 := Nat.le_trans (Nat.mul_le_mul_right _ hnc) hbig
  have hrun := run_append_grow_src w t t2 ty e i z hu hi hz (some ⟨b, o, none⟩) n cap xs hold vy m ys hsr hlt (by omega) hle
  have hcap : n + m ≤ grownCap w (n + m) cap e := by
    unfold grownCap; simp only [Question.cut]; omega
  rw [exec_append hx hy, hrun]
  have hobj : (Obj.cells ((xs ++ ys).toArray ++ Builtin.zeroCells z.cells (grownCap w (n + m) cap e - (n + m))) e) =
      .cells ⟨xs ++ ys ++ (Builtin.zeroCells z.cells (grownCap w (n + m) cap e - (n + m))).toList⟩ e (0, 0) := by
    congr 1
    apply Array.ext'; simp
  rw [hobj]
  refine ⟨_, _, _, h.put w.heap.size _, rfl, .inl rfl, hq _ _ _ hs.fresh hcap ?_, hs'.allocReal _, ?_⟩
  · simp [Builtin.zeroCells, hzc]
  · have := Keep.allocReal w.drew h (.cells ⟨xs ++ ys ++ (Builtin.zeroCells z.cells (grownCap w (n + m) cap e - (n + m))).toList⟩ e (0, 0))
    exact ⟨this.os, this.tape, this.output, this.size, this.out⟩

theorem raw_append0 {x y : Operand} {t t2 ty e : TypeId} {i : TypeInfo} {n cap : Nat} {a : Option Addr} {vy : Value} {ys : List Value} {Q : Value → PHeap → Prop}
    (hu : P.underlying t = some (.slice e)) (hi : P.info? e = some i) (hx : f x = .slice a n cap) (hy : f y = vy) (hsrc : SrcH P h i.size t2 vy 0 ys) (hfit : n ≤ cap) (hq : Q (.slice a n cap) h) :
    Raw P (execOp f (mkO (.call ⟨.builtin .append, ⟨[x, y]⟩, ⟨[t, t2]⟩⟩) ty)) h Q := by
  intro w hs
  have hsr := hsrc w hs
  have hys : ys = [] := List.eq_nil_of_length_eq_zero (by simpa using hsr.newsLen)
  subst hys
  have hrun : (Builtin.append_ #[t, t2] ty #[.slice a n cap, vy]).run P w = .ok (.slice a n cap) w := by
    cases a <;> rcases hsr.kind with ⟨e', hk⟩ | hk <;> simp [Builtin.append_, run_underlying hu, run_underlying hk, sizeOf, typeInfo, hi, hsr.len, hfit, hsr.cells, storeCells]
  rw [exec_append hx hy, hrun]
  exact ⟨_, _, w, h, rfl, .inl rfl, hq, hs, Keep.refl w h⟩
end
end Go.Ev
