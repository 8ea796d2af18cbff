import Derived.Test.YtifjnoabmbckpaaGreatDoorDenS5
namespace Go.Den
open Go
section
variable {P : Program} {n : Nat} {w0 : World} {h0 : PHeap} {s : St} {bs : Nat → Nat} {h : PHeap} {a : Act} {w : World}

/-- What holds of the concrete state at an end. -/
def QR (n : Nat) (w0 : World) (h0 : PHeap) (Q : Ex → St → PHeap → Prop) : Exit → Act → World → Prop
  | .normal, a, w => ∃ s bs h, Q .normal s h ∧ Rel n w0 h0 s bs h a w
  | .exit k, a, w => ∃ s bs h, Q (.exit k) s h ∧ Rel n w0 h0 s bs h a w
  | .ret, a, w => ∃ s bs h, Q .ret s h ∧ Rel n w0 h0 s bs h a w
  | _, _, _ => False

theorem wanted_none {o : Oper} {y : Nat → Option Bool} (hg : o.guard = none) : Region.wanted o y = true := by simp [Region.wanted, hg]

theorem yielded_bool (r : Rel n w0 h0 s bs h a w) {ops : Array Oper} {j d : Nat} {c : Bool} (hd : (ops[j]?).bind (·.dst) = some d) (hr : s.regs d = .val (.bool c)) : yielded ops a.tmps j = some c := by
  have hdn : d < n := by
    rcases Nat.lt_or_ge d n with h1 | h1
    · exact h1
    · have := (r.big d 0 0 h1).2 _ hr; simp [undef] at this
  have hv := r.regs d hdn
  rw [hr] at hv
  simp only [SV.sat] at hv
  have hsz : d < a.tmps.size := by rw [r.size]; exact hdn
  have : a.tmps[d]? = some (.bool c) := by
    rw [Array.getD_eq_getD_getElem?] at hv
    cases hx : a.tmps[d]? with
    | none => rw [Array.getElem?_eq_none_iff] at hx; omega
    | some v => rw [hx] at hv; simp at hv; rw [hv]
  unfold yielded
  rw [hd]
  simp [this]

theorem yielded_tuple (r : Rel n w0 h0 s bs h a w) {ops : Array Oper} {j d : Nat} {c : Array Value} (hd : (ops[j]?).bind (·.dst) = some d) (hr : s.regs d = .val (.tuple c)) : yielded ops a.tmps j = none := by
  unfold yielded
  rw [hd]
  simp only [Option.bind_some]
  rcases Nat.lt_or_ge d n with h1 | h1
  · have hv := r.regs d h1
    rw [hr] at hv
    simp only [SV.sat] at hv
    rw [Array.getD_eq_getD_getElem?] at hv
    cases hx : a.tmps[d]? with
    | none => rfl
    | some v => rw [hx] at hv; simp at hv; rw [hv]
  · rw [Array.getElem?_eq_none (by rw [r.size]; exact h1)]

/-- An operation with its guard. -/
theorem denG_sound {ops : Array Oper} {esc : Nat → Bool} {o : Oper} {so : SOper} {K : SV → St → PHeap → Prop} {next : Act → World → Prop} {Q : Exit → Act → World → Prop}
    (hl : lowOper P esc ops o = some so) (r : Rel n w0 h0 s bs h a w) (hd : denG P so s h K) (hn : Nxt n w0 h0 s bs a K fun v => next (a.put o.dst v)) :
    if Region.wanted o (yielded ops a.tmps) then o.wp P a w next Q else next (a.put o.dst undef) w := by
  rw [lowOper_eq] at hl
  split at hl
  · rename_i op g hop hg
    cases hl
    have hskip : K (.val undef) s h → next (a.put o.dst undef) w := fun hk => hn _ s h bs _ w hk rfl r (Agree.refl bs) (Nat.le_refl _) noLoc
    unfold lowGuard at hg
    split at hg
    · rename_i hgu
      cases hg
      rw [if_pos (wanted_none hgu)]
      exact denOp_sound hop r hd hn
    · rename_i j b hgu
      split at hg
      · rename_i d _ _ _ _ _ hnth
        have hdst : (ops[j]?).bind (·.dst) = some d := by
          rw [nthL_eq, Array.getElem?_toList] at hnth
          rw [hnth]; rfl
        cases hg
        simp only [denG] at hd
        split at hd
        · rename_i c hc
          have hy := yielded_bool r hdst hc
          have hw : Region.wanted o (yielded ops a.tmps) = (c == b) := by
            simp only [Region.wanted, hgu, hy]; cases c <;> cases b <;> rfl
          rw [hw]
          cases b <;> cases c <;> simp only [br, lit_eq hc] at hd
          · rw [if_pos (by decide)]; exact denOp_sound hop r hd hn
          · rw [if_neg (by decide)]; exact hskip hd
          · rw [if_neg (by decide)]; exact hskip hd
          · rw [if_pos (by decide)]; exact denOp_sound hop r hd hn
        · rename_i c hc
          have hy := yielded_tuple r hdst hc
          have hw : Region.wanted o (yielded ops a.tmps) = false := by
            simp only [Region.wanted, hgu, hy]; rfl
          rw [hw, if_neg (by decide)]
          exact hskip hd
        · exact hd.elim
      · cases hg
  · cases hl

theorem lowOper_dst {ops : Array Oper} {esc : Nat → Bool} {o : Oper} {so : SOper} (hl : lowOper P esc ops o = some so) : so.dst = o.dst := by
  rw [lowOper_eq] at hl
  split at hl
  · cases hl; rfl
  · cases hl

theorem denL_sound {ops : Array Oper} {esc : Nat → Bool} {Q : Ex → St → PHeap → Prop} : ∀ {l : List Oper} {sl : List SOper} {s : St} {bs : Nat → Nat} {h : PHeap} {a : Act} {w : World},
    lowOpers P esc ops l = some sl → Rel n w0 h0 s bs h a w → denL P n sl (Q .normal) s h → wpList P ops (QR n w0 h0 Q) l a w
  | [], sl, s, bs, h, a, w, hl, r, hd => by
    cases hl
    exact ⟨s, bs, h, hd, r⟩
  | o :: l, sl, s, bs, h, a, w, hl, r, hd => by
    unfold lowOpers at hl
    split at hl
    · rename_i x xs hx hxs
      cases hl
      unfold denL at hd
      have hdst := lowOper_dst hx
      have key := denG_sound (P := P) (Q := QR n w0 h0 Q) (next := wpList P ops (QR n w0 h0 Q) l) hx r hd ?_
      · unfold wpList
        split
        · rename_i hw; rw [if_pos hw] at key; exact .inl key
        · rename_i hw; rw [if_neg hw] at key; exact key
      · intro y s' h' bs' v w' hk hs r' _ _ hlt
        rw [hdst] at hk
        cases hd : o.dst with
        | none =>
          rw [hd] at hk
          exact denL_sound hxs r' hk
        | some d =>
          rw [hd] at hk
          simp only at hk
          split at hk
          · rename_i hb
            exact denL_sound hxs (r'.put (Nat.blt_eq.mp hb) hs hlt) hk
          · exact hk.elim
    · cases hl

/-- A loop whose measure is no function of the state. -/
theorem wp_loopM {c : Code} {Q : Exit → Act → World → Prop} (I : Nat → Act → World → Prop)
    (round : ∀ m a w, I m a w → c.wp P (Exit.then (fun a' w' => ∃ m', m' < m ∧ I m' a' w') Q) a w) {m : Nat} {a : Act} {w : World} (hI : I m a w) : (Code.loop c).wp P Q a w := by
  intro b k cs
  have key : ∀ m a w, I m a w →
      ∃ e a' w', Q e a' w' ∧ Arrives P (lone (b.at a (.code c :: .inLoop c :: k)) cs w) b k cs e a' w' := by
    intro m
    induction m using Nat.strongRecOn with
    | _ m ih =>
      intro a w hI
      obtain ⟨e, a₁, w₁, hq, harr⟩ := round m a w hI b (.inLoop c :: k) cs
      cases e with
      | normal =>
        obtain ⟨m', hlt, hI₁⟩ := hq
        obtain ⟨e₂, a₂, w₂, hq₂, harr₂⟩ := ih m' hlt a₁ w₁ hI₁
        exact ⟨e₂, a₂, w₂, hq₂, .of_steps (Steps.trans harr (.one step_inLoop)) harr₂⟩
      | exit id => exact ⟨_, a₁, w₁, hq, .pass (x := .inLoop c) rfl (fun _ _ => .inl (by simp)) harr⟩
      | goto l => exact ⟨_, a₁, w₁, hq, .pass (x := .inLoop c) rfl (fun _ _ => .inl (by simp)) harr⟩
      | ret => exact ⟨_, a₁, w₁, hq, .pass (x := .inLoop c) rfl (fun _ _ => .inl (by simp)) harr⟩
      | panic ch => exact ⟨_, a₁, w₁, hq, .pass (x := .inLoop c) rfl (fun _ _ => .inl (by simp)) harr⟩
      | outgrown => exact ⟨_, a₁, w₁, hq, .pass (x := .inLoop c) rfl (fun _ _ => .inl (by simp)) harr⟩
  obtain ⟨e, a', w', hq, harr⟩ := key m a w hI
  exact ⟨e, a', w', hq, .of_steps (.one step_loop) harr⟩

theorem fitR_look {f : Nat → SV} {j : Nat} {x : SV} : ∀ {l : List (Nat × SV)}, fitR f l → lookN j l = some x → f j = x
  | [], _, hx => by cases hx
  | [(i, y)], hf, hx => by
    simp only [lookN] at hx
    by_cases e : j = i
    · subst e; rw [beqSelf] at hx; cases hx; exact hf
    · rw [beqNe e] at hx; cases hx
  | (i, y) :: z :: l, hf, hx => by
    simp only [lookN] at hx
    by_cases e : j = i
    · subst e; rw [beqSelf] at hx; cases hx; exact hf.1
    · rw [beqNe e] at hx; exact fitR_look hf.2 hx

theorem fitL_get {f g : Nat → List Value} : ∀ {k i : Nat}, fitL f g k → i < k → f i = g i
  | 0, i, _, hi => by omega
  | 1, i, hf, hi => by
    have : i = 0 := by omega
    subst this; exact hf
  | k + 2, i, hf, hi => by
    by_cases e : i = k + 1
    · subst e; exact hf.1
    · exact fitL_get hf.2 (by omega)

theorem dedupN_mem {j : Nat} : ∀ {l : List Nat}, memN j (dedupN l) = memN j l
  | [] => rfl
  | x :: l => by
    simp only [dedupN]
    cases hm : memN x (dedupN l) with
    | true =>
      simp only [cond_true, memN, dedupN_mem (l := l)]
      by_cases e : j = x
      · subst e; rw [beqSelf]; rw [dedupN_mem] at hm; simp [hm]
      · rw [beqNe e]; simp
    | false => simp only [cond_false, memN, dedupN_mem (l := l)]

theorem Rel.toLoop {s' : St} {bs' : Nat → Nat} {h' : PHeap} {a' : Act} {w' : World} {ws : List Nat} {V : List (Nat × SV)} {L : List (Nat × List Value)}
    (r0 : Rel n w0 h0 s bs h a w) (r : Rel n w0 h0 s' bs' h' a' w') (hv : vOk s.nl ws V) (hfR : fitR s'.regs V) (hfL : fitL s'.locs (mkSt s ws V L).locs s.nl) (hnl : s.nl ≤ s'.nl)
    (hout : ∀ j, memN j ws = false → s'.regs j = s.regs j) : Rel n w0 h0 (mkSt s ws V L) bs' h' a' w' where
  size := r.size
  defers := r.defers
  regs := fun j hj => by
    have hr := r.regs j hj
    simp only [mkSt]
    cases hl : lookN j V with
    | some x => rw [fitR_look hfR hl] at hr; exact hr
    | none =>
      cases hm : memN j ws with
      | true => trivial
      | false => rw [hout j hm] at hr; exact hr
  big := fun j i o hj => by
    have hb := r.big j i o hj
    simp only [mkSt]
    cases hl : lookN j V with
    | some x => rw [fitR_look hfR hl] at hb; exact hb
    | none =>
      cases hm : memN j ws with
      | true => exact ⟨(fun e => by cases e), fun v e => by cases e⟩
      | false => rw [hout j hm] at hb; exact hb
  sub := r.sub
  keep := r.keep
  loc := fun i hi => by
    have hi' : i < s.nl := hi
    rw [← fitL_get hfL hi']
    exact r.loc i (Nat.lt_of_lt_of_le hi' hnl)
  inj := fun i j hi hj => r.inj i j (Nat.lt_of_lt_of_le (show i < s.nl from hi) hnl) (Nat.lt_of_lt_of_le (show j < s.nl from hj) hnl)
  lt := fun j i o hj he => by
    simp only [mkSt] at he ⊢
    cases hl : lookN j V with
    | some x => rw [hl] at he; exact (vOk_look hv hl).2 i o he
    | none =>
      rw [hl] at he
      cases hm : memN j ws with
      | true => rw [hm] at he; cases he
      | false => rw [hm] at he; exact r0.lt j i o hj he
end
end Go.Den
