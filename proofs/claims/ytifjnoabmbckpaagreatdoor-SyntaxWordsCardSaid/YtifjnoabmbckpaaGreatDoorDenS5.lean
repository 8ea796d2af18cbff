import Derived.Test.YtifjnoabmbckpaaGreatDoorDenS4
namespace Go.Den
open Go
section
variable {P : Program} {n : Nat} {s : St} {h : PHeap}

theorem uponR_mono {R R' : Value → World → Prop} (hr : ∀ v w, R v w → R' v w) {x : Result Next} (hx : uponR P R x) : uponR P R' x := by
  unfold uponR at *
  split at hx
  · exact hr _ _ hx
  · exact Calls.mono hx fun e w he => by cases e <;> first | exact hr _ _ he | exact he
  · exact hx.elim

theorem Tri.mono {f : FuncId} {args : List Value} {Q Q' : Value → PHeap → Prop} (ht : Tri P f args h Q) (hq : ∀ v h', Q v h' → Q' v h') : Tri P f args h Q' :=
  fun w hw => uponR_mono (fun _ _ ⟨h', q, r⟩ => ⟨h', hq _ _ q, r⟩) (ht w hw)

theorem Raw.mono {x : Sem Next} {Q Q' : Value → PHeap → Prop} (ht : Raw P x h Q) (hq : ∀ v h', Q v h' → Q' v h') : Raw P x h Q' :=
  fun w hw => let ⟨m, v, w', h', a, b, c, d⟩ := ht w hw; ⟨m, v, w', h', a, b, hq _ _ c, d⟩

theorem br_mono {c : Bool} {X Y X' Y' : Prop} (hb : br c X Y) (hx : X → X') (hy : Y → Y') : br c X' Y' := by
  cases c
  · exact hy hb
  · exact hx hb

theorem bnd_mono {s : St} {oo : Option Operand} {d : Int} {K K' : Int → Prop} (hk : ∀ i, K i → K' i) (hd : bnd s oo d K) : bnd s oo d K' := by
  unfold bnd at *
  split at hd
  · exact hk _ hd
  · split at hd
    · exact hk _ hd
    · exact hd

theorem fillL_mono {s : St} : ∀ {ps : List (Nat × Nat × Operand)} {z : List Value} {K K' : List Value → Prop}, (∀ l, K l → K' l) → fillL s z ps K → fillL s z ps K'
  | [], z, K, K', hk, hd => hk _ hd
  | (off, n, x) :: l, z, K, K', hk, hd => by
    unfold fillL at hd ⊢
    split at hd
    · split at hd
      · exact fillL_mono hk hd
      · exact hd
    · exact hd

theorem denOp_frame {op : SOp} {K K' : SV → St → PHeap → Prop} (hd : denOp P op s h K)
    (hk : ∀ x s' h', K x s' h' → s'.regs = s.regs → s.nl ≤ s'.nl → K' x s' h') : denOp P op s h K' := by
  have hk0 : ∀ x h', K x s h' → K' x s h' := fun x h' hh => hk x s h' hh rfl (Nat.le_refl _)
  cases op with
  | mv x => exact hk0 _ _ hd
  | pick c x y =>
    simp only [denOp] at hd ⊢
    split at hd
    · exact br_mono hd (hk0 _ _) (hk0 _ _)
    · exact hd
  | alloc t z e =>
    cases e
    · exact hk _ _ _ hd rfl (Nat.le_succ _)
    · exact fun b hb => hk0 _ _ (hd b hb)
  | box t x e =>
    simp only [denOp] at hd ⊢
    split at hd
    · cases e
      · exact hk _ _ _ hd rfl (Nat.le_succ _)
      · exact fun b hb => hk0 _ _ (hd b hb)
    · exact hd
  | load agg k x =>
    simp only [denOp] at hd ⊢
    split at hd
    · split at hd
      · exact hk0 _ _ hd
      · exact hd
    · obtain ⟨l, a, b, c⟩ := hd; exact ⟨l, a, b, hk0 _ _ c⟩
    · exact hd
  | store k x y =>
    simp only [denOp] at hd ⊢
    split at hd
    · split at hd
      · split at hd
        · split at hd
          · exact hk _ _ _ hd rfl (Nat.le_refl _)
          · exact hd
        · obtain ⟨l, t, fz, a, b, c⟩ := hd; exact ⟨l, t, fz, a, b, hk0 _ _ c⟩
        · exact hd
      · exact hd
    · exact hd
  | nilCheck x =>
    simp only [denOp] at hd ⊢
    split at hd
    · exact hk0 _ _ hd
    · exact hk0 _ _ hd
    · exact hk0 _ _ hd
    · exact hd
  | fieldAddr f x =>
    simp only [denOp] at hd ⊢
    split at hd
    · exact hk0 _ _ hd
    · exact hk0 _ _ hd
    · exact hd
  | indexAddr f x y =>
    simp only [denOp] at hd ⊢
    split at hd
    · exact ⟨hd.1, hk0 _ _ hd.2⟩
    · exact hd
  | indexArr m k x y =>
    simp only [denOp] at hd ⊢
    split at hd
    · exact ⟨hd.1, hk0 _ _ hd.2⟩
    · exact hd
  | len str x =>
    cases str <;> simp only [denOp] at hd ⊢ <;> split at hd <;> first | exact hk0 _ _ hd | exact hd
  | call f args =>
    simp only [denOp] at hd ⊢
    split at hd
    · split at hd
      · exact hd.mono fun v h' => hk0 _ _
      · exact hd
    · exact hd
  | pure o t =>
    simp only [denOp] at hd ⊢
    split at hd
    · split at hd
      · exact hk0 _ _ hd
      · exact hd
    · exact hd
  | puref o t =>
    simp only [denOp] at hd ⊢
    split at hd
    · obtain ⟨v, a, b⟩ := hd; exact ⟨v, a, hk0 _ _ b⟩
    · exact hd
  | raw o t =>
    simp only [denOp] at hd ⊢
    split at hd
    · exact hd.mono fun v h' => hk0 _ _
    · exact hd
  | conv k x =>
    simp only [denOp] at hd ⊢
    split at hd
    · exact hk0 _ _ hd
    · exact hd
  | build z ps => exact fillL_mono (fun l => hk0 _ _) hd
  | buildSlice e m z ps => exact fillL_mono (fun l hd b hb => hk0 _ _ (hd b hb)) hd
  | field agg off k x =>
    simp only [denOp] at hd ⊢
    split at hd
    · split at hd
      · exact hk0 _ _ hd
      · exact hd
    · exact hd
  | idxS x i =>
    simp only [denOp] at hd ⊢
    split at hd
    · obtain ⟨a, c, b, d⟩ := hd; exact ⟨a, c, b, hk0 _ _ d⟩
    · exact hd
  | sliceS x lo hi =>
    simp only [denOp] at hd ⊢
    split at hd
    · exact bnd_mono (fun a ha => bnd_mono (fun b hb => ⟨hb.1, hk0 _ _ hb.2⟩) ha) hd
    · exact hd
  | sliceL k x lo hi =>
    simp only [denOp] at hd ⊢
    split at hd
    · exact bnd_mono (fun a ha => bnd_mono (fun b hb => ⟨hb.1, fun o' ho => hk0 _ _ (hb.2 o' ho)⟩) ha) hd
    · exact bnd_mono (fun a ha => bnd_mono (fun b hb => ⟨hb.1, hk0 _ _ hb.2⟩) ha) hd
    · exact hd
  | addS x y =>
    simp only [denOp] at hd ⊢
    split at hd
    · exact ⟨hd.1, hk0 _ _ hd.2⟩
    · exact hd
  | eqS neg x y =>
    simp only [denOp] at hd ⊢
    split at hd
    · cases neg <;> exact hk0 _ _ hd
    · exact hd
  | bytesS x =>
    simp only [denOp] at hd ⊢
    split at hd
    · obtain ⟨l, a, b, c⟩ := hd; exact ⟨l, a, b, hk0 _ _ c⟩
    · exact hk0 _ _ hd
    · exact hd
  | bad => exact hd

theorem lit_eq {s : St} {r : Nat} {b : Bool} (hr : s.regs r = .val (.bool b)) : s.lit r b = s := by
  unfold St.lit
  have : upd s.regs r (.val (.bool b)) = s.regs := by
    funext j
    by_cases e : j = r
    · subst e; rw [updSame, hr]
    · rw [updNe _ _ e]
  rw [this]

theorem litO_eq {s : St} {x : Operand} {b : Bool} (hr : s.ev x = .val (.bool b)) : s.litO x b = s := by
  cases x with
  | tmp t => exact lit_eq hr
  | _ => rfl

theorem denG_frame {o : SOper} {K K' : SV → St → PHeap → Prop} (hd : denG P o s h K)
    (hk : ∀ x s' h', K x s' h' → s'.regs = s.regs → s.nl ≤ s'.nl → K' x s' h') : denG P o s h K' := by
  have hk0 : ∀ x h', K x s h' → K' x s h' := fun x h' hh => hk x s h' hh rfl (Nat.le_refl _)
  unfold denG at *
  split at hd
  · exact denOp_frame hd hk
  · split at hd
    · rename_i c hc
      split at hd <;> cases c <;> simp only [br, lit_eq hc] at hd ⊢
      · exact hk0 _ _ hd
      · exact denOp_frame hd hk
      · exact denOp_frame hd hk
      · exact hk0 _ _ hd
    · exact hk0 _ _ hd
    · exact hd

theorem memN_cons_false {j d : Nat} {l : List Nat} (hm : memN j (d :: l) = false) : j ≠ d ∧ memN j l = false := by
  simp only [memN] at hm
  by_cases e : j = d
  · subst e; rw [beqSelf] at hm; cases hm
  · rw [beqNe e] at hm; exact ⟨e, hm⟩

theorem memN_append {j : Nat} : ∀ {l m : List Nat}, memN j (l ++ m) = (memN j l || memN j m)
  | [], m => by simp [memN]
  | x :: l, m => by
    simp only [List.cons_append, memN, memN_append (l := l)]
    cases Nat.beq j x <;> simp

theorem denL_frame : ∀ {l : List SOper} {s : St} {h : PHeap} {Q Q' : St → PHeap → Prop}, denL P n l Q s h →
    (∀ s' h', Q s' h' → (∀ j, memN j (writesOf l) = false → s'.regs j = s.regs j) → s.nl ≤ s'.nl → Q' s' h') → denL P n l Q' s h
  | [], s, h, Q, Q', hd, hq => hq s h hd (fun _ _ => rfl) (Nat.le_refl _)
  | o :: l, s, h, Q, Q', hd, hq => by
    unfold denL at hd ⊢
    refine denG_frame hd fun x s' h' hh hr hnl => ?_
    cases hdst : o.dst with
    | none =>
      rw [hdst] at hh
      refine denL_frame hh fun s'' h'' q hj hle => hq _ _ q (fun j hm => ?_) (Nat.le_trans hnl hle)
      simp only [writesOf, hdst] at hm
      rw [hj j hm, hr]
    | some d =>
      rw [hdst] at hh
      simp only at hh ⊢
      split at hh
      · refine denL_frame hh fun s'' h'' q hj hle => hq _ _ q (fun j hm => ?_) (Nat.le_trans hnl hle)
        simp only [writesOf, hdst] at hm
        obtain ⟨hne, hm⟩ := memN_cons_false hm
        rw [hj j hm, ← hr]; exact updNe _ _ hne
      · exact hh

theorem denTake_mono {op : SOp} {K K' : SV → Option (St → PHeap → Prop) → Prop} (hd : denTake P op s h K) (hk : ∀ x S, K x S → K' x S) : denTake P op s h K' := by
  unfold denTake at *
  split at hd
  · split at hd
    · split at hd
      · exact hk _ _ hd
      · exact hd
    · obtain ⟨l, a, b, c⟩ := hd; exact ⟨l, a, b, hk _ _ c⟩
    · exact hd
  · exact denOp_frame hd fun x _ _ hh _ _ => hk _ _ hh

theorem denTG_mono {o : SOper} {K K' : SV → St → Option (St → PHeap → Prop) → Prop} (hd : denTG P o s h K) (hk : ∀ x S, K x s S → K' x s S) : denTG P o s h K' := by
  unfold denTG at *
  split at hd
  · exact denTake_mono hd hk
  · split at hd
    · rename_i c hc
      split at hd <;> cases c <;> simp only [br, lit_eq hc] at hd ⊢
      · exact hk _ _ hd
      · exact denTake_mono hd hk
      · exact denTake_mono hd hk
      · exact hk _ _ hd
    · exact hk _ _ hd
    · exact hd

theorem putD_mono {d : Option Nat} {x : SV} {K K' : St → Prop} (hd : putD n d x s K) (hk : ∀ s', K s' → s'.nl = s.nl → (∀ j, d ≠ some j → s'.regs j = s.regs j) → K' s') : putD n d x s K' := by
  unfold putD at *
  split at hd
  · split at hd
    · exact hk _ hd rfl fun j hj => updNe _ _ (fun e => hj (by rw [e]))
    · exact hd
  · exact hk _ hd rfl fun _ _ => rfl

theorem penOk_mono {l : List (SOper × List Nat)} {i : Nat} : ∀ {pen : Pen} {R R' : Pen → Prop}, (∀ p, R p → R' p) → penOk l i s h pen R → penOk l i s h pen R'
  | [], R, R', hr, hp => hr _ hp
  | (k, S) :: pen, R, R', hr, hp => by
    unfold penOk at hp ⊢
    split at hp
    · exact penOk_mono hr hp
    · exact ⟨hp.1, penOk_mono (fun p => hr _) hp.2⟩

theorem allR_iff {α : Type} {p : α → Prop} : ∀ {l : List α}, allR l p ↔ ∀ x ∈ l, p x
  | [] => by simp [allR]
  | [x] => by simp [allR]
  | x :: y :: l => by simp [allR, allR_iff (l := y :: l)]

theorem memN_writes {o : SOper} {d j : Nat} (hd : o.dst = some d) : ∀ {l : List SOper}, o ∈ l → memN j (writesOf l) = false → j ≠ d
  | [], ho, _ => by cases ho
  | x :: l, ho, hm => by
    simp only [writesOf] at hm
    cases ho with
    | head =>
      rw [hd] at hm
      exact (memN_cons_false hm).1
    | tail _ ht =>
      split at hm
      · exact memN_writes hd ht (memN_cons_false hm).2
      · exact memN_writes hd ht hm

theorem readyL_mem {done : List Nat} : ∀ {l : List (SOper × List Nat)} {i : Nat} {p : Nat × SOper}, p ∈ readyL done i l → ∃ af, (p.2, af) ∈ l ∧ i ≤ p.1 ∧ l[p.1 - i]? = some (p.2, af) ∧ memN p.1 done = false ∧ subN af done = true
  | [], i, p, hp => by simp [readyL] at hp
  | (o, af) :: l, i, p, hp => by
    have rec' : p ∈ readyL done (i + 1) l → ∃ af', (p.2, af') ∈ (o, af) :: l ∧ i ≤ p.1 ∧ ((o, af) :: l)[p.1 - i]? = some (p.2, af') ∧ memN p.1 done = false ∧ subN af' done = true := fun hp => by
      obtain ⟨af', h1, h2, h3, h4⟩ := readyL_mem hp
      refine ⟨af', List.mem_cons_of_mem _ h1, by omega, ?_, h4⟩
      rw [show p.1 - i = (p.1 - (i + 1)) + 1 by omega]; simpa using h3
    unfold readyL at hp
    split at hp
    · rename_i hb
      simp only [Bool.and_eq_true, Bool.not_eq_true'] at hb
      cases hp with
      | head => exact ⟨af, List.mem_cons_self, Nat.le_refl _, by simp, hb.1, hb.2⟩
      | tail _ hp => exact rec' hp
    · exact rec' hp

theorem firstTake_mem : ∀ {l : List (Nat × SOper)} {p : Nat × SOper}, firstTake l = some p → p ∈ l ∧ takeable p.2.op = true
  | [], p, hp => by cases hp
  | (i, o) :: l, p, hp => by
    unfold firstTake at hp
    split at hp
    · rename_i ht; cases hp; exact ⟨List.mem_cons_self, ht⟩
    · obtain ⟨a, b⟩ := firstTake_mem hp; exact ⟨List.mem_cons_of_mem _ a, b⟩

theorem denA_frame {l : List (SOper × List Nat)} {Q Q' : St → PHeap → Prop} : ∀ {fuel : Nat} {done : List Nat} {pen : Pen} {s : St} {h : PHeap}, denA P n l Q fuel done pen s h →
    (∀ s' h', Q s' h' → (∀ j, memN j (writesOf (l.map (·.1))) = false → s'.regs j = s.regs j) → s.nl ≤ s'.nl → Q' s' h') → denA P n l Q' fuel done pen s h
  | 0, done, pen, s, h, hd, hq => by
    unfold denA at hd ⊢
    split at hd
    · exact hq _ _ hd (fun _ _ => rfl) (Nat.le_refl _)
    · exact hd
  | fuel + 1, done, pen, s, h, hd, hq => by
    unfold denA at hd ⊢
    split at hd
    · exact hq _ _ hd (fun _ _ => rfl) (Nat.le_refl _)
    · split at hd
      · rename_i i o ho
        have hmem := readyL_mem (firstTake_mem ho).1
        obtain ⟨af, hin, _⟩ := hmem
        refine denTG_mono hd fun x S hh => putD_mono hh fun s' hs hnl hj => denA_frame hs fun s'' h'' q hj' hle => hq _ _ q (fun j hm => ?_) (by omega)
        rw [hj' j hm]
        exact hj j fun e => memN_writes e (List.mem_map_of_mem (f := Prod.fst) hin) hm rfl
      · rw [allR_iff] at hd ⊢
        intro p hp
        obtain ⟨af, hin, _⟩ := readyL_mem hp
        refine denG_frame (hd p hp) fun x s' h' hh hr hnl => penOk_mono (fun pen' hh => putD_mono hh fun s'' hs hnl' hj => denA_frame hs fun s3 h3 q hj' hle => hq _ _ q (fun j hm => ?_) (by omega)) hh
        rw [hj' j hm, ← hr]
        exact hj j fun e => memN_writes e (List.mem_map_of_mem (f := Prod.fst) hin) hm rfl

theorem vOk_look {k : Nat} {ws : List Nat} {j : Nat} {x : SV} : ∀ {l : List (Nat × SV)}, vOk k ws l → lookN j l = some x → memN j ws = true ∧ ∀ i o, x = .loc i o → i < k
  | [], _, hx => by cases hx
  | (i, y) :: l, hv, hx => by
    unfold vOk at hv
    split at hv
    · rename_i hb
      simp only [Bool.and_eq_true] at hb
      simp only [lookN] at hx
      by_cases e : j = i
      · subst e
        rw [beqSelf] at hx
        simp only [cond_true, Option.some.injEq] at hx
        subst hx
        refine ⟨hb.1, fun a o e => ?_⟩
        subst e
        exact Nat.blt_eq.mp hb.2
      · rw [beqNe e] at hx
        exact vOk_look hv hx
    · exact hv.elim

theorem mkSt_regs {s : St} {ws : List Nat} {V : List (Nat × SV)} {L : List (Nat × List Value)} {k j : Nat} (hv : vOk k ws V) (hj : memN j ws = false) : (mkSt s ws V L).regs j = s.regs j := by
  simp only [mkSt]
  cases hl : lookN j V with
  | none => simp [hj]
  | some x => have := (vOk_look hv hl).1; rw [hj] at this; cases this

theorem den_frame : ∀ {c : SCode} {s : St} {h : PHeap} {Q Q' : Ex → St → PHeap → Prop}, den P n c Q s h →
    (∀ e s' h', Q e s' h' → (∀ j, memN j (swrites c) = false → s'.regs j = s.regs j) → s.nl ≤ s'.nl → Q' e s' h') → den P n c Q' s h
  | .skip, s, h, Q, Q', hd, hq => hq _ _ _ hd (fun _ _ => rfl) (Nat.le_refl _)
  | .ops l, s, h, Q, Q', hd, hq => denL_frame hd fun s' h' q => hq _ _ _ q
  | .draw l, s, h, Q, Q', hd, hq => denA_frame hd fun s' h' q => hq _ _ _ q
  | .seq a b, s, h, Q, Q', hd, hq => by
    unfold den at hd ⊢
    refine den_frame hd fun e s' h' q hj hnl => ?_
    have hm1 : ∀ j, memN j (swrites (.seq a b)) = false → memN j (swrites a) = false ∧ memN j (swrites b) = false := fun j hm => by
      simpa [swrites, memN_append] using hm
    cases e with
    | normal =>
      refine den_frame q fun e s'' h'' q' hj' hnl' => hq _ _ _ q' (fun j hm => ?_) (Nat.le_trans hnl hnl')
      rw [hj' j (hm1 j hm).2, hj j (hm1 j hm).1]
    | exit k => exact hq _ _ _ q (fun j hm => hj j (hm1 j hm).1) hnl
    | ret => exact hq _ _ _ q (fun j hm => hj j (hm1 j hm).1) hnl
  | .cond c a b, s, h, Q, Q', hd, hq => by
    unfold den at hd ⊢
    have hm1 : ∀ j, memN j (swrites (.cond c a b)) = false → memN j (swrites a) = false ∧ memN j (swrites b) = false := fun j hm => by
      simpa [swrites, memN_append] using hm
    split at hd
    · rename_i b' hb
      cases b' <;> simp only [br, litO_eq hb] at hd ⊢
      · exact den_frame hd fun e s' h' q hj => hq _ _ _ q fun j hm => hj j (hm1 j hm).2
      · exact den_frame hd fun e s' h' q hj => hq _ _ _ q fun j hm => hj j (hm1 j hm).1
    · exact hd
  | .block id c, s, h, Q, Q', hd, hq => by
    unfold den at hd ⊢
    refine den_frame hd fun e s' h' q hj hnl => ?_
    cases e with
    | normal => exact hq _ _ _ q hj hnl
    | exit k =>
      simp only at q ⊢
      split at q
      · exact hq _ _ _ q hj hnl
      · exact hq _ _ _ q hj hnl
    | ret => exact hq _ _ _ q hj hnl
  | .loop ws c, s, h, Q, Q', hd, hq => by
    unfold den at hd ⊢
    obtain ⟨α, I, V, L, μ, hx, ho, hround⟩ := hd
    have hm1 : ∀ j, memN j (swrites (.loop ws c)) = false → memN j ws = false ∧ memN j (swrites c) = false := fun j hm => by
      simpa [swrites, memN_append] using hm
    refine ⟨α, I, V, L, μ, hx, ho, fun x h1 hI => den_frame (hround x h1 hI) fun e s' h' q hj hnl => ?_⟩
    cases e with
    | normal => exact q
    | exit k => exact hq _ _ _ q (fun j hm => by rw [hj j (hm1 j hm).2]; exact mkSt_regs (ho x) (hm1 j hm).1) hnl
    | ret => exact hq _ _ _ q (fun j hm => by rw [hj j (hm1 j hm).2]; exact mkSt_regs (ho x) (hm1 j hm).1) hnl
  | .bad, s, h, Q, Q', hd, hq => hd.elim
  | .exit k, s, h, Q, Q', hd, hq => hq _ _ _ hd (fun _ _ => rfl) (Nat.le_refl _)
  | .ret, s, h, Q, Q', hd, hq => hq _ _ _ hd (fun _ _ => rfl) (Nat.le_refl _)
end
end Go.Den
