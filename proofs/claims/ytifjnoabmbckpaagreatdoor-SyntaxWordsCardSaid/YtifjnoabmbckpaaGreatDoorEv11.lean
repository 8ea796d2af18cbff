import Derived.Test.YtifjnoabmbckpaaGreatDoorEv10
/- Operations with guards, straight regions, drawn regions. -/
namespace Go.Ev
open Go Go.Den

/-- No register names a promoted local. -/
def NL (s : St) : Prop := s.nl = 0 ∧ ∀ j i o, s.regs j ≠ .loc i o

/-- Outside a list of registers nothing is written. -/
def Same (W : List Nat) (R R' : T LV) (s s' : St) : Prop := ∀ j, j ∉ W → R'.get j = R.get j ∧ s'.regs j = s.regs j

theorem Same.refl (W : List Nat) (R : T LV) (s : St) : Same W R R s s := fun _ _ => ⟨rfl, rfl⟩
theorem Same.trans {W1 W2 W : List Nat} {R1 R2 R3 : T LV} {s1 s2 s3 : St} (h1 : Same W1 R1 R2 s1 s2) (h2 : Same W2 R2 R3 s2 s3) (i1 : ∀ j, j ∈ W1 → j ∈ W) (i2 : ∀ j, j ∈ W2 → j ∈ W) : Same W R1 R3 s1 s3 := fun j hj =>
  ⟨(h2 j fun h => hj (i2 j h)).1.trans (h1 j fun h => hj (i1 j h)).1, (h2 j fun h => hj (i2 j h)).2.trans (h1 j fun h => hj (i1 j h)).2⟩
theorem Same.mono {W W' : List Nat} {R R' : T LV} {s s' : St} (h : Same W R R' s s') (i : ∀ j, j ∈ W → j ∈ W') : Same W' R R' s s' := fun j hj => h j fun hm => hj (i j hm)

section
variable {P : Program} {G n : Nat} {call : CallE}

/-- What is known behind a step. -/
def Goes (G : Nat) (ρ : Rho) (nx : Nat) (W : List Nat) (R : T LV) (s : St) (K : T LV → T Blk → Nat → Bool) (Q : St → PHeap → Prop) : Prop :=
  ∀ R' s' H' nx' ρ' h', nx ≤ nx' → Agr nx ρ ρ' → HR G ρ' H' nx' h' → RR ρ' R' s' → NL s' → Same W R R' s s' → K R' H' nx' = true → Q s' h'

theorem load_inv {sop : SOp} {agg : Bool} {k : Nat} {x : EX} (hc : cOp P G sop = some (.load agg k x)) : ∃ y, sop = .load agg k y ∧ cX G y = some x := by
  cases sop <;> simp only [cOp] at hc
  case load a m y => obtain ⟨ex, hx, h1⟩ := map_some hc; cases h1; exact ⟨y, rfl, hx⟩
  case mv | nilCheck | fieldAddr | len | conv | field | bytesS => obtain ⟨ex, hx, h1⟩ := map_some hc; cases h1
  case pure op ty =>
    exfalso; revert hc; unfold cPure cBin nilOp
    repeat' split
    all_goals intro hc; first | (cases hc; done) | (obtain ⟨ex, hx, h1⟩ := map_some hc; cases h1)
  case puref op ty =>
    exfalso; revert hc; unfold cPuref cBin nilOp
    repeat' split
    all_goals intro hc; cases hc
  case raw op ty =>
    exfalso; revert hc; unfold cRaw cUpd cApp
    repeat' split
    all_goals intro hc; cases hc
  all_goals first | (cases hc; done) | (split at hc <;> cases hc)

theorem bad_inv {sop : SOp} (hc : cOp P G sop = some .bad) : False := by
  cases sop <;> simp only [cOp] at hc
  case mv | nilCheck | fieldAddr | len | conv | field | bytesS | load => obtain ⟨ex, hx, h1⟩ := map_some hc; cases h1
  case pure op ty =>
    revert hc; unfold cPure cBin nilOp
    repeat' split
    all_goals intro hc; first | (cases hc; done) | (obtain ⟨ex, hx, h1⟩ := map_some hc; cases h1)
  case puref op ty =>
    revert hc; unfold cPuref cBin nilOp
    repeat' split
    all_goals intro hc; cases hc
  case raw op ty =>
    revert hc; unfold cRaw cUpd cApp
    repeat' split
    all_goals intro hc; cases hc
  all_goals first | (cases hc; done) | (split at hc <;> cases hc)

section
variable {ρ : Rho} {R : T LV} {s : St} {H : T Blk} {nx : Nat} {h : PHeap}

theorem evO_sound (hcall : CallOk P G call) (hr : RR ρ R s) (hh : HR G ρ H nx h) {sop : SOp} {eop : EOp} {K : LV → T Blk → Nat → Bool} {K' : SV → St → PHeap → Prop} (hc : cOp P G sop = some eop) (he : evO call eop R H nx K = true)
    (hk : Cont G ρ nx s K K') : denOp P sop s h K' := by
  cases eop with
  | p pop =>
    obtain ⟨lv, v, h1, h2, h3⟩ := evP_sound hr hh.glob hc he
    exact h3 h K' (hk lv v H nx ρ h (Nat.le_refl _) (Agr.refl _ _) hh h2 h1)
  | load agg k x =>
    obtain ⟨y, rfl, hx⟩ := load_inv hc
    simp only [evO] at he
    split at he
    · rename_i b o hlx
      obtain ⟨v, hv, hvr⟩ := cX_ev hr hh.glob hx hlx
      cases hvr with
      | ptr hb =>
        obtain ⟨l, l', h1, h2, h3, h4⟩ := rowK_sound hh hb he
        obtain ⟨lv, h5, h6⟩ := packK_sound h2 h1
        simp only [denOp, hv]
        exact ⟨l', h3, h4, hk lv _ H nx ρ h (Nat.le_refl _) (Agr.refl _ _) hh h6 h5⟩
    · cases he
  | x xop => exact evX_sound hcall hr hh hc he hk
  | bad => cases he

theorem cOper_inv {o : SOper} {e : EOper} (hc : cOper P G n o = some e) : e.dst = o.dst ∧ e.guard = o.guard ∧ dstOk n o.dst = true ∧ (cOp P G o.op = some e.op ∨ e.op = .bad) := by
  unfold cOper at hc
  split at hc
  · rename_i hd
    split at hc
    · rename_i op hop; cases hc; exact ⟨rfl, rfl, hd, .inl hop⟩
    · cases hc; exact ⟨rfl, rfl, hd, .inr rfl⟩
  · cases hc

theorem evO_sound' (hcall : CallOk P G call) (hr : RR ρ R s) (hh : HR G ρ H nx h) {sop : SOp} {eop : EOp} {K : LV → T Blk → Nat → Bool} {K' : SV → St → PHeap → Prop} (hc : cOp P G sop = some eop ∨ eop = .bad) (he : evO call eop R H nx K = true)
    (hk : Cont G ρ nx s K K') : denOp P sop s h K' := by
  rcases hc with hc | rfl
  · exact evO_sound hcall hr hh hc he hk
  · cases he

theorem evG_sound (hcall : CallOk P G call) (hr : RR ρ R s) (hh : HR G ρ H nx h) {o : SOper} {e : EOper} {K : LV → T Blk → Nat → Bool} {K' : SV → St → PHeap → Prop} (hc : cOper P G n o = some e) (he : evG call e R H nx K = true)
    (hk : Cont G ρ nx s K K') : denG P o s h K' := by
  obtain ⟨_, hg, _, hop⟩ := cOper_inv hc
  unfold evG at he
  unfold denG
  rw [hg] at he
  split at he
  · rename_i hgn
    rw [hgn]
    exact evO_sound' hcall hr hh hop he hk
  · rename_i r want hgs
    rw [hgs]
    have skip : K (.tup []) H nx = true → K' (.val undef) s h := fun h1 => hk _ _ H nx ρ h (Nat.le_refl _) (Agr.refl _ _) hh VR.unit h1
    split at he
    · rename_i c hrc
      obtain ⟨v, hv, hvr⟩ := hr r _ hrc
      cases hvr
      simp only [hv]
      cases want <;> cases c <;> simp only [br, lit_eq hv] at he ⊢
      · exact evO_sound' hcall hr hh hop he hk
      · exact skip he
      · exact skip he
      · exact evO_sound' hcall hr hh hop he hk
    · rename_i l hrc
      obtain ⟨v, hv, hvr⟩ := hr r _ hrc
      cases hvr with
      | tup k1 k2 => simp only [hv]; exact skip he
    · cases he

def setD (s : St) (d : Option Nat) (x : SV) : St :=
  match d with
  | some d => { s with regs := upd s.regs d x }
  | none => s

theorem dstK_sound (hr : RR ρ R s) (hn : NL s) {d : Option Nat} {lv : LV} {v : Value} {K : T LV → Bool} (hv : VR ρ lv v) (he : dstK d lv R K = true) : ∃ R', K R' = true ∧ RR ρ R' (setD s d (.val v)) ∧ NL (setD s d (.val v)) ∧ Same d.toList R R' s (setD s d (.val v)) := by
  unfold dstK at he
  cases d with
  | none => exact ⟨R, he, hr, hn, Same.refl _ _ _⟩
  | some d =>
    obtain ⟨R', h1, h2⟩ := T.putK_sound he
    refine ⟨R', h1, fun j lv' hj => ?_, ⟨hn.1, fun j i o => ?_⟩, fun j hj => ?_⟩
    · rw [h2] at hj
      by_cases e : j = d
      · subst e
        rw [if_pos rfl] at hj; cases hj
        exact ⟨v, by simp [setD, upd], hv⟩
      · rw [if_neg e] at hj
        obtain ⟨v', hv', hr'⟩ := hr j lv' hj
        exact ⟨v', by simp only [setD, upd, beqNe e, cond_false]; exact hv', hr'⟩
    · by_cases e : j = d
      · subst e; simp [setD, upd]
      · simp only [setD, upd, beqNe e, cond_false]; exact hn.2 j i o
    · have e : j ≠ d := fun e => hj (by subst e; simp)
      rw [h2, if_neg e]
      exact ⟨rfl, by simp only [setD, upd, beqNe e, cond_false]⟩
end

theorem mem_writes_cons {o : SOper} {l : List SOper} {j : Nat} : j ∈ writesOf (o :: l) ↔ j ∈ o.dst.toList ∨ j ∈ writesOf l := by
  rw [writesOf]
  cases hd : o.dst <;> simp

theorem evL_sound (hcall : CallOk P G call) : ∀ {l : List SOper} {es : List EOper} {ρ : Rho} {R : T LV} {s : St} {H : T Blk} {nx : Nat} {h : PHeap} {K : T LV → T Blk → Nat → Bool} {Q : St → PHeap → Prop},
    cOpers P G n l = some es → RR ρ R s → HR G ρ H nx h → NL s → evL call es R H nx K = true → Goes G ρ nx (writesOf l) R s K Q → denL P n l Q s h
  | [], es, ρ, R, s, H, nx, h, K, Q, hc, hr, hh, hn, he, hk => by
    cases hc
    exact hk R s H nx ρ h (Nat.le_refl _) (Agr.refl _ _) hh hr hn (Same.refl _ _ _) he
  | o :: l, es, ρ, R, s, H, nx, h, K, Q, hc, hr, hh, hn, he, hk => by
    simp only [cOpers] at hc
    split at hc
    · rename_i e es' h1 h2
      cases hc
      simp only [evL] at he
      obtain ⟨hd, hg, hok, hop⟩ := cOper_inv h1
      unfold denL
      refine evG_sound hcall hr hh h1 he fun lv v H' nx' ρ' h' b1 b2 b3 b4 b5 => ?_
      have hr' := hr.mono (hh.le b2)
      rw [hd] at b5
      obtain ⟨R', c1, d1, d2, d3⟩ := dstK_sound hr' hn b4 b5
      have goes : denL P n l Q (setD s o.dst (.val v)) h' :=
        evL_sound hcall h2 d1 b3 d2 c1 fun R2 s2 H2 nx2 ρ2 h2 e1 e2 e3 e4 e5 e6 e7 =>
          hk R2 s2 H2 nx2 ρ2 h2 (Nat.le_trans b1 e1) (b2.trans e2 b1) e3 e4 e5 (d3.trans e6 (fun j hj => mem_writes_cons.2 (.inl hj)) (fun j hj => mem_writes_cons.2 (.inr hj))) e7
      cases hdd : o.dst with
      | none => rw [hdd] at goes; exact goes
      | some d =>
        rw [hdd] at hok goes
        have hok : Nat.blt d n = true := hok
        simp only [hok]
        exact goes
    · cases hc

/-! ### Drawn regions -/

theorem eqV_eq {a b : LV} (h : eqV a b = true) : a = b := by
  unfold eqV at h
  split at h
  case h_1 x => split at h <;> first | cases h | (simp at h; subst h; rfl)
  case h_2 j x =>
    split at h
    · rw [Bool.and_eq_true, eqI_eq] at h
      have h1 := kNo_inj h.1
      have h2 := h.2
      simp at h2
      subst h1; subst h2; rfl
    · cases h
  case h_3 j x =>
    split at h
    · rw [Bool.and_eq_true] at h
      have h1 := Nat.eq_of_beq_eq_true h.1
      have h2 := Nat.eq_of_beq_eq_true h.2
      subst h1; subst h2; rfl
    · cases h
  case h_4 j x =>
    split at h
    · rw [Bool.and_eq_true] at h
      have h1 := Nat.eq_of_beq_eq_true h.1
      have h2 := Nat.eq_of_beq_eq_true h.2
      subst h1; subst h2; rfl
    · cases h
  case h_5 x1 x2 x3 x4 g =>
    split at h
    · simp only [Bool.and_eq_true] at h
      have h1 := Nat.eq_of_beq_eq_true h.1.1.1.1
      have h2 := Nat.eq_of_beq_eq_true h.1.1.1.2
      have h3 := Nat.eq_of_beq_eq_true h.1.1.2
      have h4 := Nat.eq_of_beq_eq_true h.1.2
      have h5 := h.2
      simp at h5
      subst h1; subst h2; subst h3; subst h4; subst h5; rfl
    · cases h
  case h_6 x =>
    split at h
    · have h1 := Nat.eq_of_beq_eq_true h; subst h1; rfl
    · cases h
  case h_12 f =>
    split at h
    · have h1 := Nat.eq_of_beq_eq_true h; subst h1; rfl
    · cases h
  case h_13 => cases h
  all_goals split at h <;> first | rfl | cases h

theorem eqLs_eq : ∀ {a b : List LV}, eqLs a b = true → a = b
  | [], [], _ => rfl
  | [], _ :: _, h => by simp [eqLs] at h
  | _ :: _, [], h => by simp [eqLs] at h
  | a :: l, b :: m, h => by
    simp only [eqLs] at h
    split at h
    · rename_i h1; rw [eqV_eq h1, eqLs_eq h]
    · cases h

theorem VR.funQ {ρ : Rho} {a : LV} {v v' : Value} (hq : eqV a a = true) (h : VR ρ a v) (h' : VR ρ a v') : v = v' := by
  cases h with
  | fn h1 h2 h3 h4 =>
    cases h' with
    | fn k1 k2 k3 k4 =>
      rename_i f a c a1 c1 a2 c2
      cases a with
      | nil =>
        cases c with
        | nil =>
          have e1 := List.eq_nil_of_length_eq_zero h1.symm
          have e2 := List.eq_nil_of_length_eq_zero h2.symm
          have e3 := List.eq_nil_of_length_eq_zero k1.symm
          have e4 := List.eq_nil_of_length_eq_zero k2.symm
          subst e1; subst e2; subst e3; subst e4; rfl
        | cons x xs => simp [eqV] at hq
      | cons x xs => simp [eqV] at hq
  | ptr h1 => cases h' with | ptr h2 => rw [h1] at h2; cases h2; rfl
  | slice h1 => cases h' with | slice h2 => rw [h1] at h2; cases h2; rfl
  | map h1 => cases h' with | map h2 => rw [h1] at h2; cases h2; rfl
  | iface h1 => simp [eqV] at hq
  | agg h1 => simp [eqV] at hq
  | tup h1 => simp [eqV] at hq
  | sym h1 => simp [eqV] at hq
  | _ => cases h'; rfl

theorem LR.funQ {ρ : Rho} : ∀ {l : List LV} {a b : List Value}, eqLs l l = true → LR ρ l a → LR ρ l b → a = b
  | [], a, b, _, h1, h2 => by rw [h1.nil_inv, h2.nil_inv]
  | v :: l, a, b, hq, h1, h2 => by
    obtain ⟨v1, r1, rfl, hv1, hr1⟩ := h1.cons_inv
    obtain ⟨v2, r2, rfl, hv2, hr2⟩ := h2.cons_inv
    simp only [eqLs] at hq
    split at hq
    · rename_i hv; rw [VR.funQ hv hv1 hv2, LR.funQ hq hr1 hr2]
    · cases hq

def PenR (ρ : Rho) : PenE → Pen → Prop
  | [], [] => True
  | (k, b, o, l) :: r, (k', S) :: r' => k = k' ∧ (∃ rb κ l', ρ b = some (rb, κ) ∧ LR ρ l l' ∧ S = fun _ h' => h'.row rb o l') ∧ PenR ρ r r'
  | _, _ => False

theorem PenR.mono {ρ ρ' : Rho} (hle : Le ρ ρ') : ∀ {pens : PenE} {pen : Pen}, PenR ρ pens pen → PenR ρ' pens pen
  | [], [], _ => trivial
  | [], _ :: _, h => h.elim
  | (_, _, _, _) :: _, [], h => h.elim
  | (k, b, o, l) :: r, (k', S) :: r', h => by
    obtain ⟨h1, ⟨rb, κ, l', h2, h3, h4⟩, h5⟩ := h
    exact ⟨h1, ⟨rb, κ, l', hle _ _ h2, h3.mono hle, h4⟩, h5.mono hle⟩

theorem waits_af (l : List (SOper × List Nat)) (k i : Nat) : waitsN l k i = memN k (afOf l i) := by
  unfold waitsN afOf
  cases nthL l i <;> rfl

theorem penK_sound {ρ : Rho} {H : T Blk} {nx i : Nat} {h : PHeap} {s : St} {l : List (SOper × List Nat)} (hh : HR G ρ H nx h) : ∀ {pens : PenE} {pen : Pen} {K : PenE → Bool}, PenR ρ pens pen → penK (afOf l i) H pens K = true →
    ∃ pens' pen', K pens' = true ∧ PenR ρ pens' pen' ∧ ∀ K' : Pen → Prop, K' pen' → penOk l i s h pen K'
  | [], [], K, _, he => ⟨[], [], he, trivial, fun K' h => h⟩
  | [], _ :: _, K, h, _ => h.elim
  | (_, _, _, _) :: _, [], K, h, _ => h.elim
  | (k, b, o, l2) :: r, (k', S) :: r', K, hp, he => by
    obtain ⟨rfl, ⟨rb, κ, l', h2, h3, rfl⟩, h5⟩ := hp
    simp only [penK] at he
    split at he
    · rename_i hm
      obtain ⟨pens', pen', a1, a2, a3⟩ := penK_sound hh h5 he
      refine ⟨pens', pen', a1, a2, fun K' hk => ?_⟩
      unfold penOk
      rw [waits_af, hm]
      exact a3 K' hk
    · rename_i hm
      obtain ⟨m, m', b1, b2, b3, b4⟩ := rowK_sound hh h2 he
      split at b1
      · rename_i heq
        have := eqLs_eq heq
        subst this
        have hl := LR.funQ heq h3 b2
        subst hl
        obtain ⟨pens', pen', a1, a2, a3⟩ := penK_sound hh h5 b1
        refine ⟨_, (k, fun _ h' => h'.row rb o l') :: pen', a1, ⟨rfl, ⟨rb, κ, l', h2, h3, rfl⟩, a2⟩, fun K' hk => ?_⟩
        unfold penOk
        rw [waits_af, hm]
        exact ⟨b4, a3 _ hk⟩
      · cases b1

theorem take_den {sop : SOp} {pop : POp} (hc : cOp P G sop = some (.p pop)) (s : St) (h : PHeap) (K : SV → Option (St → PHeap → Prop) → Prop) : denTake P sop s h K = denOp P sop s h fun x _ _ => K x none := by
  cases sop
  case load a m y => simp only [cOp] at hc; obtain ⟨ex, hx, h1⟩ := map_some hc; cases h1
  all_goals rfl

section
variable {ρ : Rho} {R : T LV} {s : St} {H : T Blk} {nx : Nat} {h : PHeap}

theorem takeO_sound (hr : RR ρ R s) (hh : HR G ρ H nx h) {sop : SOp} {eop : EOp} {i : Nat} {pens : PenE} {pen : Pen} {K : LV → PenE → Bool} {K' : SV → Option (St → PHeap → Prop) → Prop} (hc : cOp P G sop = some eop ∨ eop = .bad) (hp : PenR ρ pens pen)
    (he : takeO eop i R H pens K = true) (hk : ∀ lv v pens' S, VR ρ lv v → PenR ρ pens' (addPen i S pen) → K lv pens' = true → K' (.val v) S) : denTake P sop s h K' := by
  rcases hc with hc | rfl
  · cases eop with
    | p pop =>
      obtain ⟨lv, v, h1, h2, h3⟩ := evP_sound hr hh.glob hc he
      rw [take_den hc]
      exact h3 h _ (hk lv v pens none h2 hp h1)
    | load agg k x =>
      obtain ⟨y, rfl, hx⟩ := load_inv hc
      simp only [takeO] at he
      split at he
      · rename_i b o hlx
        obtain ⟨v, hv, hvr⟩ := cX_ev hr hh.glob hx hlx
        cases hvr with
        | ptr hb =>
          obtain ⟨l, l', h1, h2, h3, h4⟩ := rowK_sound hh hb he
          obtain ⟨lv, h5, h6⟩ := packK_sound h2 h1
          simp only [denTake, hv]
          exact ⟨l', h3, h4, hk lv _ ((i, b, o, l) :: pens) (some fun _ h' => h'.row _ o l') h6 (show PenR ρ ((i, b, o, l) :: pens) ((i, fun _ h' => h'.row _ o l') :: pen) from ⟨rfl, ⟨_, _, l', hb, h2, rfl⟩, hp⟩) h5⟩
      · cases he
    | x xop => cases he
    | bad => cases he
  · cases he

theorem takeG_sound (hr : RR ρ R s) (hh : HR G ρ H nx h) {o : SOper} {e : EOper} {i : Nat} {pens : PenE} {pen : Pen} {K : LV → PenE → Bool} {K' : SV → St → Option (St → PHeap → Prop) → Prop} (hc : cOper P G n o = some e) (hp : PenR ρ pens pen)
    (he : takeG e i R H pens K = true) (hk : ∀ lv v pens' S, VR ρ lv v → PenR ρ pens' (addPen i S pen) → K lv pens' = true → K' (.val v) s S) : denTG P o s h K' := by
  obtain ⟨_, hg, _, hop⟩ := cOper_inv hc
  unfold takeG at he
  unfold denTG
  rw [hg] at he
  split at he
  · rename_i hgn
    rw [hgn]
    exact takeO_sound hr hh hop hp he hk
  · rename_i r want hgs
    rw [hgs]
    have skip : K (.tup []) pens = true → K' (.val undef) s none := fun h1 => hk _ _ pens none VR.unit hp h1
    split at he
    · rename_i c hrc
      obtain ⟨v, hv, hvr⟩ := hr r _ hrc
      cases hvr
      simp only [hv]
      cases want <;> cases c <;> simp only [br, lit_eq hv] at he ⊢
      · exact takeO_sound hr hh hop hp he hk
      · exact skip he
      · exact skip he
      · exact takeO_sound hr hh hop hp he hk
    · rename_i l hrc
      obtain ⟨v, hv, hvr⟩ := hr r _ hrc
      cases hvr with
      | tup k1 k2 => simp only [hv]; exact skip he
    · cases he
end

theorem mem_writesOf {l : List (SOper × List Nat)} {o : SOper} {af : List Nat} {j : Nat} (hm : (o, af) ∈ l) (hj : j ∈ o.dst.toList) : j ∈ writesOf (l.map (·.1)) := by
  induction l with
  | nil => cases hm
  | cons x l ih =>
    rw [List.map_cons, mem_writes_cons]
    cases hm with
    | head => exact .inl hj
    | tail _ ht => exact .inr (ih ht)

theorem putD_intro {s : St} {d : Option Nat} {x : SV} {K : St → Prop} (hok : dstOk n d = true) (hk : K (setD s d x)) : putD n d x s K := by
  unfold putD
  cases d with
  | none => exact hk
  | some d => have hok : Nat.blt d n = true := hok; simp only [hok]; exact hk

theorem evPl_sound (hcall : CallOk P G call) {l : List (SOper × List Nat)} : ∀ {fuel : Nat} {done : List Nat} {plan : Plan} {pens : PenE} {pen : Pen} {ρ : Rho} {R : T LV} {s : St} {H : T Blk} {nx : Nat} {h : PHeap} {K : T LV → T Blk → Nat → Bool} {Q : St → PHeap → Prop},
    mkPlan P G n l fuel done = some plan → RR ρ R s → HR G ρ H nx h → NL s → PenR ρ pens pen → evPl call plan pens R H nx K = true → Goes G ρ nx (writesOf (l.map (·.1))) R s K Q → denA P n l Q fuel done pen s h
  | 0, done, plan, pens, pen, ρ, R, s, H, nx, h, K, Q, hc, hr, hh, hn, hp, he, hk => by
    unfold mkPlan at hc
    unfold denA
    split at hc
    · rename_i hrd
      cases hc
      rw [hrd]
      exact hk R s H nx ρ h (Nat.le_refl _) (Agr.refl _ _) hh hr hn (Same.refl _ _ _) he
    · cases hc
  | fuel + 1, done, plan, pens, pen, ρ, R, s, H, nx, h, K, Q, hc, hr, hh, hn, hp, he, hk => by
    unfold mkPlan at hc
    unfold denA
    split at hc
    · rename_i hrd
      cases hc
      rw [hrd]
      exact hk R s H nx ρ h (Nat.le_refl _) (Agr.refl _ _) hh hr hn (Same.refl _ _ _) he
    · rename_i hrd
      split
      · rename_i hrd2; exact absurd hrd2 hrd
      · split at hc
        · rename_i i o hft
          rw [hft]
          split at hc
          · rename_i e p h1 h2
            cases hc
            obtain ⟨hd, hg, hok, hop⟩ := cOper_inv h1
            obtain ⟨hmem, _⟩ := firstTake_mem hft
            obtain ⟨af, hml, _⟩ := readyL_mem hmem
            simp only [evPl] at he
            refine takeG_sound hr hh h1 hp he fun lv v pens' S b1 b2 b3 => ?_
            rw [hd] at b3
            obtain ⟨R', c1, d1, d2, d3⟩ := dstK_sound hr hn b1 b3
            refine putD_intro hok ?_
            exact evPl_sound hcall h2 d1 hh d2 b2 c1 fun R2 s2 H2 nx2 ρ2 h2 e1 e2 e3 e4 e5 e6 e7 =>
              hk R2 s2 H2 nx2 ρ2 h2 e1 e2 e3 e4 e5 (d3.trans e6 (fun j hj => mem_writesOf hml hj) (fun j hj => hj)) e7
          · cases hc
        · rename_i hft
          rw [hft]
          have one : ∀ {p : Nat × SOper} {pl : Plan}, p ∈ readyL done 0 l → (match cOper P G n p.2, mkPlan P G n l fuel (p.1 :: done) with
              | some o, some q => some (Plan.eff o (afOf l p.1) q)
              | _, _ => none) = some pl → evPl call pl pens R H nx K = true →
              denG P p.2 s h fun x s' h' => penOk l p.1 s' h' pen fun pen' => putD n p.2.dst x s' fun s'' => denA P n l Q fuel (p.1 :: done) pen' s'' h' := by
            intro p pl hmem hpl hev
            split at hpl
            · rename_i e q h1 h2
              cases hpl
              obtain ⟨hd, hg, hok, hop⟩ := cOper_inv h1
              obtain ⟨af, hml, _⟩ := readyL_mem hmem
              simp only [evPl] at hev
              refine evG_sound hcall hr hh h1 hev fun lv v H' nx' ρ' h' b1 b2 b3 b4 b5 => ?_
              have hle := hh.le b2
              obtain ⟨pens', pen', a1, a2, a3⟩ := penK_sound (s := s) b3 (hp.mono hle) b5
              refine a3 _ ?_
              rw [hd] at a1
              obtain ⟨R', c1, d1, d2, d3⟩ := dstK_sound (hr.mono hle) hn b4 a1
              refine putD_intro hok ?_
              exact evPl_sound hcall h2 d1 b3 d2 a2 c1 fun R2 s2 H2 nx2 ρ2 h2 e1 e2 e3 e4 e5 e6 e7 =>
                hk R2 s2 H2 nx2 ρ2 h2 (Nat.le_trans b1 e1) (b2.trans e2 b1) e3 e4 e5 (d3.trans e6 (fun j hj => mem_writesOf hml hj) (fun j hj => hj)) e7
            · cases hpl
          have all : ∀ (rs : List (Nat × SOper)) (pl : Plan), (∀ p ∈ rs, p ∈ readyL done 0 l) → brsP (fun p => match cOper P G n p.2, mkPlan P G n l fuel (p.1 :: done) with
              | some o, some q => some (Plan.eff o (afOf l p.1) q)
              | _, _ => none) rs = some pl → evPl call pl pens R H nx K = true →
              allR rs fun p => denG P p.2 s h fun x s' h' => penOk l p.1 s' h' pen fun pen' => putD n p.2.dst x s' fun s'' => denA P n l Q fuel (p.1 :: done) pen' s'' h' := by
            intro rs
            induction rs with
            | nil => intro pl _ hb _; cases hb
            | cons p rs ih =>
              intro pl hm hb hev
              cases rs with
              | nil => exact one (hm p List.mem_cons_self) hb hev
              | cons p2 rs =>
                unfold brsP at hb
                split at hb
                · rename_i a b ha hb2
                  cases hb
                  simp only [evPl] at hev
                  split at hev
                  · rename_i hev1
                    exact ⟨one (hm p List.mem_cons_self) ha hev1, ih b (fun q hq => hm q (List.mem_cons_of_mem _ hq)) hb2 hev⟩
                  · cases hev
                · cases hb
          exact all _ plan (fun p hp => hp) hc he
end
end Go.Ev
