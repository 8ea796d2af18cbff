import Derived.Test.YtifjnoabmbckpaaGreatDoorDenS9
namespace Go.Den
open Go
section
variable {P : Program} {n : Nat} {w0 : World} {h0 : PHeap} {esc : Nat → Bool} {ops : Array Oper}

/-- A read, taken first. -/
def Takes (P : Program) (n : Nat) (w0 : World) (h0 : PHeap) (ops : Array Oper) (s : St) (bs : Nat → Nat) (h : PHeap) (a : Act) (w : World) (o : Oper) (K : SV → Option (St → PHeap → Prop) → Prop) : Prop :=
  ∃ (x : SV) (v : Value) (S : Option (St → PHeap → Prop)) (Sw : World → Prop), K x S ∧ x.sat bs v ∧ (∀ i off, x = .loc i off → i < s.nl) ∧ Stays n w0 h0 s bs h Sw S ∧ Sw w ∧ YieldsIf P ops Sw o v a

theorem Gives.yields {s : St} {bs : Nat → Nat} {h : PHeap} {a : Act} {w : World} {o : Oper} {K : SV → Option (St → PHeap → Prop) → Prop} (hw : Region.wanted o (yielded ops a.tmps) = true) (hg : Gives P n w0 h0 s bs h a w o K) :
    Takes P n w0 h0 ops s bs h a w o K := by
  obtain ⟨x, v, S, Sw, h1, h2, h3, h4, h5, h6⟩ := hg
  exact ⟨x, v, S, Sw, h1, h2, h3, h4, h5, .inl ⟨hw, h6⟩⟩

theorem denTG_sound {s : St} {bs : Nat → Nat} {h : PHeap} {a : Act} {w : World} {o : Oper} {so : SOper} {K : SV → St → Option (St → PHeap → Prop) → Prop} (ht : takeable so.op = true) (hl : lowOper P esc ops o = some so)
    (r : Rel n w0 h0 s bs h a w) (hd : denTG P so s h K) : Takes P n w0 h0 ops s bs h a w o fun x => K x s := by
  rw [lowOper_eq] at hl
  split at hl
  · rename_i op g hop hg
    cases hl
    have hskip : Region.wanted o (yielded ops a.tmps) = false → K (.val undef) s none → Takes P n w0 h0 ops s bs h a w o fun x => K x s := fun hw hk =>
      ⟨.val undef, undef, none, fun _ => True, hk, rfl, noLoc, fun _ => trivial, trivial, .inr ⟨hw, rfl⟩⟩
    unfold lowGuard at hg
    split at hg
    · rename_i hgu
      cases hg
      exact (take_sound (K := fun x => K x s) ht hop r hd).yields (wanted_none hgu)
    · rename_i j b hgu
      split at hg
      · rename_i d _ _ _ _ _ hnth
        have hdst : (ops[j]?).bind (·.dst) = some d := by
          rw [nthL_eq, Array.getElem?_toList] at hnth
          rw [hnth]; rfl
        cases hg
        simp only [denTG] at hd
        split at hd
        · rename_i c hc
          have hy := yielded_bool r hdst hc
          have hw : Region.wanted o (yielded ops a.tmps) = (c == b) := by
            simp only [Region.wanted, hgu, hy]; cases c <;> cases b <;> rfl
          cases b <;> cases c <;> simp only [br, lit_eq hc] at hd
          · exact (take_sound (K := fun x => K x s) ht hop r hd).yields (by rw [hw]; rfl)
          · exact hskip (by rw [hw]; rfl) hd
          · exact hskip (by rw [hw]; rfl) hd
          · exact (take_sound (K := fun x => K x s) ht hop r hd).yields (by rw [hw]; rfl)
        · rename_i c hc
          have hy := yielded_tuple r hdst hc
          exact hskip (by simp only [Region.wanted, hgu, hy]; rfl) hd
        · exact hd.elim
      · cases hg
  · cases hl

theorem putD_sound {s : St} {bs : Nat → Nat} {h : PHeap} {a : Act} {w : World} {d : Option Nat} {x : SV} {v : Value} {K : St → Prop} (r : Rel n w0 h0 s bs h a w) (hx : x.sat bs v) (hl : ∀ i o, x = .loc i o → i < s.nl)
    (hd : putD n d x s K) : ∃ s', K s' ∧ s'.nl = s.nl ∧ s'.locs = s.locs ∧ Rel n w0 h0 s' bs h (a.put d v) w := by
  unfold putD at hd
  split at hd
  · split at hd
    · rename_i hb
      exact ⟨_, hd, rfl, rfl, r.put (Nat.blt_eq.mp hb) hx hl⟩
    · exact hd.elim
  · exact ⟨_, hd, rfl, rfl, r⟩

theorem apart_of {i j : Nat} {oi oj : Oper} (hap : apartOk ops ops.toList = true) (hi : ops[i]? = some oi) (hj : ops[j]? = some oj) (hne : i ≠ j) (h1 : i ∉ edges oj) (h2 : j ∉ edges oi) : oi.apart ops oj = true := by
  unfold apartOk at hap
  rw [List.all_eq_true] at hap
  have h3 := hap (oi, i) (by rw [List.mem_zipIdx_iff_getElem?]; simpa using hi)
  simp only [Bool.and_eq_true, List.all_eq_true] at h3
  have h4 := h3.2 (oj, j) (by rw [List.mem_zipIdx_iff_getElem?]; simpa using hj)
  simp only [Bool.or_eq_true] at h4
  rcases h4 with ((h4 | h4) | h4) | h4
  · exact absurd (Nat.eq_of_beq_eq_true h4) hne
  · exact absurd (memN_iff.1 h4) h1
  · exact absurd (memN_iff.1 h4) h2
  · exact h4

theorem noSel_of (hap : apartOk ops ops.toList = true) : ∀ (j : Nat) (o : Oper) cs b, ops[j]? = some o → o.op ≠ .select cs b := by
  intro j o cs b hj e
  unfold apartOk at hap
  rw [List.all_eq_true] at hap
  have h3 := hap (o, j) (by rw [List.mem_zipIdx_iff_getElem?]; simpa using hj)
  simp [isSelect, e] at h3

theorem denA_sound {sl : List (SOper × List Nat)} (hlow : lowDraw P esc ops ops.toList = some sl) (hap : apartOk ops ops.toList = true) {Q : Ex → St → PHeap → Prop} :
    ∀ {fuel : Nat} {done : List Nat} {ps : Pen} {qs : PenW} {s : St} {bs : Nat → Nat} {h : PHeap} {a : Act} {w : World} {listed : Array Bool}, Lst ops done listed → Closed ops listed → Rel n w0 h0 s bs h a w →
      Pens n w0 h0 s.nl bs ps qs → (∀ q ∈ qs, q.2 w) → denA P n sl (Q .normal) fuel done ps s h → wpAnyT P ops (fun i k => waitsN sl k i) (QR n w0 h0 Q) fuel listed qs a w
  | 0, done, ps, qs, s, bs, h, a, w, listed, hls, hcl, r, hpen, hq, hd => by
    unfold denA at hd
    split at hd
    · rename_i hr
      refine ⟨?_, s, bs, h, hd, r⟩
      rw [List.eq_nil_iff_forall_not_mem]
      intro i hi
      obtain ⟨so, hso⟩ := (ready_iff hlow hls).1 hi
      rw [hr] at hso; cases hso
    · exact hd.elim
  | fuel + 1, done, ps, qs, s, bs, h, a, w, listed, hls, hcl, r, hpen, hq, hd => by
    unfold denA at hd
    split at hd
    · rename_i hr
      refine ⟨fun _ => ⟨s, bs, h, hd, r⟩, fun i hi => ?_⟩
      obtain ⟨so, hso⟩ := (ready_iff hlow hls).1 hi
      rw [hr] at hso; cases hso
    · split at hd
      · rename_i i so hft
        obtain ⟨hmem, htk⟩ := firstTake_mem hft
        have hready := (ready_iff hlow hls).2 ⟨so, hmem⟩
        obtain ⟨af, _, _, hget, hnot, hsub⟩ := readyL_mem hmem
        obtain ⟨o, ho, hlo, rfl⟩ := (lowDraw_get hlow i).2 so af (by simpa using hget)
        have ho' : ops[i]? = some o := by simpa using ho
        obtain ⟨x, v, S, Sw, hk, hx, hxl, hst, hSw, hy⟩ := denTG_sound htk hlo r hd
        obtain ⟨s', hs', hnl, hlocs, r'⟩ := putD_sound r hx hxl hk
        have hdst := lowOper_dst hlo
        rw [hdst] at r'
        refine wpAnyT_first (S := Sw) (fun i k => waitsN_sound hlow) ho' (noSel_of hap) (fun _ _ _ hf => hf.elim) fuel listed qs a w hcl (fun j oj hj hji hun hno => ?_) hready hy hSw hq ?_
        · refine apart_of hap ho' hj (Ne.symm hji) (fun hm => ?_) (fun hm => ?_)
          · obtain ⟨e, he, hb, heq⟩ := mem_edges.1 hm
            exact hno e he hb heq
          · have := ready_edges hready o ho' j hm
            have hj' : j < ops.size := (Array.getElem?_eq_some_iff.1 hj).1
            rw [hls.not hj'] at hun
            rw [hls.eq j hj', hun] at this
            cases this
        · have hi : i < ops.size := (Array.getElem?_eq_some_iff.1 ho').1
          cases S with
          | none =>
            have hpens : Pens n w0 h0 s'.nl bs ps qs := by rw [hnl]; exact hpen
            refine wpAnyT_drop' fuel _ qs _ _ _ (fun p hp => ?_) (denA_sound hlow hap (hls.set hi) (hcl.set hready) r' hpens hq hs')
            cases hp with
            | head => exact .inr hst
            | tail _ ht => exact .inl ht
          | some S =>
            have hpens : Pens n w0 h0 s'.nl bs ((i, S) :: ps) ((i, Sw) :: qs) := by
              rw [hnl]
              exact ⟨⟨rfl, fun s2 bs2 h2 a2 w2 r2 hag hk2 => hst.2 s2 bs2 h2 a2 w2 r2 hag hk2⟩, hpen⟩
            refine denA_sound hlow hap (hls.set hi) (hcl.set hready) r' hpens (fun q hq' => ?_) hs'
            cases hq' with
            | head => exact hSw
            | tail _ ht => exact hq q ht
      · rw [allR_iff] at hd
        refine ⟨fun hr => ?_, fun i hi => ?_⟩
        · exfalso
          cases hrs : readyL done 0 sl with
          | nil => rename_i hne _ _; exact hne hrs
          | cons p l =>
            have := (ready_iff hlow hls (i := p.1)).2 ⟨p.2, by rw [hrs]; exact List.mem_cons_self⟩
            rw [hr] at this; cases this
        · obtain ⟨so, hso⟩ := (ready_iff hlow hls).1 hi
          obtain ⟨af, _, _, hget, hnot, hsub⟩ := readyL_mem hso
          obtain ⟨o, ho, hlo, rfl⟩ := (lowDraw_get hlow i).2 so af (by simpa using hget)
          have ho' : ops[i]? = some o := by simpa using ho
          have hii : i < ops.size := (Array.getElem?_eq_some_iff.1 ho').1
          have key := denG_sound (P := P) (Q := QR n w0 h0 Q) (next := fun a' w' => (∀ p ∈ qs, waitsN sl p.1 i = false → p.2 w') ∧
            wpAnyT P ops (fun i k => waitsN sl k i) (QR n w0 h0 Q) fuel (listed.setIfInBounds i true) (qs.filter fun p => !waitsN sl p.1 i) a' w') hlo r (hd _ hso) ?_
          · unfold wpOp
            simp only [ho']
            split
            · rename_i hw; rw [if_pos hw] at key; exact .inl key
            · rename_i hw; rw [if_neg hw] at key; exact key
          · intro x s' h' bs' v w' hk hx r' hag hnl hxl
            obtain ⟨ps', h1, h2, h3, h4⟩ := penOk_sound r' hag hnl hpen hk
            obtain ⟨s'', hs'', hnl'', hlocs, r''⟩ := putD_sound r' hx hxl h1
            rw [lowOper_dst hlo] at r''
            refine ⟨h2, denA_sound hlow hap (hls.set hii) (hcl.set hi) r'' ?_ ?_ hs''⟩
            · rw [hnl'']; exact h3.agree hag hnl
            · intro q hq'
              obtain ⟨h5, h6⟩ := List.mem_filter.1 hq'
              exact h2 q h5 (by simpa using h6)
end
end Go.Den
