import Derived.Test.YtifjnoabmbckpaaGreatDoorBla7
import Derived.WalkKit
import Derived.ProofKit
import Derived.OpenShut
import Derived.Deep.DeepHandedRow
import Derived.ChangeSlices
namespace Go.Sx
def encl (b : Bool) (s : Bytes) : Bytes := if b then [40] ++ s ++ [41] else s
def kd : E → Nat
 | .mk k _ _ _ _ _ _ => k
def opE : E → Bytes
 | .mk _ op _ _ _ _ _ => op
mutual
def txE : E → Bytes
 | .mk k op nm v _ args _ =>
   if k = 1 then [UInt8.ofNat (48 + v)]
   else if k = 7 then
    let t := txEs args
    encl (decide (kd (args.getD 0 (.mk 0 [] [] 0 [] [] 0)) = 7 ∧ levelS (opE (args.getD 0 (.mk 0 [] [] 0 [] [] 0))) < levelS op)) (t.getD 0 []) ++ [32] ++ op ++ [32] ++
     encl (decide (kd (args.getD 1 (.mk 0 [] [] 0 [] [] 0)) = 7 ∧ levelS (opE (args.getD 1 (.mk 0 [] [] 0 [] [] 0))) ≤ levelS op)) (t.getD 1 [])
   else nm
def txEs : List E → List Bytes
 | [] => []
 | e :: es => txE e :: txEs es
end
mutual
def smE : E → Bool
 | .mk k _ _ v _ args _ => (k == 1 && decide (v < 10) && args.isEmpty || k == 3 && args.isEmpty || k == 7 && args.length == 2) && smEs args
def smEs : List E → Bool
 | [] => true
 | e :: es => smE e && smEs es
end
theorem encl_len (b : Bool) (s : Bytes) : s.length ≤ (encl b s).length := by unfold encl; split <;> simp; omega
end Go.Sx
namespace Go.Proofs.D
open Go Go.Den Go.Sx
set_option maxRecDepth 100000
attribute [local irreducible] IntKind.wrap Tri parseS
section
variable {s : Bytes} {h h' : PHeap}
theorem Own.str {a : OA} {n k : Nat} {L : List Bytes} (hn : n = L.length) (ho : Own h 9 1 (vL a n k) n (L.map fun l => vS l)) : StrAt h a L := by
 subst hn
 rcases ho.2 with ⟨_, h1⟩ | ⟨b, cap, rest, h1, h2, _, _⟩
 · exact .inl (List.eq_nil_of_length_eq_zero h1)
 · injection h1 with h1 _ _
   refine .inr ⟨b, 0, h1, fun j l hj => ?_⟩
   rw [cell_of h2]
   have : j < L.length := (List.getElem?_eq_some_iff.1 hj).1
   rw [List.getElem?_append_left (by simpa using this)]
   simp [hj]
theorem encl_t (b : Bool) (l : Bytes) (hl : l.length ≤ 1000000) (h : PHeap) : Tri Tryz.prog 110 [vS l, vB b] h fun v h' => v = vS (encl b l) ∧ h' = h := by
 refine T110 ?_
 unfold R110
 refine br_split (fun e => ?_) (fun e => ?_)
 · subst e
   refine ⟨by simp; omega, by simp; omega, rfl, rfl⟩
 · subst e; exact ⟨rfl, rfl⟩
theorem itoa_t (v : Nat) (hv : v < 10) (h : PHeap) : Tri Tryz.prog 80 [vI v] h fun r h' => r = vS [UInt8.ofNat (48 + v)] ∧ h' = h := by
 refine T80 ?_
 unfold R80
 suffices hs : Tri Tryz.prog 126 [vI v] h fun r h' => r = vS [UInt8.ofNat (48 + v)] ∧ h' = h by
  refine Tri.mono hs ?_
  rintro _ h ⟨rfl, rfl⟩
  exact ⟨_, rfl, rfl, rfl⟩
 refine T126 ?_
 unfold R126
 suffices hs : Tri Tryz.prog 159 [vI v, vI 10] h fun r h' => r = vS [UInt8.ofNat (48 + v)] ∧ h' = h by
  refine Tri.mono hs ?_
  rintro _ h ⟨rfl, rfl⟩
  exact ⟨_, rfl, rfl, rfl⟩
 refine T159 ?_
 unfold R159
 refine br_pos rfl (br_pos (by simp) (br_pos (by simp; omega) ?_))
 suffices hs : Tri Tryz.prog 180 [vI v] h fun r h' => r = vS [UInt8.ofNat (48 + v)] ∧ h' = h by
  refine Tri.mono hs ?_
  rintro _ h ⟨rfl, rfl⟩
  exact ⟨_, rfl, rfl, rfl⟩
 refine T180 ?_
 unfold R180
 refine br_pos (by simp; omega) ?_
 rw [wrap64 (by omega) (by omega)]
 refine ⟨⟨by omega, by omega, by omega⟩, ?_, rfl⟩
 rw [show (((v : Nat) : Int) + 1).toNat - ((v : Nat) : Int).toNat = 1 by omega, Int.toNat_natCast]
 have : ∀ v, v < 10 → ((([48, 49, 50, 51, 52, 53, 54, 55, 56, 57, 97, 98, 99, 100, 101, 102, 103, 104, 105, 106, 107, 108, 109, 110, 111, 112, 113, 114, 115, 116, 117, 118, 119, 120, 121, 122] : Bytes).drop v).take 1) = [UInt8.ofNat (48 + v)] := by decide
 rw [this v hv]
theorem flat_vS : ∀ (l : List E), (l.map fun e => [vS (txE e)]).flatten = (l.map txE).map fun l => vS l
 | [] => rfl
 | x :: l => by rw [List.map_cons, List.flatten_cons, flat_vS l]; rfl
theorem smEs_iff : ∀ {l : List E}, smEs l = true ↔ ∀ e ∈ l, smE e = true
 | [] => by simp [smEs]
 | e :: l => by simp [smEs, smEs_iff (l := l)]
theorem exp_t : ∀ k e, cntE e ≤ k → k ≤ 100000 → smE e = true → (txE e).length ≤ 1000000 → ∀ cs h, RE (plP s) 8 h e cs → Tri Tryz.prog 67 [vA cs] h fun v h' => v = vS (txE e) ∧ Ext h h' := by
 intro k
 induction k with
 | zero => intro e he; have := cntE_pos e; omega
 | succ k ih =>
   intro e he hk5 hsm hle cs h hrel
   match e, he, hsm, hle, hrel with
   | .mk kd op nm vl tx args pos, he, hsm, hle, hrel =>
   obtain ⟨a1, c1, rfl, hA1⟩ := RE_iff.1 hrel
   simp only [cntE] at he
   have hlen := cntEs_len args
   simp only [smE, Bool.and_eq_true] at hsm
   obtain ⟨hsm1, hsm2⟩ := hsm
   have hsub : ∀ e ∈ args, (txE e).length ≤ 1000000 := fun e hm => by
    simp only [Bool.or_eq_true, Bool.and_eq_true, beq_iff_eq, decide_eq_true_eq] at hsm1
    rcases hsm1 with (⟨_, hn⟩ | ⟨_, hn⟩) | ⟨rfl, h2⟩
    · simp at hn; subst hn; cases hm
    · simp at hn; subst hn; cases hm
    · obtain ⟨x, y, rfl⟩ : ∃ x y, args = [x, y] := match args, h2 with | [x, y], _ => ⟨x, y, rfl⟩
      simp only [txE, txEs, List.getD_cons_zero, List.getD_cons_succ, if_neg (show ¬ (7 : Nat) = 1 by decide), if_true, List.length_append] at hle
      simp only [List.mem_cons, List.not_mem_nil, or_false] at hm
      rcases hm with rfl | rfl
      · have := encl_len (decide (Go.Sx.kd e = 7 ∧ levelS (opE e) < levelS op)) (txE e); omega
      · have := encl_len (decide (Go.Sx.kd e = 7 ∧ levelS (opE e) ≤ levelS op)) (txE e); omega
   refine T67 ?_
   unfold R67
   refine ⟨fun m a n k i h' => ∃ j : Nat, i = j ∧ j + m = args.length ∧ n = j ∧ Ext h h' ∧ LM 9 1 h h' a n k ((args.take j).map fun e => [vS (txE e)]), ⟨args.length, 0, rfl, by omega, rfl, Ext.refl _, LM.nil⟩, ?_⟩
   rintro m a2 n2 k2 _ h1 ⟨j, rfl, hjm, rfl, hx1, hM1⟩
   refine br_split (fun e2 => ?_) (fun e2 => ?_)
   · have hj : n2 < args.length := by
      have := of_decide_eq_true e2
      omega
     obtain ⟨b, o, cs, rfl, hr, hrel⟩ := hA1.get hj
     have hmem := List.getElem_mem hj
     have ihj := ih _ (by have := cntEs_mem hmem; omega) (by omega) (smEs_iff.1 hsm2 _ hmem) (hsub _ hmem) cs h1 (hrel.ext hx1)
     have htake := List.take_append_getElem hj
     generalize args[n2] = x at *
     match x, hrel with
     | .mk kd' op' nm' vl' tx' args' pos', hrel =>
     obtain ⟨a3, c3, rfl, hA3⟩ := RE_iff.1 hrel
     refine ⟨b, o, rfl, ⟨by omega, by omega⟩, _, _, _, _, _, _, _, _, _, _, row_ext (fun ob => hx1 b ob) hr, ?_⟩
     refine Tri.mono ihj ?_
     rintro _ h2 ⟨rfl, hx2⟩
     refine ⟨_, rfl, ?_⟩
     intro b2 hb2 h3 hh3
     refine Raw.mono (LM.append (h0 := h) (cs := [vS _]) und51 elem9 rfl rfl rfl rfl rfl (hM1.ext hx2) hb2 hh3 rfl rfl (by omega) (hx1.trans hx2).dom) ?_
     rintro _ h4 ⟨b4, cap4, rfl, hk4, hd4, hn4, hq4, hM4, hR4⟩
     refine ⟨_, _, _, rfl, m - 1, by omega, ⟨n2 + 1, ?_, by omega, rfl, fun q o hq => hk4 q o (ne_of hq) ((hx1.trans hx2) q o hq), ?_⟩, rfl, trivial⟩
     · rw [wrap64 (by omega) (by omega)]; rfl
     · rw [← htake, List.map_append]; exact hM4
   have hjl : n2 = args.length := by
    have := of_decide_eq_false e2
    omega
   subst hjl
   rw [List.take_length] at hM1
   have hstr : StrAt h1 a2 (args.map txE) := Own.str (n := args.length) (by simp) (by have := hM1.row; rwa [flat_vS] at this)
   simp only [Bool.or_eq_true, Bool.and_eq_true, beq_iff_eq, decide_eq_true_eq] at hsm1
   rcases hsm1 with (⟨⟨rfl, hv⟩, hn⟩ | ⟨rfl, hn⟩) | ⟨rfl, h2⟩
   · refine br_pos rfl ?_
     refine Tri.mono (itoa_t vl hv h1) ?_
     rintro _ h1 ⟨rfl, rfl⟩
     exact ⟨_, rfl, rfl, hx1⟩
   · (repeat refine br_neg rfl ?_)
     exact ⟨rfl, hx1⟩
   · obtain ⟨x, y, rfl⟩ : ∃ x y, args = [x, y] := match args, h2 with | [x, y], _ => ⟨x, y, rfl⟩
     iterate 5 refine br_neg rfl ?_
     refine br_pos rfl ?_
     rcases hstr with hstr | ⟨sb, so, rfl, hstr⟩
     · cases hstr
     rcases hA1 with hA1 | ⟨eb, eo, rfl, hA1⟩
     · cases hA1
     have hs0 := hstr 0 _ rfl
     have hs1 := hstr 1 _ rfl
     obtain ⟨cs0, hr0, hrel0⟩ := hA1 0 x rfl
     obtain ⟨cs1, hr1, hrel1⟩ := hA1 1 y rfl
     have hlx := hsub x (by simp)
     have hly := hsub y (by simp)
     have hex : txE (.mk 7 op nm vl tx [x, y] pos) = encl (decide (Go.Sx.kd x = 7 ∧ levelS (opE x) < levelS op)) (txE x) ++ [32] ++ op ++ [32] ++ encl (decide (Go.Sx.kd y = 7 ∧ levelS (opE y) ≤ levelS op)) (txE y) := rfl
     rw [hex] at hle ⊢
     simp only [List.length_append] at hle
     match x, y, hrel0, hrel1 with
     | .mk k0 op0 nm0 v0 tx0 args0 pos0, .mk k1 op1 nm1 v1 tx1 args1 pos1, hrel0, hrel1 =>
     obtain ⟨a3, c3, rfl, hA3⟩ := RE_iff.1 hrel0
     obtain ⟨a4, c4, rfl, hA4⟩ := RE_iff.1 hrel1
     have hr0 := row_ext (fun ob => hx1 eb ob) hr0
     have hr1 := row_ext (fun ob => hx1 eb ob) hr1
     refine Tri.mono (level_tri op h1) ?_
     rintro _ h1 ⟨rfl, rfl⟩
     have hdl : decide (Go.Sx.kd (.mk k0 op0 nm0 v0 tx0 args0 pos0) = 7 ∧ levelS (opE (.mk k0 op0 nm0 v0 tx0 args0 pos0)) < levelS op) = (decide (k0 = 7) && decide (levelS op0 < levelS op)) := Bool.decide_and ..
     have hdr : decide (Go.Sx.kd (.mk k1 op1 nm1 v1 tx1 args1 pos1) = 7 ∧ levelS (opE (.mk k1 op1 nm1 v1 tx1 args1 pos1)) ≤ levelS op) = (decide (k1 = 7) && decide (levelS op1 ≤ levelS op)) := Bool.decide_and ..
     rw [hdl, hdr] at hle ⊢
     have hlt : decide (((levelS op0 : Nat) : Int) < ((levelS op : Nat) : Int)) = decide (levelS op0 < levelS op) := by rw [Bool.eq_iff_iff]; simp
     have hlr : decide (((levelS op1 : Nat) : Int) ≤ ((levelS op : Nat) : Int)) = decide (levelS op1 ≤ levelS op) := by rw [Bool.eq_iff_iff]; simp
     refine ⟨_, rfl, sb, so, rfl, ⟨by decide, by simp⟩, _, hs0, eb, eo, rfl, ⟨by decide, by simp⟩, _, hr0.1, br_split (fun e => ?_) (fun e => ?_)⟩
     · have e : k0 = 7 := by have := beq_iff_eq.1 e; omega
       refine ⟨eb, eo, rfl, ⟨by decide, by simp⟩, _, hr0.2.1, ?_⟩
       refine Tri.mono (level_tri op0 h1) ?_
       rintro _ h1 ⟨rfl, rfl⟩
       refine ⟨_, rfl, rfl, hr0.1, rfl, hs0, ?_⟩
       refine Tri.mono (encl_t _ _ hlx h1) ?_
       rintro _ h1 ⟨rfl, rfl⟩
       rw [hlt]
       have hdl2 : (decide (k0 = 7) && decide (levelS op0 < levelS op)) = decide (levelS op0 < levelS op) := by rw [e]; rfl
       rw [hdl2] at hle ⊢
       refine ⟨_, rfl, rfl, hr0.1, rfl, sb, so, rfl, ⟨by decide, by simp⟩, _, hs1, eb, eo, rfl, ⟨by decide, by simp⟩, _, hr1.1, br_split (fun e' => ?_) (fun e' => ?_)⟩
       · have e' : k1 = 7 := by have := beq_iff_eq.1 e'; omega
         refine ⟨eb, eo, rfl, ⟨by decide, by simp⟩, _, hr1.2.1, ?_⟩
         refine Tri.mono (level_tri op1 h1) ?_
         rintro _ h1 ⟨rfl, rfl⟩
         refine ⟨_, rfl, rfl, hr1.1, rfl, hs1, ?_⟩
         refine Tri.mono (encl_t _ _ hly h1) ?_
         rintro _ h1 ⟨rfl, rfl⟩
         rw [hlr]
         have hdr2 : (decide (k1 = 7) && decide (levelS op1 ≤ levelS op)) = decide (levelS op1 ≤ levelS op) := by rw [e']; rfl
         rw [hdr2] at hle ⊢
         exact ⟨_, rfl, rfl, hr1.1, rfl, by omega, by simp only [List.length_append]; omega, by simp only [List.length_append]; omega, by simp only [List.length_append]; omega, rfl, hx1⟩
       · have e' : k1 ≠ 7 := fun q => by subst q; cases e'
         refine ⟨hr1.1, rfl, hs1, ?_⟩
         refine Tri.mono (encl_t _ _ hly h1) ?_
         rintro _ h1 ⟨rfl, rfl⟩
         have hdr2 : (decide (k1 = 7) && decide (levelS op1 ≤ levelS op)) = false := by rw [decide_eq_false e']; rfl
         rw [hdr2] at hle ⊢
         exact ⟨_, rfl, hr1.1, rfl, by omega, by simp only [List.length_append]; omega, by simp only [List.length_append]; omega, by simp only [List.length_append]; omega, rfl, hx1⟩
     · have e : k0 ≠ 7 := fun q => by subst q; cases e
       refine ⟨hr0.1, rfl, hs0, ?_⟩
       refine Tri.mono (encl_t _ _ hlx h1) ?_
       rintro _ h1 ⟨rfl, rfl⟩
       have hdl2 : (decide (k0 = 7) && decide (levelS op0 < levelS op)) = false := by rw [decide_eq_false e]; rfl
       rw [hdl2] at hle ⊢
       refine ⟨_, rfl, hr0.1, rfl, sb, so, rfl, ⟨by decide, by simp⟩, _, hs1, eb, eo, rfl, ⟨by decide, by simp⟩, _, hr1.1, br_split (fun e' => ?_) (fun e' => ?_)⟩
       · have e' : k1 = 7 := by have := beq_iff_eq.1 e'; omega
         refine ⟨eb, eo, rfl, ⟨by decide, by simp⟩, _, hr1.2.1, ?_⟩
         refine Tri.mono (level_tri op1 h1) ?_
         rintro _ h1 ⟨rfl, rfl⟩
         refine ⟨_, rfl, rfl, hr1.1, rfl, hs1, ?_⟩
         refine Tri.mono (encl_t _ _ hly h1) ?_
         rintro _ h1 ⟨rfl, rfl⟩
         rw [hlr]
         have hdr2 : (decide (k1 = 7) && decide (levelS op1 ≤ levelS op)) = decide (levelS op1 ≤ levelS op) := by rw [e']; rfl
         rw [hdr2] at hle ⊢
         exact ⟨_, rfl, rfl, hr1.1, rfl, by omega, by simp only [List.length_append]; omega, by simp only [List.length_append]; omega, by simp only [List.length_append]; omega, rfl, hx1⟩
       · have e' : k1 ≠ 7 := fun q => by subst q; cases e'
         refine ⟨hr1.1, rfl, hs1, ?_⟩
         refine Tri.mono (encl_t _ _ hly h1) ?_
         rintro _ h1 ⟨rfl, rfl⟩
         have hdr2 : (decide (k1 = 7) && decide (levelS op1 ≤ levelS op)) = false := by rw [decide_eq_false e']; rfl
         rw [hdr2] at hle ⊢
         exact ⟨_, rfl, hr1.1, rfl, by omega, by simp only [List.length_append]; omega, by simp only [List.length_append]; omega, by simp only [List.length_append]; omega, rfl, hx1⟩
def exT : Bytes := [102, 117, 110, 99, 32, 109, 97, 105, 110, 40, 41, 32, 123, 32, 120, 32, 61, 32, 97, 32, 45, 32, 40, 98, 32, 45, 32, 99, 41, 32, 42, 32, 40, 50, 41, 59, 32, 125]
def exE : E := .mk 7 [45] [] 0 [] [.mk 3 [] [97] 0 [] [] 18, .mk 7 [42] [] 0 [] [.mk 7 [45] [] 0 [] [.mk 3 [] [98] 0 [] [] 23, .mk 3 [] [99] 0 [] [] 27] 25, .mk 1 [] [] 2 [] [] 33] 30] 20
def exP : Pg := ⟨[], [⟨[109, 97, 105, 110], [], [.mk 2 [120] [exE] [] [] 14], 5⟩]⟩
theorem ex_parse : parseS exT = .ok exP := by kernel_rfl
theorem ex_check : (checkS exP).map (·.1) = some 37 := by decide +kernel
theorem ex_text : smE exE = true ∧ txE exE = [97, 32, 45, 32, 40, 98, 32, 45, 32, 99, 41, 32, 42, 32, 50] := by decide +kernel
theorem known_ok : KnownOk := by
 intro h ht
 refine T16 ?_
 unfold R16
 refine Tri.mono (parse_tri exT h ht) ?_
 rintro v h1 ⟨hx1, hv⟩
 rw [ex_parse] at hv
 obtain ⟨ga, gc, fa, fc, rfl, hG, hF⟩ := hv
 have hG := hG.whole (RG_mono _) (Ext.refl _)
 have hF := hF.whole (RF_mono _ _ _) (Ext.refl _)
 refine ⟨_, _, _, _, _, _, _, _, _, rfl, br_neg rfl (br_neg rfl ?_)⟩
 obtain ⟨b1, o1, cs, ha, hr, hrel⟩ := hF.get (n := 0) (by decide)
 obtain ⟨pa, pc, ba, bc, rfl, hP, hB, _⟩ := hrel
 obtain ⟨b2, o2, cs2, hb, hr2, hrel2⟩ := hB.get (n := 0) (by decide)
 obtain ⟨aa, ac, _, _, _, _, rfl, hE, _, _⟩ := RS_iff.1 hrel2
 obtain ⟨b3, o3, cs3, hc, hr3, hrel3⟩ := hE.get (n := 0) (by decide)
 have hw := parseS_wf ex_parse
 have hcnt := parseS_cnt ex_parse
 refine ⟨b1, o1, ha, ⟨by decide, by decide⟩, _, _, _, hr.2.2.1, br_neg rfl ⟨b1, o1, ha, ⟨by decide, by decide⟩, _, _, _, hr.2.2.1, b2, o2, hb, ⟨by decide, by decide⟩, _, _, _, hr2.2.2.1, br_neg rfl ?_⟩⟩
 refine Tri.mono (check_tri hw hcnt hG hF) ?_
 rintro _ h2 ⟨rfl, hx2⟩
 have hr' := row_ext (fun ob => hx2 b1 ob) hr
 have hr2' := row_ext (fun ob => hx2 b2 ob) hr2
 have hr3' := row_ext (fun ob => hx2 b3 ob) hr3
 refine ⟨_, _, _, rfl, b1, o1, ha, ⟨by decide, by decide⟩, _, _, _, hr'.2.2.1, b2, o2, hb, ⟨by decide, by decide⟩, _, _, _, hr2'.2.2.1, b3, o3, hc, ⟨by decide, by decide⟩, ?_⟩
 have hrel3 : RE (plP exT) 8 h1 exE cs3 := hrel3
 obtain ⟨a8, c8, rfl, hA8⟩ := RE_iff.1 hrel3
 refine ⟨_, _, _, _, _, _, _, _, _, _, hr3', ?_⟩
 have hwe : wfE exE := by
  have := wfSs_iff.1 (hw _ (List.mem_cons_self ..)) _ (List.mem_cons_self ..)
  exact (wfEs_iff.1 this.2.1 _ (List.mem_cons_self ..))
 have hout : Tri Tryz.prog 22 [vA ([vI (7 : Nat), vS [45], vS [], vI (0 : Nat), vS [], vL a8 2 c8] ++ plP exT 20)] h2 fun v h' => v = vS (txE exE) ∧ Ext h2 h' := by
  refine T22 ?_
  unfold R22
  intro b4 hb4 h3 hh3
  have hx3 := Put.ext hh3 hb4
  refine Tri.mono (texpr (s := exT) hb4 (cntE exE) exE (Nat.le_refl _) hwe _ (hrel3.ext hx2) h3 (4096 - cntE exE) hx3 ⟨by decide +kernel, Put.at hh3⟩) ?_
  rintro _ h4 ⟨rfl, ha4, hc4⟩
  have hx4 := ext_away hb4 hx3 ha4
  refine ⟨_, rfl, br_neg rfl ?_⟩
  refine Tri.mono (exp_t (s := exT) _ exE (Nat.le_refl _) (by decide +kernel) ex_text.1 (by decide +kernel) _ h4 (hrel3.ext (hx2.trans hx4))) ?_
  rintro _ h5 ⟨rfl, hx5⟩
  exact ⟨_, rfl, rfl, hx4.trans hx5⟩
 refine Tri.mono hout ?_
 rintro _ h3 ⟨rfl, hx3⟩
 refine ⟨_, rfl, br_pos (by rw [ex_text.2]; rfl) ⟨?_, (hx1.trans hx2).trans hx3⟩⟩
 have : (erp exT (checkS exP)).2.2 = 37 := by
  have h0 := ex_check
  cases hq : checkS exP with
  | none => rw [hq] at h0; cases h0
  | some x =>
    rw [hq] at h0
    obtain ⟨c, p⟩ := x
    have h0 : c = 37 := by simpa using h0
    subst h0
    cases p <;> rfl
 rw [this]; rfl
end
end Go.Proofs.D
namespace Go.Proofs.D
open Go Go.Den Go.Sx
set_option maxRecDepth 100000
attribute [local irreducible] IntKind.wrap Tri parseS
section
variable {s : Bytes} {pb po : Nat} {h : PHeap}
end
theorem short_min (n : Int) : PureRun Tryz.prog (execOp (rho [(5, vI n)]) (mkO o13_0 3)) (vI (if 1500 < n then 1500 else n)) := pureVal_run _ (by kernel_rfl)
theorem short_tri (s : Bytes) (h : PHeap) : Tri Tryz.prog 13 [vS s] h fun v h' => v = vS (s.take 1500) ∧ h' = h := by
 refine T13 ?_
 unfold R13
 refine ⟨_, short_min _, ?_⟩
 split
 · rename_i hl
   refine ⟨⟨Int.le_refl _, by omega, by omega⟩, ?_, rfl⟩
   rw [List.drop_zero]; rfl
 · rename_i hl
   refine ⟨⟨Int.le_refl _, by omega, Int.le_refl _⟩, ?_, rfl⟩
   rw [List.drop_zero, Int.toNat_natCast, Nat.sub_zero, List.take_of_length_le (by omega), List.take_of_length_le (by omega)]
end Go.Proofs.D
namespace Go.Proofs.D
open Go Go.Den
set_option maxRecDepth 100000
set_option maxHeartbeats 4000000
noncomputable def d10 : DCode := up ⟨[(20, .c (.one false [.str])), (23, .c (.tup [(false, [.slice]), (false, [qi]), (false, [qi])])), (27, .c (.one false [.bool])), (33, .c (.one false [.bool])), (47, .l [.int .u8]), (53, .l [.str]), (59, .l [.str]), (63, .c (.tup [(true, [.slice, .slice]), (false, [qi]), (false, [qi]), (false, [qi])])), (70, .c (.tup [(true, [.slice, .slice]), (false, [qi]), (false, [qi]), (false, [qi])])), (79, .l [.slice, .slice]), (80, .l [.slice, .slice]), (81, .c (.one false [.bool]))], [], [(34, 30, [(8, .str), (9, qi)], [])]⟩ (low Tryz.prog (fun _ => false) (Tryz.f10.body.getD .skip))
theorem low10 : low Tryz.prog (fun _ => false) (Tryz.f10.body.getD .skip) = some (eC d10) := by kernel_rfl
def R10 (l1 : Bs) (a1 : OA) (n1 : Nat) (k1 : Nat) (h : PHeap) (Q : Value → PHeap → Prop) : Prop :=
 Tri Tryz.prog 13 [vS l1] h fun v_1 h_1 =>
 ∃ (l2 : Bs), v_1 = vS l2 ∧
 Tri Tryz.prog 31 [vS l2] h_1 fun v_2 h_2 =>
 ∃ (a2 : OA) (n2 k2 : Nat) (i1 i2 : Int), v_2 = vT [vL a2 n2 k2, vI i1, vI i2] ∧
 Tri Tryz.prog 16 [] h_2 fun v_3 h_3 =>
 ∃ (c1 : Bool), v_3 = vB c1 ∧
 br (!c1)
 (Tri Tryz.prog 16 [] h_3 fun v_4 h_4 =>
 ∃ (c2 : Bool), v_4 = vB c2 ∧
 Q (vB c2) h_4)
 (br (i2 != 0)
 (Tri Tryz.prog 16 [] h_3 fun v_5 h_5 =>
 ∃ (c3 : Bool), v_5 = vB c3 ∧
 Q (vB c3) h_5)
 (∃ (I_1 : Nat → Bs → Int → PHeap → Prop), (∃ (m2 : Nat), I_1 m2 [] (0 : Int) h_3) ∧
 ∀ (m1 : Nat) (l3 : Bs) (i3 : Int) (h_6 : PHeap), I_1 m1 l3 i3 h_6 →
 br (decide (i3 < ((n2 : Nat) : Int)))
 (br (decide (i3 < ((n1 : Nat) : Int)))
 (∃ (b1 o1 : Nat), a1 = some ⟨b1, o1, none⟩ ∧ (0 ≤ i3 ∧ i3 < n1) ∧
 ∃ (i4 : Int), h_6.cell b1 (o1 + (i3).toNat * 1) = some (vU i4) ∧
 ∃ (b2 o2 : Nat), a2 = some ⟨b2, o2, none⟩ ∧ (0 ≤ i3 ∧ i3 < n2) ∧
 ∃ (l4 : Bs), h_6.cell b2 ((o2 + (i3).toNat * 5) + 1) = some (vS l4) ∧
 ∀ (b3 : Nat), h_6 b3 = none → ∀ (h_7 : PHeap), h_7 = h_6.put b3 (.cells ⟨[vS [32], vS [10], vS [9, 32], vS [32, 47, 47, 32, 120, 10], vS [32, 32]]⟩ 9) →
 (h_7.cell b2 ((o2 + (i3).toNat * 5) + 1) = some (vS l4)) ∧
 ∃ (b4 o3 : Nat), (ad b3 0) = some ⟨b4, o3, none⟩ ∧ (0 ≤ (Int.tmod i4 5) ∧ (Int.tmod i4 5) < (5 : Nat)) ∧
 ∃ (l5 : Bs), h_7.cell b4 (o3 + (Int.tmod i4 5).toNat * 1) = some (vS l5) ∧
 l3.length + l5.length ≤ 9223372036854775807 ∧
 (l3 ++ l5).length + l4.length ≤ 9223372036854775807 ∧
 ∃ (m3 : Nat), m3 < m1 ∧ I_1 m3 ((l3 ++ l5) ++ l4) (IntKind.i64.wrap (i3 + 1)) h_7 ∧
 True)
 (∃ (b5 o4 : Nat), a2 = some ⟨b5, o4, none⟩ ∧ (0 ≤ i3 ∧ i3 < n2) ∧
 ∃ (l6 : Bs), h_6.cell b5 ((o4 + (i3).toNat * 5) + 1) = some (vS l6) ∧
 ∀ (b6 : Nat), h_6 b6 = none → ∀ (h_8 : PHeap), h_8 = h_6.put b6 (.cells ⟨[vS [32], vS [10], vS [9, 32], vS [32, 47, 47, 32, 120, 10], vS [32, 32]]⟩ 9) →
 (h_8.cell b5 ((o4 + (i3).toNat * 5) + 1) = some (vS l6)) ∧
 ∃ (b7 o5 : Nat), (ad b6 0) = some ⟨b7, o5, none⟩ ∧ (0 ≤ (Int.tmod 0 5) ∧ (Int.tmod 0 5) < (5 : Nat)) ∧
 ∃ (l7 : Bs), h_8.cell b7 (o5 + (Int.tmod 0 5).toNat * 1) = some (vS l7) ∧
 l3.length + l7.length ≤ 9223372036854775807 ∧
 (l3 ++ l7).length + l6.length ≤ 9223372036854775807 ∧
 ∃ (m4 : Nat), m4 < m1 ∧ I_1 m4 ((l3 ++ l7) ++ l6) (IntKind.i64.wrap (i3 + 1)) h_8 ∧
 True))
 (Tri Tryz.prog 14 [vS l2] h_6 fun v_6 h_9 =>
 ∃ (a3 : OA) (n3 k3 : Nat) (a4 : OA) (n4 k4 : Nat) (i5 i6 i7 : Int), v_6 = vT [vA [vL a3 n3 k3, vL a4 n4 k4], vI i5, vI i6, vI i7] ∧
 Tri Tryz.prog 14 [vS l3] h_9 fun v_7 h_10 =>
 ∃ (a5 : OA) (n5 k5 : Nat) (a6 : OA) (n6 k6 : Nat) (i8 i9 i10 : Int), v_7 = vT [vA [vL a5 n5 k5, vL a6 n6 k6], vI i8, vI i9, vI i10] ∧
 br (i7 == i10)
 (Tri Tryz.prog 32 [vA [vL a3 n3 k3, vL a4 n4 k4], vA [vL a5 n5 k5, vL a6 n6 k6]] h_10 fun v_8 h_11 =>
 ∃ (c4 : Bool), v_8 = vB c4 ∧
 Q (vB c4) h_11)
 (Q (vB false) h_10))))
theorem T10 {l1 : Bs} {a1 : OA} {n1 : Nat} {k1 : Nat} {h : PHeap} {Q : Value → PHeap → Prop} (hR : R10 l1 a1 n1 k1 h Q) : Tri Tryz.prog 10 [vS l1, vL a1 n1 k1] h Q :=
 tri_of_dn mixed Tryz.func10 rfl (by kernel_rfl) low10 (rs := [.tmp 4]) (by kernel_rfl) rfl (Eq.mpr (by kernel_rfl : dnF Tryz.prog Tryz.f10.ntmps d10 [.tmp 4] [vS l1, vL a1 n1 k1] h Q = R10 l1 a1 n1 k1 h Q) hR)
end Go.Proofs.D
namespace Go.Sx
theorem lead_le (p : UInt8 → Bool) : ∀ (l : Bytes), lead p l ≤ l.length
 | [] => Nat.le_refl _
 | c :: l => by
   rw [lead]
   split
   · have := lead_le p l; rw [List.length_cons]; omega
   · omega
theorem lead_take {p : UInt8 → Bool} {w : UInt8} (hw : p w = false) (m : Bytes) : ∀ (l : Bytes), lead p (l.take (lead p l) ++ w :: m) = lead p l
 | [] => by simp [lead, hw]
 | c :: l => by
   by_cases h : p c = true
   · have e : lead p (c :: l) = lead p l + 1 := by rw [lead, if_pos h]
     rw [e, List.take_succ_cons, List.cons_append, lead, if_pos h, lead_take hw m l]
   · have e : lead p (c :: l) = 0 := by rw [lead, if_neg h]
     rw [e, List.take_zero, List.nil_append, lead, hw]; rfl
theorem charS_take {r : Bytes} {b : UInt8} {n : Nat} (h : charS r = .ok (b, n)) : 1 ≤ n ∧ n ≤ r.length ∧ ∀ m, charS (r.take n ++ m) = .ok (b, n) := by
 unfold charS at h
 repeat' split at h
 all_goals first
  | (exfalso; cases h; done)
  | (injection h with h; injection h with h1 h2; subst h1; subst h2; refine ⟨by omega, by simp, fun m => ?_⟩; simp_all [charS])
theorem strS_take : ∀ (f : Nat) (r : Bytes) (m : Bytes) (k : Nat), strS f r = .ok (m, k) → k < r.length ∧ r.drop k = 34 :: r.drop (k + 1) ∧ ∀ f' x, k < f' → strS f' (r.take k ++ 34 :: x) = .ok (m, k)
 | 0, r, m, k, h => by cases h
 | f + 1, [], m, k, h => by cases h
 | f + 1, c :: l, m, k, h => by
   rw [strS] at h
   split at h
   · rename_i hc
     have hc : c = 34 := by simpa using hc
     subst hc
     injection h with h; injection h with h1 h2; subst h1; subst h2
     refine ⟨by simp, rfl, fun f' x hf => ?_⟩
     obtain ⟨g, rfl⟩ : ∃ g, f' = g + 1 := ⟨f' - 1, by omega⟩
     rw [List.take_zero, List.nil_append, strS]; rfl
   · rename_i hc
     cases hch : charS (c :: l) with
     | error e =>
       obtain ⟨e1, e2⟩ := e
       rw [hch] at h
       split at h <;> first | (cases h; done) | simp_all
     | ok bn =>
       obtain ⟨b, n⟩ := bn
       rw [hch] at h
       obtain ⟨hn1, hn2, hn3⟩ := charS_take hch
       simp only at h
       cases hst : strS f ((c :: l).drop n) with
       | error e =>
         obtain ⟨e1, e2⟩ := e
         rw [hst] at h
         split at h <;> first | (cases h; done) | simp_all
       | ok mk =>
         obtain ⟨m', k'⟩ := mk
         rw [hst] at h
         injection h with h; injection h with h1 h2; subst h1; subst h2
         obtain ⟨i1, i2, i3⟩ := strS_take f _ _ _ hst
         rw [List.length_drop] at i1
         refine ⟨by omega, ?_, fun f' x hf => ?_⟩
         · rw [List.drop_drop, List.drop_drop] at i2
           rw [Nat.add_comm k' n, i2, Nat.add_assoc]
         · obtain ⟨g, rfl⟩ : ∃ g, f' = g + 1 := ⟨f' - 1, by omega⟩
           have e1 : (c :: l).take (k' + n) ++ 34 :: x = (c :: l).take n ++ (((c :: l).drop n).take k' ++ 34 :: x) := by
            rw [← List.append_assoc, Nat.add_comm k' n, List.take_add]
           have e2 : ∃ y, (c :: l).take (k' + n) ++ 34 :: x = c :: y := by
            obtain ⟨q, hq⟩ : ∃ q, k' + n = q + 1 := ⟨k' + n - 1, by omega⟩
            exact ⟨_, by rw [hq, List.take_succ_cons, List.cons_append]⟩
           obtain ⟨y, hy⟩ := e2
           have e3 : charS (c :: y) = .ok (b, n) := by rw [← hy, e1]; exact hn3 _
           have e4 : (c :: y).drop n = ((c :: l).drop n).take k' ++ 34 :: x := by
            rw [← hy, e1, List.drop_append_of_le_length (by rw [List.length_take]; omega), List.drop_eq_nil_of_le (by rw [List.length_take]; omega), List.nil_append]
           rw [hy, strS, if_neg hc, e3]
           simp only
           rw [e4, i3 g x (by omega)]
def isW (w : UInt8) : Prop := w = 32 ∨ w = 10 ∨ w = 9
theorem isW_al {w : UInt8} (h : isW w) : isAl w = false := by rcases h with rfl | rfl | rfl <;> rfl
theorem mark_w {c w : UInt8} (h : isW w) : marks.contains [c, w] = false := by
 rcases h with rfl | rfl | rfl <;> simp [marks]
theorem take_app {r m : Bytes} {n : Nat} (h : n ≤ r.length) : (r.take n ++ m).take n = r.take n := by
 rw [List.take_append_of_le_length (by rw [List.length_take]; omega), List.take_take, Nat.min_self]
theorem oneS_take {r : Bytes} {kd len v : Nat} {b : Bytes} (h : oneS r = .ok (kd, len, v, b)) : 1 ≤ len ∧ len ≤ r.length ∧ (∃ c l, r = c :: l ∧ ¬isW c ∧ (c = 47 → len = 1)) ∧ ∀ w m, isW w → oneS (r.take len ++ w :: m) = .ok (kd, len, v, b) := by
 match r, h with
 | c :: l, h =>
 by_cases hL : isLetter c = true
 · have hw : ¬isW c ∧ c ≠ 47 := ⟨fun hw => by (rcases hw with rfl | rfl | rfl <;> cases hL), fun hw => by (subst hw; cases hL)⟩
   have hk : ∃ q, lead isAl (c :: l) = q + 1 := ⟨_, by rw [lead, if_pos (by simp [isAl, hL])]⟩
   have hle := lead_le isAl (c :: l)
   have key : len = lead isAl (c :: l) ∧ ∀ w m, isW w → oneS ((c :: l).take (lead isAl (c :: l)) ++ w :: m) = .ok (kd, len, v, b) := by
    simp only [oneS, if_pos hL] at h
    have hlen : len = lead isAl (c :: l) := by
     repeat' split at h
     all_goals first | (cases h; done) | (cases h; rfl)
    refine ⟨hlen, fun w m hw => ?_⟩
    have e1 := lead_take (isW_al hw) m (c :: l)
    have e2 := take_app (m := w :: m) hle
    have hcons : ∃ y, (c :: l).take (lead isAl (c :: l)) ++ w :: m = c :: y := by
     obtain ⟨q, hq⟩ := hk
     exact ⟨_, by rw [hq, List.take_succ_cons, List.cons_append]⟩
    obtain ⟨y, hy⟩ := hcons
    rw [hy] at e1 e2 ⊢
    simp only [oneS, if_pos hL, e1, e2]
    exact h
   obtain ⟨q, hq⟩ := hk
   exact ⟨by omega, by omega, ⟨c, l, rfl, hw.1, fun e => absurd e hw.2⟩, by rw [key.1]; rw [key.1] at key; exact key.2⟩
 by_cases hD : isDigit c = true
 · have hw : ¬isW c ∧ c ≠ 47 := ⟨fun hw => by (rcases hw with rfl | rfl | rfl <;> cases hD), fun hw => by (subst hw; cases hD)⟩
   have hk : ∃ q, lead isAl (c :: l) = q + 1 := ⟨_, by rw [lead, if_pos (by simp [isAl, hD])]⟩
   have hle := lead_le isAl (c :: l)
   have key : len = lead isAl (c :: l) ∧ ∀ w m, isW w → oneS ((c :: l).take (lead isAl (c :: l)) ++ w :: m) = .ok (kd, len, v, b) := by
    simp only [oneS, if_neg hL, if_pos hD] at h
    have hlen : len = lead isAl (c :: l) := by
     repeat' split at h
     all_goals first | (cases h; done) | (cases h; rfl)
    refine ⟨hlen, fun w m hw => ?_⟩
    have e1 := lead_take (isW_al hw) m (c :: l)
    have e2 := take_app (m := w :: m) hle
    have hcons : ∃ y, (c :: l).take (lead isAl (c :: l)) ++ w :: m = c :: y := by
     obtain ⟨q, hq⟩ := hk
     exact ⟨_, by rw [hq, List.take_succ_cons, List.cons_append]⟩
    obtain ⟨y, hy⟩ := hcons
    rw [hy] at e1 e2 ⊢
    simp only [oneS, if_neg hL, if_pos hD, e1, e2]
    exact h
   obtain ⟨q, hq⟩ := hk
   exact ⟨by omega, by omega, ⟨c, l, rfl, hw.1, fun e => absurd e hw.2⟩, by rw [key.1]; rw [key.1] at key; exact key.2⟩
 by_cases h39 : (c == 39) = true
 · simp only [oneS, if_neg hL, if_neg hD, if_pos h39] at h
   have hc : c = 39 := by simpa using h39
   split at h
   · cases h
   rename_i hh
   cases hch : charS l with
   | error e =>
     obtain ⟨e1, e2⟩ := e
     rw [hch] at h
     split at h <;> first | (cases h; done) | simp_all
   | ok bn =>
     obtain ⟨b', n⟩ := bn
     rw [hch] at h
     obtain ⟨hn1, hn2, hn3⟩ := charS_take hch
     simp only at h
     cases hd : l.drop n with
     | nil => rw [hd] at h; cases h
     | cons d y =>
       rw [hd] at h
       simp only at h
       split at h
       · rename_i hd39
         have hd39 : d = 39 := by simpa using hd39
         subst hd39
         injection h with h; injection h with h1 h; injection h with h2 h; injection h with h3 h4
         subst h1; subst h2; subst h3; subst h4
         have hnl : n < l.length := by have := congrArg List.length hd; rw [List.length_drop, List.length_cons] at this; omega
         refine ⟨by omega, by rw [List.length_cons]; omega, ⟨c, l, rfl, fun hw => by (subst hc; rcases hw with hw | hw | hw <;> cases hw), fun e => by (subst hc; cases e)⟩, fun w m hw => ?_⟩
         have e1 : (c :: l).take (n + 2) ++ w :: m = c :: (l.take n ++ 39 :: w :: m) := by
          have : l.take (n + 1) = l.take n ++ [39] := by rw [List.take_add, hd]; rfl
          rw [List.take_succ_cons, this]; simp
         have e2 : (l.take n ++ 39 :: w :: m).head? = l.head? := by
          obtain ⟨q, rfl⟩ : ∃ q, n = q + 1 := ⟨n - 1, by omega⟩
          cases l with
          | nil => simp at hn2
          | cons a l => rfl
         have e3 : (l.take n ++ 39 :: w :: m).drop n = 39 :: w :: m := by
          rw [List.drop_append_of_le_length (by rw [List.length_take]; omega), List.drop_eq_nil_of_le (by rw [List.length_take]; omega), List.nil_append]
         rw [e1]
         simp only [oneS, if_neg hL, if_neg hD, if_pos h39, e2, if_neg hh, hn3, e3]
         rfl
       · cases h
 by_cases h34 : (c == 34) = true
 · simp only [oneS, if_neg hL, if_neg hD, if_neg h39, if_pos h34] at h
   have hc : c = 34 := by simpa using h34
   cases hst : strS (l.length + 1) l with
   | error e =>
     obtain ⟨e1, e2⟩ := e
     rw [hst] at h
     split at h <;> first | (cases h; done) | simp_all
   | ok mk =>
     obtain ⟨m', k⟩ := mk
     rw [hst] at h
     obtain ⟨hn1, hn2, hn3⟩ := strS_take _ _ _ _ hst
     simp only at h
     split at h
     · cases h
     rename_i h200
     injection h with h; injection h with h1 h; injection h with h2 h; injection h with h3 h4
     subst h1; subst h2; subst h3; subst h4
     refine ⟨by omega, by rw [List.length_cons]; omega, ⟨c, l, rfl, fun hw => by (subst hc; rcases hw with hw | hw | hw <;> cases hw), fun e => by (subst hc; cases e)⟩, fun w m hw => ?_⟩
     have e1 : (c :: l).take (k + 2) ++ w :: m = c :: (l.take k ++ 34 :: w :: m) := by
      have : l.take (k + 1) = l.take k ++ [34] := by rw [List.take_add, hn2]; rfl
      rw [List.take_succ_cons, this]; simp
     rw [e1]
     simp only [oneS, if_neg hL, if_neg hD, if_neg h39, if_pos h34]
     rw [hn3 _ _ (by rw [List.length_append, List.length_take]; omega)]
     simp only [if_neg h200]
 · simp only [oneS, if_neg hL, if_neg hD, if_neg h39, if_neg h34] at h
   have hw : ¬isW c := fun hw => by
    have e1 : marks.contains ((c :: l).take 2) = false := by
     cases l with
     | nil => rcases hw with rfl | rfl | rfl <;> rfl
     | cons d l => rcases hw with rfl | rfl | rfl <;> simp [marks]
    have e2 : marks.contains ((c :: l).take 1) = false := by rcases hw with rfl | rfl | rfl <;> rfl
    rw [if_neg (by rw [e1]; simp), if_neg (by rw [e2]; simp)] at h
    cases h
   by_cases m2 : marks.contains ((c :: l).take 2) = true
   · rw [if_pos m2] at h
     injection h with h; injection h with h1 h; injection h with h2 h; injection h with h3 h4
     subst h1; subst h2; subst h3; subst h4
     cases l with
     | nil =>
       refine ⟨by simp, by simp, ⟨c, [], rfl, hw, fun _ => rfl⟩, fun w m hw => ?_⟩
       have m1 : marks.contains [c] = true := m2
       have e : oneS (c :: w :: m) = .ok (5, 1, 0, []) := by
        simp only [oneS, if_neg hL, if_neg hD, if_neg h39, if_neg h34, List.take_succ_cons, List.take_zero, mark_w hw, m1]
        rfl
       exact e
     | cons d l =>
       have m2 : marks.contains [c, d] = true := m2
       refine ⟨by simp, by simp, ⟨c, d :: l, rfl, hw, fun e => ?_⟩, fun w m hw => ?_⟩
       · subst e; simp [marks] at m2
       · have e : oneS (c :: d :: w :: m) = .ok (5, 2, 0, []) := by
          simp only [oneS, if_neg hL, if_neg hD, if_neg h39, if_neg h34, List.take_succ_cons, List.take_zero, m2]
          rfl
         exact e
   · rw [if_neg m2] at h
     by_cases m1 : marks.contains ((c :: l).take 1) = true
     · rw [if_pos m1] at h
       injection h with h; injection h with h1 h; injection h with h2 h; injection h with h3 h4
       subst h1; subst h2; subst h3; subst h4
       refine ⟨Nat.le_refl _, by simp, ⟨c, l, rfl, hw, fun _ => rfl⟩, fun w m hw => ?_⟩
       have m1 : marks.contains [c] = true := m1
       have e : oneS (c :: w :: m) = .ok (5, 1, 0, []) := by
        simp only [oneS, if_neg hL, if_neg hD, if_neg h39, if_neg h34, List.take_succ_cons, List.take_zero, mark_w hw, m1]
        rfl
       exact e
     · rw [if_neg m1] at h; cases h
def gap : Nat → Bytes
 | 0 => [32]
 | 1 => [10]
 | 2 => [9, 32]
 | 3 => [32, 47, 47, 32, 120, 10]
 | _ => [32, 32]
theorem gap_skip (n : Nat) (x : Bytes) : skipN false (gap n ++ x) = (gap n).length + skipN false x := by
 unfold gap
 split <;> simp [skipN] <;> omega
theorem gap_w (n : Nat) (x : Bytes) : ∃ w m, gap n ++ x = w :: m ∧ isW w := by
 unfold gap
 split
 · exact ⟨_, _, rfl, .inl rfl⟩
 · exact ⟨_, _, rfl, .inr (.inl rfl)⟩
 · exact ⟨_, _, rfl, .inr (.inr rfl)⟩
 · exact ⟨_, _, rfl, .inl rfl⟩
 · exact ⟨_, _, rfl, .inl rfl⟩
theorem gap_len (n : Nat) : (gap n).length ≤ 6 := by unfold gap; split <;> simp
def spd (β : Nat → Nat) : Nat → List Tok → Bytes
 | _, [] => []
 | i, t :: l => gap (β i) ++ t.text ++ spd β (i + 1) l
theorem scanL_ne : ∀ {f k : Nat} {l : Bytes} {o : Nat} {ts : List Tok}, scanL f k l o = .ok ts → ∃ t us, ts = t :: us
 | 0, k, l, o, ts, h => by cases h
 | f + 1, k, l, o, ts, h => by
   simp only [scanL] at h
   repeat' split at h
   all_goals first | (cases h; done) | (cases h; exact ⟨_, _, rfl⟩)
theorem skip_tok {c w : UInt8} {l m : Bytes} {len : Nat} (hc : ¬isW c) (h47 : c = 47 → len = 1) (h1 : 1 ≤ len) (hw : isW w) : skipN false ((c :: l).take len ++ w :: m) = 0 := by
 obtain ⟨q, rfl⟩ : ∃ q, len = q + 1 := ⟨len - 1, by omega⟩
 have hb : (c == 10 || c == 32 || c == 9) = false := by
  rw [Bool.eq_false_iff]
  intro e
  simp only [Bool.or_eq_true, beq_iff_eq] at e
  rcases e with (e | e) | e
  · exact hc (.inr (.inl e))
  · exact hc (.inl e)
  · exact hc (.inr (.inr e))
 rw [List.take_succ_cons, List.cons_append]
 cases hy : l.take q ++ w :: m with
 | nil => simp at hy
 | cons d y =>
   simp only [skipN, hb]
   by_cases e : c = 47
   · have : q = 0 := by have := h47 e; omega
     subst this
     simp at hy
     have hd : (d == 47) = false := by rw [← hy.1]; rcases hw with rfl | rfl | rfl <;> rfl
     simp [hd]
   · simp [e]
theorem scan_sp (β : Nat → Nat) : ∀ (f k : Nat) (l : Bytes) (o : Nat) (ts : List Tok), scanL f k l o = .ok ts → ∀ (i f' o' : Nat), (spd β i ts).length < f' → ∃ us, scanL f' k (spd β i ts) o' = .ok us ∧ ts.map zT = us.map zT
 | 0, k, l, o, ts, h => by cases h
 | f + 1, k, l, o, ts, h => by
   intro i f' o' hf'
   obtain ⟨g, rfl⟩ : ∃ g, f' = g + 1 := ⟨f' - 1, by omega⟩
   simp only [scanL] at h
   split at h
   · injection h with h; subst h
     have e1 : spd β i [⟨0, [], 0, [], o + skipN false l⟩] = gap (β i) ++ [] := by simp [spd]
     rw [e1]
     have e2 := gap_skip (β i) []
     have e3 : (gap (β i) ++ []).drop (skipN false (gap (β i) ++ [])) = [] := List.drop_eq_nil_of_le (by rw [e2]; simp)
     simp only [scanL, e3]
     exact ⟨_, rfl, rfl⟩
   · rename_i c0 l0 hr
     split at h
     · cases h
     rename_i hk
     cases h1 : oneS (l.drop (skipN false l)) with
     | error e => rw [h1] at h; cases h
     | ok x =>
       obtain ⟨kd, len, v, b⟩ := x
       rw [h1] at h
       simp only at h
       cases h2 : scanL f (k + 1) ((l.drop (skipN false l)).drop len) (o + skipN false l + len) with
       | error e => rw [h2] at h; cases h
       | ok ts' =>
         rw [h2] at h
         injection h with h; subst h
         obtain ⟨g1, g2, ⟨c, r, hcr, hcw, hc47⟩, g3⟩ := oneS_take h1
         obtain ⟨t1, us1, rfl⟩ := scanL_ne h2
         have hsp : ∃ w m, spd β (i + 1) (t1 :: us1) = w :: m ∧ isW w := by
          obtain ⟨w, m, e, hw⟩ := gap_w (β (i + 1)) (t1.text ++ spd β (i + 2) us1)
          exact ⟨w, m, by rw [spd, List.append_assoc]; exact e, hw⟩
         obtain ⟨w, m, hwm, hw⟩ := hsp
         have hlen1 : 1 ≤ (gap (β i)).length := by
          obtain ⟨w', m', e, _⟩ := gap_w (β i) []
          rw [List.append_nil] at e; rw [e]; simp
         have e1 : ∀ t : Tok, t.text = (l.drop (skipN false l)).take len → spd β i (t :: t1 :: us1) = gap (β i) ++ ((l.drop (skipN false l)).take len ++ w :: m) := by
          intro t ht
          rw [spd, ht, hwm, List.append_assoc]
         rw [e1 _ rfl] at hf' ⊢
         have hz : skipN false ((l.drop (skipN false l)).take len ++ w :: m) = 0 := by rw [hcr]; exact skip_tok hcw hc47 g1 hw
         have e2 : skipN false (gap (β i) ++ ((l.drop (skipN false l)).take len ++ w :: m)) = (gap (β i)).length := by rw [gap_skip, hz]; rfl
         have e3 : (gap (β i) ++ ((l.drop (skipN false l)).take len ++ w :: m)).drop (gap (β i)).length = (l.drop (skipN false l)).take len ++ w :: m := by
          rw [List.drop_append_of_le_length (Nat.le_refl _), List.drop_length, List.nil_append]
         have e4 : ((l.drop (skipN false l)).take len ++ w :: m).drop len = w :: m := by
          rw [List.drop_append_of_le_length (by rw [List.length_take]; omega), List.drop_eq_nil_of_le (by rw [List.length_take]; omega), List.nil_append]
         have e5 := take_app (m := w :: m) g2
         have g4 := g3 w m hw
         obtain ⟨us, hu1, hu2⟩ := scan_sp β f (k + 1) _ _ _ h2 (i + 1) g (o' + (gap (β i)).length + len) (by
          rw [hwm]
          simp only [List.length_append, List.length_take] at hf'
          omega)
         rw [hwm] at hu1
         generalize hy : (l.drop (skipN false l)).take len ++ w :: m = y at *
         have hye : ∃ a z, y = a :: z := by
          cases y with
          | nil => simp at hy
          | cons a z => exact ⟨a, z, rfl⟩
         refine ⟨⟨kd, y.take len, v, b, o' + (gap (β i)).length⟩ :: us, ?_, ?_⟩
         · simp only [scanL, e2, e3]
           obtain ⟨a, z, rfl⟩ := hye
           simp only [if_neg hk, g4, e4, hu1]
         · have e6 := hu2.symm
           generalize t1 :: us1 = tt at *
           rw [List.map_cons, List.map_cons, e6, e5]; rfl
theorem spd_len (β : Nat → Nat) : ∀ (f k : Nat) (l : Bytes) (o : Nat) (ts : List Tok), scanL f k l o = .ok ts → ∀ (i : Nat), (spd β i ts).length ≤ 7 * l.length + 6
 | 0, k, l, o, ts, h => by cases h
 | f + 1, k, l, o, ts, h => by
   intro i
   simp only [scanL] at h
   have hg := gap_len (β i)
   split at h
   · injection h with h; subst h
     simp only [spd, List.length_append, List.length_nil]
     omega
   · split at h
     · cases h
     cases h1 : oneS (l.drop (skipN false l)) with
     | error e => rw [h1] at h; cases h
     | ok x =>
       obtain ⟨kd, len, v, b⟩ := x
       rw [h1] at h
       simp only at h
       cases h2 : scanL f (k + 1) ((l.drop (skipN false l)).drop len) (o + skipN false l + len) with
       | error e => rw [h2] at h; cases h
       | ok ts' =>
         rw [h2] at h
         injection h with h; subst h
         obtain ⟨g1, g2, _, _⟩ := oneS_take h1
         have ih := spd_len β f (k + 1) _ _ _ h2 (i + 1)
         simp only [spd, List.length_append, List.length_take, List.length_drop] at ih g2 ⊢
         omega
theorem blanks_z (β : Nat → Nat) {s : Bytes} {ts : List Tok} (hl : s.length ≤ 1500) (h : scanS s = .ok ts) : zX (parseS s) = zX (parseS (spd β 0 ts)) ∧ (spd β 0 ts).length ≤ 16384 := by
 have h0 := h
 unfold scanS at h
 rw [if_neg (by omega)] at h
 have hlen := spd_len β _ _ _ _ _ h 0
 obtain ⟨us, h1, h2⟩ := scan_sp β _ _ _ _ _ h 0 ((spd β 0 ts).length + 1) 0 (Nat.lt_succ_self _)
 refine ⟨parse_z h0 (us := us) ?_ h2, by omega⟩
 rw [scanS, if_neg (by omega)]
 exact h1
end Go.Sx
namespace Go.Proofs.D
open Go Go.Den Go.Sx
set_option maxRecDepth 100000
attribute [local irreducible] IntKind.wrap Tri parseS
def BAt (h : PHeap) (a : OA) (β : List Nat) : Prop := β = [] ∨ ∃ b o, a = some ⟨b, o, none⟩ ∧ ∀ (i x : Nat), β[i]? = some x → h.cell b (o + i) = some (vU x)
theorem BAt.ext {h h' : PHeap} {a : OA} {β : List Nat} (x : Ext h h') (hb : BAt h a β) : BAt h' a β := by
 rcases hb with hb | ⟨b, o, ha, hc⟩
 · exact .inl hb
 · exact .inr ⟨b, o, ha, fun i y hy => by
    have := hc i y hy
    exact row_ext (l := [vU y]) (fun ob => x b ob) this⟩
def gapβ (β : List Nat) (i : Nat) : Nat := (β.getD i 0) % 5
theorem gap_cell {h : PHeap} {b : Nat} (hb : h b = some (.cells ⟨[vS [32], vS [10], vS [9, 32], vS [32, 47, 47, 32, 120, 10], vS [32, 32]]⟩ 9)) {r : Nat} (hr : r < 5) : h.cell b (0 + r * 1) = some (vS (gap r)) := by
 rw [cell_of hb]
 match r, hr with
 | 0, _ => rfl
 | 1, _ => rfl
 | 2, _ => rfl
 | 3, _ => rfl
 | 4, _ => rfl
theorem spd_drop (β : Nat → Nat) {ts : List Tok} {j : Nat} (hj : j < ts.length) : spd β j (ts.drop j) = gap (β j) ++ ts[j].text ++ spd β (j + 1) (ts.drop (j + 1)) := by
 rw [List.drop_eq_getElem_cons hj]; rfl
theorem tmod5 (x : Nat) : Int.tmod ((x : Nat) : Int) 5 = ((x % 5 : Nat) : Int) := by rw [Int.tmod_eq_emod_of_nonneg (by omega)]; rfl
theorem empty_at {α : Type} {k : Nat} {rel : PHeap → α → List Value → Prop} {h : PHeap} {a : OA} : At k rel h a [] := .inl rfl
theorem blanks_tri {h : PHeap} (ht : L.EscTab h) (s : Bytes) {a : OA} {β : List Nat} {c : Nat} (hβ : BAt h a β) (h256 : ∀ x ∈ β, x < 256) : Tri Tryz.prog 10 [vS s, vL a β.length c] h fun v h' => v = vB true ∧ Ext h h' := by
 refine T10 ?_
 unfold R10
 refine Tri.mono (short_tri s h) ?_
 rintro _ h ⟨rfl, rfl⟩
 refine ⟨_, rfl, ?_⟩
 have hl15 : (s.take 1500).length ≤ 1500 := by rw [List.length_take]; omega
 generalize s.take 1500 = s at *
 refine Tri.mono (scan_r s h) ?_
 rintro v1 h1 ⟨hx1, hv1⟩
 cases hsc : scanS s with
 | error e =>
   rw [hsc] at hv1
   have hv1 : v1 = _ := hv1
   refine ⟨_, _, _, _, _, hv1, ?_⟩
   refine Tri.mono (known_ok h1 (ht.ext hx1)) ?_
   rintro _ h3 ⟨rfl, hx3⟩
   have he := (scanS_ok s).1 e hsc
   refine ⟨_, rfl, br_neg rfl (br_pos (by have : (e.1 : Int) ≠ 0 := by omega
                                          simpa using this) ?_)⟩
   refine Tri.mono (known_ok h3 (ht.ext (hx1.trans hx3))) ?_
   rintro _ h4 ⟨rfl, hx4⟩
   exact ⟨_, rfl, rfl, (hx1.trans hx3).trans hx4⟩
 | ok ts =>
   rw [hsc] at hv1
   obtain ⟨tb, tc, rfl, _, hT⟩ := hv1
   have hT := hT.whole RT_mono (Ext.refl _)
   refine ⟨_, _, _, _, _, rfl, ?_⟩
   refine Tri.mono (known_ok h1 (ht.ext hx1)) ?_
   rintro _ h3 ⟨rfl, hx3⟩
   refine ⟨_, rfl, br_neg rfl (br_neg rfl ?_)⟩
   have hx03 := hx1.trans hx3
   have hlts := ((scanS_ok s).2 ts hsc).2.1
   have hlen0 : (spd (gapβ β) 0 ts).length ≤ 7 * s.length + 6 := by
    have hsc' := hsc
    unfold scanS at hsc'
    rw [if_neg (by omega)] at hsc'
    exact spd_len _ _ _ _ _ _ hsc' 0
   refine ⟨fun m l i h' => ∃ j : Nat, i = j ∧ j + m = ts.length ∧ Ext h3 h' ∧ l ++ spd (gapβ β) j (ts.drop j) = spd (gapβ β) 0 ts, ⟨ts.length, 0, rfl, by omega, Ext.refl _, rfl⟩, ?_⟩
   rintro m l _ h6 ⟨j, rfl, hjm, hx6, hl⟩
   refine br_split (fun e => ?_) (fun e => ?_)
   · have hj : j < ts.length := by have := of_decide_eq_true e; omega
     obtain ⟨b, o, cs, ha, hr, hrel⟩ := hT.get hj
     have hr := row_ext (fun ob => (hx3.trans hx6) b ob) hr
     have hle := congrArg List.length hl
     rw [spd_drop _ hj] at hl hle
     simp only [List.length_append] at hle
     generalize ts[j] = y at *
     have hrel : cs = _ := hrel
     subst hrel
     have step : ∀ (r : Nat), r = gapβ β j → r < 5 → ∃ (b2 o2 : Nat), (ad tb 0) = some ⟨b2, o2, none⟩ ∧ (0 ≤ ((j : Nat) : Int) ∧ ((j : Nat) : Int) < ts.length) ∧
      ∃ (l4 : Bs), h6.cell b2 ((o2 + (((j : Nat) : Int)).toNat * 5) + 1) = some (vS l4) ∧
      ∀ (b3 : Nat), h6 b3 = none → ∀ (h_7 : PHeap), h_7 = h6.put b3 (.cells ⟨[vS [32], vS [10], vS [9, 32], vS [32, 47, 47, 32, 120, 10], vS [32, 32]]⟩ 9) →
      (h_7.cell b2 ((o2 + (((j : Nat) : Int)).toNat * 5) + 1) = some (vS l4)) ∧
      ∃ (b4 o3 : Nat), (ad b3 0) = some ⟨b4, o3, none⟩ ∧ (0 ≤ ((r : Nat) : Int) ∧ ((r : Nat) : Int) < (5 : Nat)) ∧
      ∃ (l5 : Bs), h_7.cell b4 (o3 + (((r : Nat) : Int)).toNat * 1) = some (vS l5) ∧
      l.length + l5.length ≤ 9223372036854775807 ∧
      (l ++ l5).length + l4.length ≤ 9223372036854775807 ∧
      ∃ (m3 : Nat), m3 < m ∧ (∃ j' : Nat, IntKind.i64.wrap (((j : Nat) : Int) + 1) = j' ∧ j' + m3 = ts.length ∧ Ext h3 h_7 ∧ ((l ++ l5) ++ l4) ++ spd (gapβ β) j' (ts.drop j') = spd (gapβ β) 0 ts) ∧ True := by
      intro r hrj hr5
      refine ⟨b, o, ha, ⟨by omega, by omega⟩, y.text, hr.2.1, fun b3 hb3 h7 hh7 => ?_⟩
      have hx7 := Put.ext hh7 hb3
      refine ⟨(row_ext (fun ob => hx7 b ob) hr).2.1, b3, 0, rfl, ⟨by omega, by omega⟩, gap r, ?_, ?_, ?_, m - 1, by omega, ⟨j + 1, ?_, by omega, hx6.trans hx7, ?_⟩, trivial⟩
      · rw [Int.toNat_natCast]; exact gap_cell (Put.at hh7) hr5
      · rw [hrj]; omega
      · rw [List.length_append, hrj]; omega
      · rw [wrap64 (by omega) (by omega)]; rfl
      · rw [← hl, hrj]; simp
     refine br_split (fun e2 => ?_) (fun e2 => ?_)
     · have hjn : j < β.length := by have := of_decide_eq_true e2; omega
       have hβ6 := (hβ.ext hx03).ext hx6
       rcases hβ6 with hβ6 | ⟨bb, bo, hba, hbc⟩
       · rw [hβ6] at hjn; simp at hjn
       refine ⟨bb, bo, hba, ⟨by omega, by omega⟩, ((β[j] : Nat) : Int), ?_, ?_⟩
       · rw [Int.toNat_natCast, Nat.mul_one]; exact hbc j _ (List.getElem?_eq_getElem hjn)
       · rw [tmod5]
         exact step (β[j] % 5) (by simp [gapβ, List.getD, List.getElem?_eq_getElem hjn]) (Nat.mod_lt _ (by decide))
     · have hjn : β.length ≤ j := by have := of_decide_eq_false e2; omega
       exact step 0 (by simp [gapβ, List.getD, List.getElem?_eq_none hjn]) (by decide)
   · have hj : ts.length ≤ j := by have := of_decide_eq_false e; omega
     rw [List.drop_eq_nil_of_le hj, spd, List.append_nil] at hl
     subst hl
     have hz := (blanks_z (gapβ β) hl15 hsc).1
     have hx06 := hx03.trans hx6
     generalize spd (gapβ β) 0 ts = t at *
     refine Tri.mono (parse_tri s h6 (ht.ext hx06)) ?_
     rintro v7 h7 ⟨hx7, hv7⟩
     have hx07 := hx06.trans hx7
     cases hp : parseS s with
     | error e1 =>
       rw [hp] at hv7 hz
       have hv7 : v7 = _ := hv7
       refine ⟨_, _, _, _, _, _, _, _, _, hv7, ?_⟩
       refine Tri.mono (parse_tri t h7 (ht.ext hx07)) ?_
       rintro v8 h8 ⟨hx8, hv8⟩
       cases hq : parseS t with
       | ok q => rw [hq] at hz; cases hz
       | error e2 =>
         rw [hq] at hv8 hz
         have hv8 : v8 = _ := hv8
         refine ⟨_, _, _, _, _, _, _, _, _, hv8, br_pos ?_ ?_⟩
         · have : e1.1 = e2.1 := by injection hz
           rw [this]; simp
         · refine Tri.mono (same_p (s := s) (t := t) (p := ⟨[], []⟩) (q := ⟨[], []⟩) (fun f hf => by cases hf) (by decide) (fun f hf => by cases hf) (by decide) empty_at empty_at empty_at empty_at) ?_
           rintro _ h9 ⟨rfl, hx9⟩
           exact ⟨_, rfl, by rw [eqP_refl], (hx07.trans hx8).trans hx9⟩
     | ok p =>
       rw [hp] at hv7 hz
       obtain ⟨ga, gc, fa, fc, rfl, hG, hF⟩ := hv7
       refine ⟨_, _, _, _, _, _, _, _, _, rfl, ?_⟩
       refine Tri.mono (parse_tri t h7 (ht.ext hx07)) ?_
       rintro v8 h8 ⟨hx8, hv8⟩
       cases hq : parseS t with
       | error e2 => rw [hq] at hz; cases hz
       | ok q =>
         rw [hq] at hv8 hz
         obtain ⟨ga', gc', fa', fc', rfl, hG', hF'⟩ := hv8
         have hzz : zP p = zP q := by injection hz
         refine ⟨_, _, _, _, _, _, _, _, _, rfl, br_pos rfl ?_⟩
         refine Tri.mono (same_p (parseS_wf hp) (parseS_cnt hp) (parseS_wf hq) (parseS_cnt hq) (hG.whole (RG_mono _) hx8) (hF.whole (RF_mono _ _ _) hx8) (hG'.whole (RG_mono _) (Ext.refl _)) (hF'.whole (RF_mono _ _ _) (Ext.refl _))) ?_
         rintro _ h9 ⟨rfl, hx9⟩
         exact ⟨_, rfl, by rw [(eqP_z p q).2 hzz], (hx07.trans hx8).trans hx9⟩
end Go.Proofs.D
namespace Go.Fr
open Go Go.Den Go.ChangeShapes Go.RowKit
def Kept (w w' : World) : Prop := w'.os = w.os ∧ w'.output = w.output ∧ w.heap.size ≤ w'.heap.size ∧ ∀ k, k < w.heap.size → w'.heap[k]? = w.heap[k]?
theorem calls_of_tri {P : Program} {f : FuncId} {fn : Func} {args : List Value} {Q : Value → Prop} {h : PHeap} (ht : Tri P f args h fun v h' => Q v ∧ ∀ k o, h k = some o → h' k = some o) (hf : P.funcs[f]? = some fn) (hb : fn.body.isSome = true) (hname : (fn.name == "runtime.NumGoroutine") = false) (w : World) (hs : Sub w h) :
 Calls P f args.toArray w fun e w' => ∃ v, e = .returned v ∧ Q v ∧ Kept w w' := by
 have h1 := ht w hs
 unfold CallR at h1
 have hcall : (callFunc f args.toArray).run P w = .ok (.enter f args.toArray) w := by
  unfold callFunc
  have hname' : ¬ fn.name = "runtime.NumGoroutine" := fun e => by rw [e] at hname; simp at hname
  cases hbb : fn.body with
  | none => rw [hbb] at hb; cases hb
  | some c => simp [program, Sem.run, hf, hname', hbb]
 rw [hcall] at h1
 refine Calls.mono h1 fun e w' he => ?_
 cases e with
 | returned v =>
   obtain ⟨h', ⟨hq, hx⟩, hs', hk⟩ := he
   refine ⟨v, rfl, hq, hk.os, hk.output, hk.size, fun k hk' => ?_⟩
   cases hh : h k with
   | none => exact (hk.out k hk' hh).2
   | some o => rw [hs k o hh, hs' k o (hx k o hh)]
 | _ => exact he.elim
def one (w : World) (b : Nat) : PHeap := fun k => if k = b then w.heap[b]? else none
theorem one_cell {w : World} {b i : Nat} {v : Value} (h : w.cell? ⟨b, i, none⟩ = some v) : (one w b).cell b i = some v := by
 unfold World.cell? at h
 unfold PHeap.cell one
 rw [if_pos rfl]
 cases hb : w.heap[b]? with
 | none => simp [hb] at h
 | some o =>
   cases o with
   | cells c t z => simpa [hb] using h
   | _ => simp [hb] at h
theorem Kept.but {w w' : World} (h : Kept w w') (may : MemPlace → Prop) : w.keptBut w' may := by
 obtain ⟨h1, h2, h3, h4⟩ := h
 obtain ⟨_, _, r⟩ := World.keptBut_refl w may
 refine ⟨h1, h2, fun i hi => ?_⟩
 have := r i hi
 rw [h4 i hi]
 exact this
theorem Kept.frozen {w w' : World} (h : Kept w w') (b off : Nat) (hb : b < w.heap.size) : w'.frozen? ⟨b, off, none⟩ = w.frozen? ⟨b, off, none⟩ := by
 simp only [World.frozen?, h.2.2.2 b hb]
section
variable {H : Type} {enc : TypeId × Value → H} {P : Program}
theorem post_kept {f : Func} {s : ChangeSpec} {apart fresh handsOn again : Bool} {W W' : World} {args : Array Value} {v : Value} {ds gs : List (DataW H)} {before pa pv : List MemPlace}
 (hW : DataW.Whole enc P f.params.toList s.vars apart W args.toList ds gs before)
 (hres : ∀ (b : Nat) (sp : Nat → Bool) (hd : Bool), DataW.TrodAll enc P W' b sp hd f.resultTypes.toList (v.resultList f.resultTypes.size) (s.fn H (ds ++ gs)).results [])
 (hargs : ∀ sp : Nat → Bool, (∀ p ∈ before, sp p.block = true) → DataW.TrodAll enc P W' 0 sp true f.params.toList args.toList (s.fn H (ds ++ gs)).args pa)
 (hvars : ∀ sp : Nat → Bool, (∀ p ∈ before, sp p.block = true) → DataW.TrodVars enc P W' sp s.vars (s.fn H (ds ++ gs)).vars pv)
 (hps : before = pa ++ pv) (hk : Kept W W')
 (hok : ∀ (j : Nat) (t : TypeId) (r : Value), f.resultTypes[j]? = some t → (v.resultList f.resultTypes.size)[j]? = some r → Value.okWide P W' .any 0 t r) :
 s.post enc P f apart fresh handsOn again W args v W' := by
 have hlt : ∀ p ∈ before, p.block < W.heap.size := fun p hp => hW.lt p hp
 have hold : ∀ p ∈ before, (fun b => decide (b < W.heap.size)) p.block = true := fun p hp => by simpa using hlt p hp
 refine ⟨ds, gs, before, [], pa, pv, hW, hres _ _ _, hargs _ hold, hvars _ hold, World.keptBut_mono (fun p hp => ⟨hp, ?_⟩) (hk.but _), fun _ => ?_⟩
 · rw [hps, List.mem_append] at hp
   exact Or.inr hp
 · obtain ⟨_, _, _, _, _, hz, hn⟩ := hW
   refine ⟨hok, _, _, ([] ++ pa) ++ pv, ⟨[] ++ pa, pv, trodAll_append (hargs _ (fun _ _ => rfl)) (hres _ _ _), hvars _ (fun _ _ => rfl), rfl, ?_, ?_⟩, ?_⟩
   · intro b off hp
     have hp' : MemPlace.cell b off ∈ before := by rw [hps]; simpa using hp
     rw [hk.frozen b off (hlt _ hp')]
     exact hz b off hp'
   · intro ha
     have := hn ha
     rw [hps] at this
     simpa using this
   · intro p hp _
     rw [hps]
     simpa using hp
end
end Go.Fr
namespace Go.Fr
open Go Go.Den Go.ChangeShapes Go.WideShapes Go.RowKit Go.ChangeAt
section
variable {H : Type} {enc : TypeId × Value → H} {P : Program}
theorem cell_kept {W W' : World} (hk : ∀ k, k < W.heap.size → W'.heap[k]? = W.heap[k]?) {a : Addr} {v : Value} (h : W.cell? a = some v) : W'.cell? a = some v := by
 have hlt : a.block < W.heap.size := by
  cases hb : W.heap[a.block]? with
  | none => unfold World.cell? at h; rw [hb] at h; split at h <;> first | (simp at h; done) | contradiction
  | some o => exact (Array.getElem?_eq_some_iff.1 hb).1
 unfold World.cell? at h ⊢
 rw [hk _ hlt]
 exact h
theorem open_u8s {W : World} {base : Nat} {t e : TypeId} {v : Value} {d : DataW H} {p : List MemPlace} (ht : P.underlying t = some (.slice e)) (he : P.underlying e = some (.int .u8)) (hc : P.cellsOf e = 1)
 (hval : Value.okWide P W .any base t v) (h : DataW.Trod enc P W 0 (fun _ => true) true t v d p) :
 ∃ (a : Option Addr) (c : Nat) (l : List Nat), v = .slice a l.length c ∧ (∀ x ∈ l, x < 256) ∧ (l = [] ∨ ∃ b o, a = some ⟨b, o, none⟩ ∧ ∀ (i x : Nat), l[i]? = some x → W.cell? ⟨b, o + i, none⟩ = some (.int .u8 x)) ∧
   ∀ (W' : World) (sp : Nat → Bool), (∀ k, k < W.heap.size → W'.heap[k]? = W.heap[k]?) → (∀ q ∈ p, sp q.block = true) → DataW.Trod enc P W' 0 sp true t v d p := by
 obtain ⟨a0, n0, c0, rfl⟩ := okWide_slice ht hval
 obtain ⟨fuel, hf⟩ := h
 rcases open_ints ht he hc hf with ⟨hcs, hx⟩ | ⟨a, len, cap, zs, hcs, hba, hl, hm, hz, hx, hcell, hwz⟩
 · simp [Value.cells] at hcs
   obtain ⟨rfl, rfl, rfl⟩ := hcs
   simp only [Prod.mk.injEq] at hx
   obtain ⟨rfl, rfl⟩ := hx
   exact ⟨none, 0, [], rfl, fun x hx => (by cases hx), .inl rfl, fun W' sp _ _ => shut_slice_nil ht⟩
 · simp [Value.cells] at hcs
   obtain ⟨rfl, rfl, rfl⟩ := hcs
   simp only [Prod.mk.injEq] at hx
   obtain ⟨rfl, rfl⟩ := hx
   simp only [if_true] at hz
   have hwf : ∀ n ∈ zs, 0 ≤ n ∧ n ≤ 255 := fun n hn => by simpa [Lit.wf, IntKind.min, IntKind.max, IntKind.signed, IntKind.bits] using hwz n hn
   have hlen : ((zs.take n0).map Int.toNat).length = n0 := by simp; omega
   refine ⟨some a, c0, (zs.take n0).map Int.toNat, by rw [hlen], fun x hx => ?_, ?_, fun W' sp hk hsp => ?_⟩
   · obtain ⟨n, hn, rfl⟩ := List.mem_map.1 hx
     have := hwf n (List.mem_of_mem_take hn)
     omega
   · by_cases h0 : n0 = 0
     · left; subst h0; simp
     right
     obtain ⟨ab, ao, spot⟩ := a
     have hspot : spot = none := by simpa [Addr.add] using World.cell?_spot (hcell 0 (by omega))
     subst hspot
     refine ⟨ab, ao, rfl, fun i x hx => ?_⟩
     have hi : i < n0 := by rw [← hlen]; exact (List.getElem?_eq_some_iff.1 hx).1
     have hci := hcell i (by omega)
     rw [Addr.add_lit] at hci
     rw [hci]
     have e1 : zs.getD i 0 = zs[i]'(by omega) := by simp [List.getD, List.getElem?_eq_getElem (show i < zs.length by omega)]
     have e2 : x = (zs[i]'(by omega)).toNat := by
      rw [List.getElem?_map, List.getElem?_take, if_pos hi, List.getElem?_eq_getElem (show i < zs.length by omega)] at hx
      simpa using hx.symm
     have := hwf (zs[i]'(by omega)) (List.getElem_mem _)
     rw [e1, e2]
     congr 2
     omega
   · refine ⟨2, ?_⟩
     have := shut_ints (enc := enc) (P := P) (w := W') (base := 0) (spare := sp) (held := true) 0 ht he hc (a := a) (len := n0) (cap := c0) (zs := zs) (Nat.zero_le _) hl hm (by
      by_cases h0 : c0 = 0
      · split <;> omega
      · have : sp a.block = true := hsp (.cell a.block (a.off + 0)) (by simp only [MemPlace.row, List.mem_map, List.mem_range]; exact ⟨0, by omega, rfl⟩)
        rw [if_pos this]; exact hz) (fun i hi => cell_kept hk (hcell i hi)) hwz
     exact this
end
def two (w : World) (b c : Nat) : PHeap := fun k => if k = b ∨ k = c then w.heap[k]? else none
theorem two_sub (w : World) (b c : Nat) : Sub w (two w b c) := fun k o hk => by
 unfold two at hk; split at hk
 · exact hk
 · cases hk
theorem two_one (w : World) (b c : Nat) : ∀ k o, one w b k = some o → two w b c k = some o := fun k o hk => by
 unfold one at hk; unfold two
 split at hk
 · rename_i e; subst e; rw [if_pos (.inl rfl)]; exact hk
 · cases hk
theorem two_cell {w : World} {b c i : Nat} {v : Value} (h : w.cell? ⟨c, i, none⟩ = some v) : (two w b c).cell c i = some v := by
 have := one_cell h
 unfold PHeap.cell at this ⊢
 have e : two w b c c = one w c c := by unfold two one; rw [if_pos (.inr rfl), if_pos rfl]
 rw [e]; exact this
end Go.Fr
