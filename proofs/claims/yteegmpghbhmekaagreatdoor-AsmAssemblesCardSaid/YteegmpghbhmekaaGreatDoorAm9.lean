import Derived.Test.YteegmpghbhmekaaGreatDoorAm8
import Derived.WalkKit
import Derived.ProofKit
import Derived.OpenShut
import Derived.Deep.DeepHandedRow
import Derived.Test.YteegmpghbhmekaaGreatDoorCards
import Derived.Lib.LaidTab
import Derived.Shelf.Vars
import Derived.Stop.LaidErr
import Derived.MakeChecks
namespace Go.Fr
open Go Go.Den Go.ChangeShapes Go.RowKit
def Kept (w w' : World) : Prop := w'.os = w.os ∧ w'.output = w.output ∧ w.heap.size ≤ w'.heap.size ∧ ∀ k, k < w.heap.size → w'.heap[k]? = w.heap[k]?
theorem calls_of_tri {P : Program} {f : FuncId} {fn : Func} {args : List Value} {Q : Value → Prop} {h : PHeap} (ht : Tri P f args h fun v h' => Q v ∧ ∀ k o, h k = some o → h' k = some o) (hf : P.funcs[f]? = some fn) (hb : fn.body.isSome = true) (hname : (fn.name == "runtime.NumGoroutine") = false) (w : World) (hs : Sub w h) :
 Calls P f args.toArray w fun e w' => ∃ v, e = .returned v ∧ Q v ∧ Kept w w' := by
 have h1 := ht w hs
 unfold CallR at h1
 have hcall : (callFunc f args.toArray).run P w = .ok (.enter f args.toArray) w := by
  unfold callFunc
  have hname' : ¬ fn.name = "runtime.NumGoroutine" := fun e => by rw [e] at hname; simp at hname
  cases hbb : fn.body with
  | none => rw [hbb] at hb; cases hb
  | some c => simp [program, Sem.run, hf, hname', hbb]
 rw [hcall] at h1
 refine Calls.mono h1 fun e w' he => ?_
 cases e with
 | returned v =>
   obtain ⟨h', ⟨hq, hx⟩, hs', hk⟩ := he
   refine ⟨v, rfl, hq, hk.os, hk.output, hk.size, fun k hk' => ?_⟩
   cases hh : h k with
   | none => exact (hk.out k hk' hh).2
   | some o => rw [hs k o hh, hs' k o (hx k o hh)]
 | _ => exact he.elim
def one (w : World) (b : Nat) : PHeap := fun k => if k = b then w.heap[b]? else none
theorem one_cell {w : World} {b i : Nat} {v : Value} (h : w.cell? ⟨b, i, none⟩ = some v) : (one w b).cell b i = some v := by
 unfold World.cell? at h
 unfold PHeap.cell one
 rw [if_pos rfl]
 cases hb : w.heap[b]? with
 | none => simp [hb] at h
 | some o =>
   cases o with
   | cells c t z => simpa [hb] using h
   | _ => simp [hb] at h
theorem Kept.but {w w' : World} (h : Kept w w') (may : MemPlace → Prop) : w.keptBut w' may := by
 obtain ⟨h1, h2, h3, h4⟩ := h
 obtain ⟨_, _, r⟩ := World.keptBut_refl w may
 refine ⟨h1, h2, fun i hi => ?_⟩
 have := r i hi
 rw [h4 i hi]
 exact this
theorem Kept.frozen {w w' : World} (h : Kept w w') (b off : Nat) (hb : b < w.heap.size) : w'.frozen? ⟨b, off, none⟩ = w.frozen? ⟨b, off, none⟩ := by
 simp only [World.frozen?, h.2.2.2 b hb]
section
variable {H : Type} {enc : TypeId × Value → H} {P : Program}
theorem post_kept {f : Func} {s : ChangeSpec} {apart fresh handsOn again : Bool} {W W' : World} {args : Array Value} {v : Value} {ds gs : List (DataW H)} {before pa pv : List MemPlace}
 (hW : DataW.Whole enc P f.params.toList s.vars apart W args.toList ds gs before)
 (hres : ∀ (b : Nat) (sp : Nat → Bool) (hd : Bool), DataW.TrodAll enc P W' b sp hd f.resultTypes.toList (v.resultList f.resultTypes.size) (s.fn H (ds ++ gs)).results [])
 (hargs : ∀ sp : Nat → Bool, (∀ p ∈ before, sp p.block = true) → DataW.TrodAll enc P W' 0 sp true f.params.toList args.toList (s.fn H (ds ++ gs)).args pa)
 (hvars : ∀ sp : Nat → Bool, (∀ p ∈ before, sp p.block = true) → DataW.TrodVars enc P W' sp s.vars (s.fn H (ds ++ gs)).vars pv)
 (hps : before = pa ++ pv) (hk : Kept W W')
 (hok : ∀ (j : Nat) (t : TypeId) (r : Value), f.resultTypes[j]? = some t → (v.resultList f.resultTypes.size)[j]? = some r → Value.okWide P W' .any 0 t r) :
 s.post enc P f apart fresh handsOn again W args v W' := by
 have hlt : ∀ p ∈ before, p.block < W.heap.size := fun p hp => hW.lt p hp
 have hold : ∀ p ∈ before, (fun b => decide (b < W.heap.size)) p.block = true := fun p hp => by simpa using hlt p hp
 refine ⟨ds, gs, before, [], pa, pv, hW, hres _ _ _, hargs _ hold, hvars _ hold, World.keptBut_mono (fun p hp => ⟨hp, ?_⟩) (hk.but _), fun _ => ?_⟩
 · rw [hps, List.mem_append] at hp
   exact Or.inr hp
 · obtain ⟨_, _, _, _, _, hz, hn⟩ := hW
   refine ⟨hok, _, _, ([] ++ pa) ++ pv, ⟨[] ++ pa, pv, trodAll_append (hargs _ (fun _ _ => rfl)) (hres _ _ _), hvars _ (fun _ _ => rfl), rfl, ?_, ?_⟩, ?_⟩
   · intro b off hp
     have hp' : MemPlace.cell b off ∈ before := by rw [hps]; simpa using hp
     rw [hk.frozen b off (hlt _ hp')]
     exact hz b off hp'
   · intro ha
     have := hn ha
     rw [hps] at this
     simpa using this
   · intro p hp _
     rw [hps]
     simpa using hp
end
end Go.Fr
namespace Go.Fr
open Go Go.Den Go.ChangeShapes Go.RowKit Go.As Go.Proofs
set_option maxRecDepth 100000
def all (w : World) : PHeap := fun k => w.heap[k]?
theorem all_sub (w : World) : Sub w (all w) := fun _ _ hk => hk
theorem all_cell {w : World} {b i : Nat} {v : Value} (h : w.cell? ⟨b, i, none⟩ = some v) : (all w).cell b i = some v := by
 have := one_cell h
 unfold PHeap.cell at this ⊢
 have e : all w b = one w b b := by unfold all one; rw [if_pos rfl]
 rw [e]; exact this
def usesL : List Bool := [false, false, false, true, false, false, false, false, false, false, false, false, false, false, false, false, false, false, true, false, true, false, true, true, false, true, false]
def setsL : List Bool := [false, true, true, true, true, true, true, true, true, true, true, true, true, true, true, true, true, true, false, true, false, false, false, false, true, false, false]
def opRow (op : Nat) : DataW Unit := .agg [.lit (.string (wordT op)), .lit (.int .i64 (form op)), .lit (.int .i64 (Go.Proofs.D.lims op).1), .lit (.int .i64 (Go.Proofs.D.lims op).2), .lit (.bool (usesL.getD op false)), .lit (.bool (setsL.getD op false))]
theorem ops_tab : (YteegmpghbhmekaaGreatDoor.Rows.laid_replevin_instr_operations : DataW Unit) = .agg ((List.range 27).map opRow) := by kernel_rfl
section
variable {enc : TypeId × Value → Unit} {w : World} {base : Nat} {sp : Nat → Bool} {held : Bool}
theorem row_six {fuel : Nat} {seg : List Value} {op : Nat} {p : List MemPlace} (h : DataW.trod enc Tryz.prog w base sp held fuel 147 seg = some (opRow op, p)) :
 seg = [vS (wordT op), vI (form op), vI (Go.Proofs.D.lims op).1, vI (Go.Proofs.D.lims op).2, vB (usesL.getD op false), vB (setsL.getD op false)] := by
 cases fuel with
 | zero => simp [DataW.trod] at h
 | succ fuel =>
   have c9 : Tryz.prog.cellsOf 9 = 1 := by kernel_rfl
   have c3 : Tryz.prog.cellsOf 3 = 1 := by kernel_rfl
   have c4 : Tryz.prog.cellsOf 4 = 1 := by kernel_rfl
   have c147 : Tryz.prog.cellsOf 147 = 6 := by kernel_rfl
   simp only [DataW.trod, Tryz.underlying147, c147] at h
   split at h
   · rename_i hl
     obtain ⟨xs, hm, hx⟩ := Option.map_eq_some_iff.1 h
     have hxs := congrArg Prod.fst hx
     simp only [opRow, DataW.agg.injEq] at hxs
     have fld : ∀ (j : Nat) (y : DataW Unit), (xs.map (·.1))[j]? = some y → ∃ b, xs[j]? = some b ∧ b.1 = y := fun j y hy => by
      rw [List.getElem?_map, Option.map_eq_some_iff] at hy
      exact hy
     rw [hxs] at fld
     match seg, hl with
     | [x0, x1, x2, x3, x4, x5], _ =>
       obtain ⟨b0, g0, f0⟩ := Lib.mapM_at hm 0 _ rfl
       obtain ⟨b1, g1, f1⟩ := Lib.mapM_at hm 1 _ rfl
       obtain ⟨b2, g2, f2⟩ := Lib.mapM_at hm 2 _ rfl
       obtain ⟨b3, g3, f3⟩ := Lib.mapM_at hm 3 _ rfl
       obtain ⟨b4, g4, f4⟩ := Lib.mapM_at hm 4 _ rfl
       obtain ⟨b5, g5, f5⟩ := Lib.mapM_at hm 5 _ rfl
       obtain ⟨a0, k0, l0⟩ := fld 0 _ rfl
       obtain ⟨a1, k1, l1⟩ := fld 1 _ rfl
       obtain ⟨a2, k2, l2⟩ := fld 2 _ rfl
       obtain ⟨a3, k3, l3⟩ := fld 3 _ rfl
       obtain ⟨a4, k4, l4⟩ := fld 4 _ rfl
       obtain ⟨a5, k5, l5⟩ := fld 5 _ rfl
       rw [g0] at k0; rw [g1] at k1; rw [g2] at k2; rw [g3] at k3; rw [g4] at k4; rw [g5] at k5
       injection k0 with k0; injection k1 with k1; injection k2 with k2; injection k3 with k3; injection k4 with k4; injection k5 with k5
       subst k0; subst k1; subst k2; subst k3; subst k4; subst k5
       simp only [c9, c3, c4] at f0 f1 f2 f3 f4 f5
       obtain ⟨s, e0, rfl, _⟩ := DataW.trod_string Tryz.underlying9 f0
       obtain ⟨n1, e1, rfl, _⟩ := DataW.trod_int Tryz.underlying3 f1
       obtain ⟨n2, e2, rfl, _⟩ := DataW.trod_int Tryz.underlying3 f2
       obtain ⟨n3, e3, rfl, _⟩ := DataW.trod_int Tryz.underlying3 f3
       obtain ⟨n4, e4, rfl⟩ := DataW.trod_bool Tryz.underlying4 f4
       obtain ⟨n5, e5, rfl⟩ := DataW.trod_bool Tryz.underlying4 f5
       simp only [DataW.lit.injEq, Lit.string.injEq, Lit.int.injEq, Lit.bool.injEq, true_and] at l0 l1 l2 l3 l4 l5
       simp only [List.drop_zero, List.drop_succ_cons, List.take_succ_cons, List.take_zero, List.cons.injEq, and_true] at e0 e1 e2 e3 e4 e5
       subst e0; subst e1; subst e2; subst e3; subst e4; subst e5
       subst l1; subst l2; subst l3; subst l4; subst l5
       have hs : (Value.string s) = vS (wordT op) := by rw [← l0]
       rw [hs]
   · cases h
theorem ops_cells {fuel : Nat} {cs : List Value} {p : List MemPlace} (h : DataW.trod enc Tryz.prog w base sp held fuel 148 cs = some (.agg ((List.range 27).map opRow), p)) : ∀ op, op < 27 → (cs.drop (op * 6)).take 6 = [vS (wordT op), vI (form op), vI (Go.Proofs.D.lims op).1, vI (Go.Proofs.D.lims op).2, vB (usesL.getD op false), vB (setsL.getD op false)] := by
 intro op hop
 cases fuel with
 | zero => simp [DataW.trod] at h
 | succ fuel =>
   have c147 : Tryz.prog.cellsOf 147 = 6 := by kernel_rfl
   simp only [DataW.trod, Tryz.underlying148, c147] at h
   split at h
   · obtain ⟨xs, hm, hx⟩ := Option.map_eq_some_iff.1 h
     have hxs := congrArg Prod.fst hx
     simp only [DataW.agg.injEq] at hxs
     obtain ⟨b, g, f⟩ := Lib.mapM_at hm op op (by simp [hop])
     have hb : (xs.map (·.1))[op]? = some (opRow op) := by rw [hxs]; simp [hop]
     rw [List.getElem?_map, g] at hb
     injection hb with hb
     obtain ⟨d, q⟩ := b
     simp only at hb
     subst hb
     exact row_six f
   · cases h
end
theorem op_all {W : World} {rest : List (String × DataW Unit)} (h : laidMet Tryz.prog (("replevin/instr.operations", YteegmpghbhmekaaGreatDoor.Rows.laid_replevin_instr_operations) :: rest) W) : Go.Proofs.D.OpTab (all W) := by
 rw [ops_tab] at h
 obtain ⟨ps, ⟨g', t', cs, fuel, p, q, hg', ht', hvar, hd, _, _⟩, _⟩ := h
 obtain rfl := Option.some.inj ((show Tryz.prog.globalNamed "replevin/instr.operations" = some 0 by kernel_rfl).symm.trans hg')
 obtain rfl := Option.some.inj ((show (Tryz.prog.globals[0]?).map (·.type) = some 148 by kernel_rfl).symm.trans ht')
 have hc := ops_cells hd
 unfold World.var? at hvar
 rw [hg'] at hvar
 simp only [Option.bind_some] at hvar
 intro op hop
 refine ⟨usesL.getD op false, setsL.getD op false, ?_⟩
 cases hb : W.heap[0]? with
 | none => rw [hb] at hvar; simp at hvar
 | some o =>
   rw [hb] at hvar
   cases o with
   | cells c t z =>
     simp only [Option.some.injEq] at hvar
     have hall : all W 0 = some (.cells ⟨c.toList⟩ t z) := by unfold all; rw [hb]
     refine Go.Proofs.D.row_lit hall fun j v hj => ?_
     have := hc op hop
     rw [← hvar] at this
     have hj6 : j < 6 := by have := (List.getElem?_eq_some_iff.1 hj).1; simpa using this
     have h2 : ((c.toList.drop (op * 6)).take 6)[j]? = some v := by rw [this]; exact hj
     rw [List.getElem?_take, if_pos hj6, List.getElem?_drop] at h2
     exact h2
   | _ => simp at hvar
theorem max_all {W : World} (h : W.ShapedOpen Tryz.prog) : Go.Proofs.D.MaxLen (all W) := by
 obtain ⟨m, hm⟩ := Go.Proofs.cell_of_shapedOpen_int (g := 1) (zero := #[.int .i64 0]) (t := 3) h (of_decide_eq_true (by kernel_rfl)) (by kernel_rfl) rfl (by kernel_rfl) (by kernel_rfl) Tryz.underlying3
 exact ⟨m, all_cell hm⟩
end Go.Fr
