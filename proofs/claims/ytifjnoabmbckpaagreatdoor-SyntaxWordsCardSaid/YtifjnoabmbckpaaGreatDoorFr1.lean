import Derived.Test.YtifjnoabmbckpaaGreatDoorEv12
import Derived.WalkKit
import Derived.ProofKit
import Derived.OpenShut
import Derived.Deep.DeepHandedRow
/- From a triple over no memory to what a row asks. -/
namespace Go.Fr
open Go Go.Den Go.ChangeShapes Go.RowKit

/-- Of what was there nothing turns. -/
def Kept (w w' : World) : Prop := w'.os = w.os ∧ w'.output = w.output ∧ w.heap.size ≤ w'.heap.size ∧ ∀ k, k < w.heap.size → w'.heap[k]? = w.heap[k]?

theorem calls_of_tri {P : Program} {f : FuncId} {fn : Func} {args : List Value} {Q : Value → Prop} (ht : Tri P f args (fun _ => none) fun v _ => Q v) (hf : P.funcs[f]? = some fn) (hb : fn.body.isSome = true) (hname : (fn.name == "runtime.NumGoroutine") = false) (w : World) :
    Calls P f args.toArray w fun e w' => ∃ v, e = .returned v ∧ Q v ∧ Kept w w' := by
  have h1 := ht w (fun k o hk => by cases hk)
  unfold CallR at h1
  have hcall : (callFunc f args.toArray).run P w = .ok (.enter f args.toArray) w := by
    unfold callFunc
    have hname' : ¬ fn.name = "runtime.NumGoroutine" := fun e => by rw [e] at hname; simp at hname
    cases hbb : fn.body with
    | none => rw [hbb] at hb; cases hb
    | some c => simp [program, Sem.run, hf, hname', hbb]
  rw [hcall] at h1
  refine Calls.mono h1 fun e w' he => ?_
  cases e with
  | returned v =>
    obtain ⟨h', hq, _, hk⟩ := he
    exact ⟨v, rfl, hq, hk.os, hk.output, hk.size, fun k hk' => (hk.out k hk' rfl).2⟩
  | _ => exact he.elim

theorem Kept.but {w w' : World} (h : Kept w w') (may : MemPlace → Prop) : w.keptBut w' may := by
  obtain ⟨h1, h2, h3, h4⟩ := h
  obtain ⟨_, _, r⟩ := World.keptBut_refl w may
  refine ⟨h1, h2, fun i hi => ?_⟩
  have := r i hi
  rw [h4 i hi]
  exact this

theorem Kept.frozen {w w' : World} (h : Kept w w') (b off : Nat) (hb : b < w.heap.size) : w'.frozen? ⟨b, off, none⟩ = w.frozen? ⟨b, off, none⟩ := by
  simp only [World.frozen?, h.2.2.2 b hb]

section
variable {H : Type} {enc : TypeId × Value → H} {P : Program}

/-- The arguments read as they did; the results have no places. -/
theorem post_kept {f : Func} {s : ChangeSpec} {apart fresh handsOn again : Bool} {W W' : World} {args : Array Value} {v : Value} {ds gs : List (DataW H)} {before pa pv : List MemPlace}
    (hW : DataW.Whole enc P f.params.toList s.vars apart W args.toList ds gs before)
    (hres : ∀ (b : Nat) (sp : Nat → Bool) (hd : Bool), DataW.TrodAll enc P W' b sp hd f.resultTypes.toList (v.resultList f.resultTypes.size) (s.fn H (ds ++ gs)).results [])
    (hargs : ∀ sp : Nat → Bool, (∀ p ∈ before, sp p.block = true) → DataW.TrodAll enc P W' 0 sp true f.params.toList args.toList (s.fn H (ds ++ gs)).args pa)
    (hvars : ∀ sp : Nat → Bool, (∀ p ∈ before, sp p.block = true) → DataW.TrodVars enc P W' sp s.vars (s.fn H (ds ++ gs)).vars pv)
    (hps : before = pa ++ pv) (hk : Kept W W')
    (hok : ∀ (j : Nat) (t : TypeId) (r : Value), f.resultTypes[j]? = some t → (v.resultList f.resultTypes.size)[j]? = some r → Value.okWide P W' .any 0 t r) :
    s.post enc P f apart fresh handsOn again W args v W' := by
  have hlt : ∀ p ∈ before, p.block < W.heap.size := fun p hp => hW.lt p hp
  have hold : ∀ p ∈ before, (fun b => decide (b < W.heap.size)) p.block = true := fun p hp => by simpa using hlt p hp
  refine ⟨ds, gs, before, [], pa, pv, hW, hres _ _ _, hargs _ hold, hvars _ hold, World.keptBut_mono (fun p hp => ⟨hp, ?_⟩) (hk.but _), fun _ => ?_⟩
  · rw [hps, List.mem_append] at hp
    exact Or.inr hp
  · obtain ⟨_, _, _, _, _, hz, hn⟩ := hW
    refine ⟨hok, _, _, ([] ++ pa) ++ pv, ⟨[] ++ pa, pv, trodAll_append (hargs _ (fun _ _ => rfl)) (hres _ _ _), hvars _ (fun _ _ => rfl), rfl, ?_, ?_⟩, ?_⟩
    · intro b off hp
      have hp' : MemPlace.cell b off ∈ before := by rw [hps]; simpa using hp
      rw [hk.frozen b off (hlt _ hp')]
      exact hz b off hp'
    · intro ha
      have := hn ha
      rw [hps] at this
      simpa using this
    · intro p hp _
      rw [hps]
      simpa using hp
end
end Go.Fr
