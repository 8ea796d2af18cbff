/- Proved here: for every text, the law SyntaxPrints of package replevinlaw22 returns true and leaves its arguments as they were (the given card SyntaxPrintsCardSaid). Conditions: those that the given card itself bears (package-level tables as the initialisers lay them); none beyond. -/
import Derived.Test.YtifjnoabmbckpaaGreatDoorPri9
import Derived.Test.YtifjnoabmbckpaaGreatDoorCards
import Derived.Test.YtifjnoabmbckpaaGreatDoorTie
import Derived.ChangeMaps5
import Derived.Lib.LaidTab
import Derived.Stop.LaidErr
import Derived.MakeChecks
namespace Go.Proofs.YtifjnoabmbckpaaGreatDoor.prints
open Go Go.Den Go.ChangeShapes Go.WideShapes Go.ChangeAt Go.RowKit Go.ChangeMaps Go.Fr
set_option maxRecDepth 100000
theorem own:ownKnob Tryz.prog.godebug=none:=by kernel_rfl
/-- The table of escapes, out of the row's condition. -/
def escZ:List Int:=(List.range 128).map fun i=>((Go.Proofs.L.escN i:Nat):Int)
theorem esc_of_laid {W:World} (hL:laidMetH Tryz.prog Rows.syntaxPrintsRow.laid W):Go.Proofs.L.EscTab (one W 2):=by
  have h1:laidMet Tryz.prog Rows.syntaxPrintsRow.laid W:=by rw [←MakeChecks.laidMetH_plain _ _ _ (by kernel_rfl)];exact hL
  have h2:laidMet Tryz.prog [("replevin/lexer.escapes",Lib.tabData .u8 escZ)] W:=h1.tail.tail.tail
  have hT:=Lib.tabIs_of_head (g:=2) (t:=265) (e:=5) (n:=128) (by kernel_rfl) (by kernel_rfl) (by kernel_rfl) (by kernel_rfl) (by kernel_rfl) (by kernel_rfl) h2
  intro i hi
  refine one_cell ?_
  have:=hT.cell (g:=2) (by kernel_rfl) i (by simpa [escZ] using hi)
  rw [this]
  simp [escZ,hi]
/-- The table of powers of ten, out of the row's condition. -/
theorem pow_of_laid {W:World} (hL:laidMetH Tryz.prog Rows.syntaxPrintsRow.laid W):Go.Proofs.D.PowTab (all W):=by
  have h1:laidMet Tryz.prog Rows.syntaxPrintsRow.laid W:=by rw [←MakeChecks.laidMetH_plain _ _ _ (by kernel_rfl)];exact hL
  have h2:laidMet Tryz.prog [("internal/strconv.uint64pow10",Rows.laid_internal_strconv_uint64pow10),("replevin/lexer.escapes",Rows.laid_replevin_lexer_escapes)] W:=h1.tail.tail
  rw [show (Rows.laid_internal_strconv_uint64pow10:DataW Unit)=Lib.tabData .u64 Lib.pow10Tab by kernel_rfl] at h2
  exact pow_all (Lib.tabIs_of_head (g:=0) (t:=262) (e:=242) (n:=20) (by kernel_rfl) (by kernel_rfl) (by kernel_rfl) (by kernel_rfl) (by kernel_rfl) (by kernel_rfl) h2)
theorem contract (H:Type) (enc:TypeId×Value->H) (W:World) (base:Nat) (args:Array Value) (ds gs:List (DataW H)) (before:List MemPlace)
    (hval:∀ (j:Nat) t v,Tryz.f12.params[j]? =some t->args[j]? =some v->Value.okWide Tryz.prog W .any base t v)
    (hW:DataW.Whole enc Tryz.prog Tryz.f12.params.toList Rows.syntaxPrintsSpec.vars false W args.toList ds gs before) (hL:laidMetH Tryz.prog Rows.syntaxPrintsRow.laid W):
    Calls Tryz.prog 12 args W fun e W'=>∃ v,e= .returned v/\Rows.syntaxPrintsSpec.post enc Tryz.prog Tryz.f12 false true false false W args v W':=by
  have hW':=hW
  obtain ⟨p,q,hA0,hV,rfl,hfz,hnd⟩:=hW
  have hA:DataW.TrodAll enc Tryz.prog W 0 (fun _=>true) true Tryz.f12.params.toList args.toList ds p:=hA0
  rw [Tryz.params12] at hA hval
  obtain ⟨v0,vs0,d0,ds0,p0,q0,hargs,rfl,rfl,h0,r0⟩:=trodAll_cons hA
  obtain ⟨rfl,rfl,rfl⟩:=trodAll_nil r0
  obtain rfl:args=#[v0]:=by cases args;simp_all
  obtain ⟨rfl,rfl⟩:=trodVars_none hV
  obtain ⟨s0,rfl,rfl,rfl,hw0⟩:=open_string Tryz.underlying9 (hval 0 9 v0 rfl rfl) h0
  clear hA0
  simp only [List.append_nil,List.nil_append] at hW'
  have hE:Go.Proofs.L.EscTab (all W):=(esc_of_laid hL).ext (all_one W 2)
  have walk:=calls_of_tri (D.prints_tri hE (pow_of_laid hL) s0.data.toList) Tryz.func12 (by kernel_rfl) (by kernel_rfl) W (all_sub W)
  have e0:vS s0.data.toList= .string s0:=rfl
  rw [e0] at walk
  refine walk.mono fun e W' ⟨v,he,hv,hk⟩=>?_
  subst he;subst hv
  exact ⟨_,rfl,post_kept (pa:=[]) (pv:=[]) hW' (fun _ _ _=>trodAll_cons_mk (shut_bool Tryz.underlying4 _) trodAll_mk0) (fun _ _=>trodAll_cons_mk (shut_string Tryz.underlying9 hw0) trodAll_mk0) (fun _ _=>rfl) rfl
    hk (ok_one (by kernel_rfl) rfl (okWide_bool_mk Tryz.underlying4 _))⟩
/-- A cell of a table. -/
def litV:DataW Unit->Value
  | .lit (.int k n)=> .int k n
  | _=>undef
def cellsOf:DataW Unit->Array Value
  | .agg l=>(l.map litV).toArray
  | _=>#[]
def lay (d:DataW Unit):Obj->Obj
  | .cells _ t frozen=> .cells (cellsOf d) t frozen
  | o=>o
/-- A world for the witness: the settled one, with the tables that the initialisers lay. -/
noncomputable def laidWorld (os:Os):World:=
  { World.holding Tryz.prog os ⟨#[],#[],[]⟩ with heap:=((((World.holding Tryz.prog os ⟨#[],#[],[]⟩).heap.modify 0 (lay Rows.laid_internal_strconv_uint64pow10)).modify 2 (lay Rows.laid_replevin_lexer_escapes)).modify 3 (lay Rows.laid_math_bits_deBruijn32tab)).modify 4 (lay Rows.laid_math_bits_deBruijn64tab) }
theorem laid_met (os:Os):laidMet Tryz.prog Rows.syntaxPrintsRow.laid ((laidWorld os).forCall (fun _ _=>0) ⟨#[],#[.string ⟨#[]⟩],[]⟩).memory:=
  laidMet_of_run' 8 (by kernel_rfl) (by kernel_rfl)
theorem reads (os:Os) {H:Type} (enc:TypeId×Value->H):∃ places,DataW.whole enc Tryz.prog ((laidWorld os).forCall (fun _ _=>0) ⟨#[],#[.string ⟨#[]⟩],[]⟩).memory Tryz.f12.params.toList Rows.syntaxPrintsSpec.vars false #[Value.string ⟨#[]⟩].toList 8=some ([.lit (.string [])],[],places):=
  ⟨[],by kernel_rfl⟩
theorem lifted (os:Os) (started:os.Started) (H:Type) (enc:TypeId×Value->H) (F:Stop.Interp):
    ReturnsInHanded {} Tryz.checked os 12 .any ((OpenSpec.ofChange Rows.syntaxPrintsSpec).preRow enc Tryz.prog Tryz.f12 Rows.syntaxPrintsRow.domain false Rows.syntaxPrintsRow.laid) (((OpenSpec.ofChange Rows.syntaxPrintsSpec).at F).post enc Tryz.prog Tryz.f12 false true false false):=by
  obtain ⟨places,hx⟩:=reads os enc
  refine returnsInHanded_of_row (C:=Tryz.checked) (s:=OpenSpec.ofChange Rows.syntaxPrintsSpec) own started (by kernel_rfl) Tryz.func12
    (witness_row_at (enc:=enc) (C:=Tryz.checked) false (laidWorld os) #[.string ⟨#[]⟩] rfl (by kernel_rfl) (by kernel_rfl) (by kernel_rfl)
      (OpenSpec.preRow_of_cond 8 hx (by kernel_rfl) (fun k hk=>by cases hk) (by kernel_rfl) (laid_met os))) ?_
  intro W base args ds gs before hval hW _ _ _ hL _ _
  exact contract H enc W base args ds gs before hval hW hL
theorem said:Rows.SyntaxPrintsSaid:=
  OpenClaim.holds_of_cond 12 Tryz.f12 rfl rfl rfl rfl rfl rfl rfl ⟨rfl,rfl,rfl,rfl,rfl⟩ rfl rfl rfl rfl rfl (by kernel_rfl) Tryz.func12 (by kernel_rfl)
    (of_decide_eq_true (by kernel_rfl)) (by unfold Func.isWrapper;first | (rw [if_pos (by decide+kernel)];kernel_rfl) | (rw [if_neg (by decide+kernel)];exact ⟨rfl,rfl⟩))
    (fun os started H enc _ F=>by rw [OpenClaim.pre_eq_preRow];exact lifted os started H enc F)
theorem plain (f:FuncId) (fn:Func) (hf:Tryz.pinned.checked.prog.funcNamed "replevin/replevinlaw22.SyntaxPrints"=some f) (hfn:Tryz.pinned.checked.prog.funcs[f]? =some fn):
    false=Tryz.pinned.checked.prog.looks []/\∀ (j:Nat) t,fn.params[j]? =some t->Tryz.pinned.checked.prog.wantsStandIn t=false:=by
  obtain rfl:f=12:=Option.some.inj ((show Tryz.prog.funcNamed "replevin/replevinlaw22.SyntaxPrints"=some 12 by kernel_rfl).symm.trans hf) |>.symm
  obtain rfl:fn=Tryz.f12:=(Option.some.inj (Tryz.func12.symm.trans hfn)).symm
  refine ⟨by kernel_rfl,fun j t ht=>?_⟩
  rw [Tryz.params12] at ht
  obtain rfl:t=9:=by simpa using Array.mem_of_getElem? ht
  exact (show Tryz.prog.wantsStandIn 9=false by kernel_rfl)
/-- The card. -/
theorem card:Rows.SyntaxPrintsCardSaid:=
  Claim7.holds_tied_plain_at .later [] _ _ _ _ said (fun _ h=>by cases h) (by kernel_rfl) (fun _ h=>by cases h) syntaxPrints_row_tie rfl ⟨rfl,rfl⟩ (by kernel_rfl) rfl plain (by kernel_rfl)
end Go.Proofs.YtifjnoabmbckpaaGreatDoor.prints
