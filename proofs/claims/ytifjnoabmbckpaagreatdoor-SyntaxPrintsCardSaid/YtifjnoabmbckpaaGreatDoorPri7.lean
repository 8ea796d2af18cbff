import Derived.Test.YtifjnoabmbckpaaGreatDoorPri6
import Derived.Shelf.Strings.OnBuilder
import Derived.Shelf.Strconv.Itoa3
import Derived.Lib.AppendIntMem
namespace Go.Sx
def Big {α:Type} (x:Nat->R α) (r:R α):Prop:=∃ F,∀ f,F<=f->x f=r
theorem Big.step {α:Type} {x:Nat->R α} {r:R α} (h:Big (fun f=>x (f+1)) r):Big x r:=by
 obtain ⟨F,h⟩:=h
 refine ⟨F+1,fun f hf=>?_⟩
 obtain ⟨g,rfl⟩:∃ g,f=g+1:=⟨f - 1,by omega⟩
 exact h g (by omega)
theorem Big.const {α:Type} {r:R α}:Big (fun _=>r) r:=⟨0,fun _ _=>rfl⟩
theorem Big.congr {α:Type} {x y:Nat->R α} {r:R α} (h:Big x r) (e:∀ f,y f=x f):Big y r:=by
 obtain ⟨F,h⟩:=h
 exact ⟨F,fun f hf=>(e f).trans (h f hf)⟩
theorem Big.bind {α β:Type} {x:Nat->R α} {G:Nat->α->List Tok->Int->R β} {a:α} {ts:List Tok} {d:Int} {r:R β} (h:Big x (.ok (a,ts,d))) (hG:Big (fun f=>G f a ts d) r):Big (fun f=>bindR (x f) (G f)) r:=by
 obtain ⟨F,h⟩:=h
 obtain ⟨F',h'⟩:=hG
 refine ⟨max F F',fun f hf=>?_⟩
 show bindR (x f) (G f)=r
 rw [h f (by omega)]
 exact h' f (by omega)
theorem Big.err {α β:Type} {x:Nat->R α} {G:Nat->α->List Tok->Int->R β} {e:Nat×Nat} (h:Big x (.error e)):Big (fun f=>bindR (x f) (G f)) (.error e):=by
 obtain ⟨F,h⟩:=h
 refine ⟨F,fun f hf=>?_⟩
 show bindR (x f) (G f)=_
 rw [h f hf];rfl
def encN (b:Bool) (n:Nat):Nat:=if b then n+1 else n
def maxN:List Nat->Nat
 | []=>0
 | n::l=>max n (maxN l)
mutual
def nE:E->Nat
 | .mk k op _ _ _ args _=>
   if k=4 then (nEs args).getD 0 0+1 else if k=5 then maxN (nEs args)+1
   else if k=6 then encN (low (args.getD 0 dE) 11) ((nEs args).getD 0 0)
   else if k=7 then max (encN (low (args.getD 0 dE) (levelS op)) ((nEs args).getD 0 0)) (encN (low (args.getD 1 dE) (levelS op+1)) ((nEs args).getD 1 0))
   else 0
def nEs:List E->List Nat
 | []=>[]
 | e::l=>nE e::nEs l
end
def nL (lv:Nat) (e:E):Nat:=encN (low e lv) (nE e)
theorem n_num (v p:Nat):nE (.mk 1 [] [] v [] [] p)=0:=by simp [nE]
theorem n_str (b:Bytes) (p:Nat):nE (.mk 2 [] [] 0 b [] p)=0:=by simp [nE]
theorem n_var (n:Bytes) (p:Nat):nE (.mk 3 [] n 0 [] [] p)=0:=by simp [nE]
theorem n_elem (n:Bytes) (e:E) (p:Nat):nE (.mk 4 [] n 0 [] [e] p)=nE e+1:=by simp [nE,nEs]
theorem n_call (n:Bytes) (es:List E) (p:Nat):nE (.mk 5 [] n 0 [] es p)=maxN (nEs es)+1:=by simp [nE]
theorem n_un (op:Bytes) (e:E) (p:Nat):nE (.mk 6 op [] 0 [] [e] p)=nL 11 e:=by simp [nE,nEs,nL]
theorem n_bin (op:Bytes) (a b:E) (p:Nat):nE (.mk 7 op [] 0 [] [a,b] p)=max (nL (levelS op) a) (nL (levelS op+1) b):=by simp [nE,nEs,nL]
def Fol (lv:Nat) (r:List Tok):Prop:=isT r [40]=false/\isT r [91]=false/\(isK r 5=true->levelS (hd r).text<=lv)
theorem Fol.up {lv lv':Nat} {r:List Tok} (h:Fol lv r) (hl:lv<=lv'):Fol lv' r:=⟨h.1,h.2.1,fun e=>Nat.le_trans (h.2.2 e) hl⟩
theorem Fol.sym {t:Bytes} {r:List Tok} {lv:Nat} (h1:t≠[40]) (h2:t≠[91]) (h:levelS t<=lv):Fol lv (sym t::r):=by
 refine ⟨?_,?_,fun _=>h⟩
 . simpa [isT,hd,Sx.sym] using h1
 . simpa [isT,hd,Sx.sym] using h2
theorem loop_end {lv:Nat} {e:E} {r:List Tok} {d:Int} (h:Fol lv r):Big (fun f=>pLoop f (lv+1) e r d) (.ok (e,r,d)):=by
 refine Big.step ?_
 refine Big.const.congr fun f=>?_
 rw [pLoop,if_neg]
 intro hc
 simp only [Bool.and_eq_true,beq_iff_eq] at hc
 have:=h.2.2 hc.1
 omega
theorem bin_lower {L:Nat} {X r:List Tok} {d:Int} {e:E} (h:Big (fun f=>pBin f L X d) (.ok (e,r,d))) (hL:L<=11):∀ (k lv:Nat) (res:R E),lv+(k+1)=L->Fol lv r->Big (fun f=>pLoop f lv e r d) res->Big (fun f=>pBin f lv X d) res
 | 0,lv,res,hk,hr,hl=>by
   have h':Big (fun f=>pBin f (lv+1) X d) (.ok (e,r,d)):=by rw [show lv+1=L by omega];exact h
   refine Big.step ?_
   refine (Big.bind (G:=fun f=>pLoop f lv) h' hl).congr fun f=>?_
   rw [pBin,if_neg (by omega)]
 | k+1,lv,res,hk,hr,hl=>by
   have ih:=bin_lower h hL k (lv+1) (.ok (e,r,d)) (by omega) (hr.up (by omega)) (loop_end hr)
   refine Big.step ?_
   refine (Big.bind (G:=fun f=>pLoop f lv) ih hl).congr fun f=>?_
   rw [pBin,if_neg (by omega)]
theorem bin_err {L:Nat} {X:List Tok} {d:Int} {e:Nat×Nat} (h:Big (fun f=>pBin f L X d) (.error e)) (hL:L<=11):∀ (k lv:Nat),lv+k=L->Big (fun f=>pBin f lv X d) (.error e)
 | 0,lv,hk=>by rw [show lv=L by omega];exact h
 | k+1,lv,hk=>by
   have ih:=bin_err h hL k (lv+1) (by omega)
   refine Big.step ?_
   refine (Big.err (G:=fun f=>pLoop f lv) ih).congr fun f=>?_
   rw [pBin,if_neg (by omega)]
structure RB (X:Nat->List Tok) (n:Nat->Nat) (e:E) (c:Nat->Prop):Prop where
 ok:∀ (lv:Nat) (r:List Tok) (d:Int) (res:R E),1<=lv->lv<=10->c lv->Fol lv r->d+n lv<=32->Big (fun f=>pLoop f lv e r d) res->Big (fun f=>pBin f lv (X lv++r) d) res
 top:∀ (r:List Tok) (d:Int),c 11->Fol 10 r->d+n 11<=32->Big (fun f=>pBin f 11 (X 11++r) d) (.ok (e,r,d))
 er:∀ (lv:Nat) (r:List Tok) (d:Int),1<=lv->lv<=11->c lv->d<=32->32 < d+n lv->Big (fun f=>pBin f lv (X lv++r) d) (.error (9,0))
theorem RB.of_top {X:List Tok} {n:Nat} {e:E} (h1:∀ (r:List Tok) (d:Int),Fol 10 r->d+n<=32->Big (fun f=>pUn f (X++r) d) (.ok (e,r,d)))
 (h2:∀ (r:List Tok) (d:Int),d<=32->32 < d+n->Big (fun f=>pUn f (X++r) d) (.error (9,0))):RB (fun _=>X) (fun _=>n) e (fun _=>True):=by
 have top:∀ (r:List Tok) (d:Int) (res:R E),Big (fun f=>pUn f (X++r) d) res->Big (fun f=>pBin f 11 (X++r) d) res:=by
  intro r d res h
  refine Big.step ?_
  refine h.congr fun f=>?_
  rw [pBin,if_pos (by rfl)]
 refine ⟨fun lv r d res hl hl' _ hr hd hb=>?_,fun r d _ hr hd=>top r d _ (h1 r d hr hd),fun lv r d hl hl' _ hd hd'=>?_⟩
 . exact bin_lower (top r d _ (h1 r d (hr.up hl') hd)) (Nat.le_refl _) (10 - lv) lv res (by omega) hr hb
 . exact bin_err (top r d _ (h2 r d hd hd')) (Nat.le_refl _) (11 - lv) lv (by omega)
theorem isT_k {k:Nat} {t:Bytes} {v:Nat} {b:Bytes} {p:Nat} {r:List Tok} (x:Bytes) (h:k≠4) (h':k≠5):isT (⟨k,t,v,b,p⟩::r) x=false:=by
 simp [isT,hd,h,h']
theorem isT_sym (t x:Bytes) (r:List Tok):isT (sym t::r) x=(t == x):=by simp [isT,hd,sym]
theorem isK_c (t:Tok) (r:List Tok) (k:Nat):isK (t::r) k=(t.kind == k):=rfl
theorem isT_num (v:Nat) (x:Bytes) (r:List Tok):isT (numT v::r) x=false:=isT_k x (by decide) (by decide)
theorem isT_str (v:Bytes) (x:Bytes) (r:List Tok):isT (strT v::r) x=false:=isT_k x (by decide) (by decide)
theorem isT_idt (v:Bytes) (x:Bytes) (r:List Tok):isT (idt v::r) x=false:=isT_k x (by decide) (by decide)
theorem un_prim {t:Tok} {r:List Tok} {d:Int} {res:R E} (h:∀ x,x=[45]∨x=[33]∨x=[126]->isT (t::r) x=false) (hb:Big (fun f=>pPrim f (t::r) d) res):Big (fun f=>pUn f (t::r) d) res:=by
 refine Big.step ?_
 refine hb.congr fun f=>?_
 rw [pUn,h _ (.inl rfl),h _ (.inr (.inl rfl)),h _ (.inr (.inr rfl))]
 rfl
theorem takeT_open {t:Bytes} {r:List Tok} {d:Int} (ht:opens t=true) (hd:d≠32):takeT t (sym t::r) d= .ok ((),r,d+1):=by
 simp [takeT,isT_sym,ht,hd]
theorem takeT_full {t:Bytes} {r:List Tok} (ht:opens t=true):takeT t (sym t::r) 32= .error (9,0):=by
 unfold takeT;rw [isT_sym];simp [ht,hd,sym]
theorem takeT_close {t:Bytes} {r:List Tok} {d:Int} (ht:closes t=true):takeT t (sym t::r) d= .ok ((),r,d - 1):=by
 have:opens t=false:=by
  simp only [closes,Bool.or_eq_true,beq_iff_eq] at ht
  rcases ht with (rfl | rfl) | rfl <;> rfl
 simp [takeT,isT_sym,ht,this]
theorem takeT_plain {t:Bytes} {r:List Tok} {d:Int} (ho:opens t=false) (hc:closes t=false):takeT t (sym t::r) d= .ok ((),r,d):=by
 simp [takeT,isT_sym,ho,hc]
theorem fol_close {t:Bytes} {r:List Tok} {lv:Nat} (h:t=[41]∨t=[93]∨t=[44]∨t=[59]):Fol lv (sym t::r):=by
 rcases h with rfl | rfl | rfl | rfl <;> exact Fol.sym (by decide) (by decide) (Nat.zero_le _)
theorem low_ok {e:E} (h:OkE e):low e 1=false:=by
 cases h with
 | bin h=>simp [low,xk,xo];omega
 | _=>simp [low,xk]
theorem whole_ok {e:E} (ho:OkE e) (h:RB (fun _=>tkE e) (fun _=>nE e) (zE e) (fun lv=>low e lv=false)) {r:List Tok} {d:Int} (hr:Fol 0 r) (hd:d+nE e<=32):Big (fun f=>pBin f 1 (tkE e++r) d) (.ok (zE e,r,d)):=
 h.ok 1 r d _ (Nat.le_refl _) (by decide) (low_ok ho) (hr.up (by decide)) hd (loop_end hr)
theorem whole_er {e:E} (ho:OkE e) (h:RB (fun _=>tkE e) (fun _=>nE e) (zE e) (fun lv=>low e lv=false)) {r:List Tok} {d:Int} (h0:d<=32) (hd:32 < d+nE e):Big (fun f=>pBin f 1 (tkE e++r) d) (.error (9,0)):=
 h.er 1 r d (Nat.le_refl _) (by decide) (low_ok ho) h0 hd
theorem RB.par {e:E} (ho:OkE e) (h:RB (fun _=>tkE e) (fun _=>nE e) (zE e) (fun lv=>low e lv=false)):RB (fun lv=>tkL lv e) (fun lv=>nL lv e) (zE e) (fun _=>True):=by
 have p:RB (fun _=>sym [40]::(tkE e++[sym [41]])) (fun _=>nE e+1) (zE e) (fun _=>True):=by
  refine RB.of_top (fun r d hr hd=>?_) (fun r d hd hd'=>?_)
  . rw [List.cons_append]
    refine un_prim (fun x hx=>by rw [isT_sym];rcases hx with rfl | rfl | rfl <;> rfl) ?_
    refine Big.step ?_
    have hw:=whole_ok ho h (r:=sym [41]::r) (d:=d+1) (fol_close (.inl rfl)) (by omega)
    refine (Big.bind (G:=fun f e ts d=>bindR (takeT [41] ts d) fun _ ts d=> .ok (e,ts,d)) hw (r:= .ok (zE e,r,d)) ?_).congr fun f=>?_
    . refine Big.const.congr fun f=>?_
      rw [takeT_close rfl,bindR,show d+1 - 1=d by omega]
    . rw [pPrim,isK_c,isK_c,isK_c]
      simp only [sym,Nat.reduceBEq,Bool.false_eq_true,if_false]
      rw [show (⟨5,[40],0,[],0⟩:Tok)=sym [40] from rfl,takeT_open rfl (by omega),bindR,List.append_assoc]
      rfl
  . rw [List.cons_append]
    refine un_prim (fun x hx=>by rw [isT_sym];rcases hx with rfl | rfl | rfl <;> rfl) ?_
    refine Big.step ?_
    by_cases h32:d=32
    . subst h32
      refine Big.const.congr fun f=>?_
      rw [pPrim,isK_c,isK_c,isK_c]
      simp only [sym,Nat.reduceBEq,Bool.false_eq_true,if_false]
      rw [show (⟨5,[40],0,[],0⟩:Tok)=sym [40] from rfl,takeT_full rfl,bindR]
    . have hw:=whole_er ho h (r:=sym [41]::r) (d:=d+1) (by omega) (by omega)
      refine (Big.err (G:=fun f e ts d=>bindR (takeT [41] ts d) fun _ ts d=> .ok (e,ts,d)) hw).congr fun f=>?_
      rw [pPrim,isK_c,isK_c,isK_c]
      simp only [sym,Nat.reduceBEq,Bool.false_eq_true,if_false]
      rw [show (⟨5,[40],0,[],0⟩:Tok)=sym [40] from rfl,takeT_open rfl h32,bindR,List.append_assoc]
      rfl
 refine ⟨fun lv r d res hl hl' _ hr hd hb=>?_,fun r d _ hr hd=>?_,fun lv r d hl hl' _ hd hd'=>?_⟩
 . cases e1:low e lv with
   | true=>rw [tkL,encT,e1,if_pos (by rfl)];rw [nL,encN,e1,if_pos (by rfl)] at hd;exact p.ok lv r d res hl hl' trivial hr (by omega) hb
   | false=>rw [tkL,encT,e1,if_neg (by simp)];rw [nL,encN,e1,if_neg (by simp)] at hd;exact h.ok lv r d res hl hl' e1 hr hd hb
 . cases e1:low e 11 with
   | true=>rw [tkL,encT,e1,if_pos (by rfl)];rw [nL,encN,e1,if_pos (by rfl)] at hd;exact p.top r d trivial hr (by omega)
   | false=>rw [tkL,encT,e1,if_neg (by simp)];rw [nL,encN,e1,if_neg (by simp)] at hd;exact h.top r d e1 hr hd
 . cases e1:low e lv with
   | true=>rw [tkL,encT,e1,if_pos (by rfl)];rw [nL,encN,e1,if_pos (by rfl)] at hd';exact p.er lv r d hl hl' trivial hd (by omega)
   | false=>rw [tkL,encT,e1,if_neg (by simp)];rw [nL,encN,e1,if_neg (by simp)] at hd';exact h.er lv r d hl hl' e1 hd hd'
theorem RB.any {X:List Tok} {n:Nat} {e:E} {c:Nat->Prop} (h:RB (fun _=>X) (fun _=>n) e (fun _=>True)):RB (fun _=>X) (fun _=>n) e c:=
 ⟨fun lv r d res hl hl' _=>h.ok lv r d res hl hl' trivial,fun r d _=>h.top r d trivial,fun lv r d hl hl' _=>h.er lv r d hl hl' trivial⟩
theorem head_xL {x:Bytes} (hx:x=[41]∨x=[59]) {e:E} (h:∀ r,isT (tkE e++r) x=false) (lv:Nat) (r:List Tok):isT (tkL lv e++r) x=false:=by
 unfold tkL encT
 split
 . rw [List.cons_append,isT_sym];rcases hx with rfl | rfl <;> rfl
 . exact h r
theorem head_x {x:Bytes} (hx:x=[41]∨x=[59]) {e:E} (h:OkE e):∀ r,isT (tkE e++r) x=false:=by
 induction h with
 | num _=>intro r;rw [tk_num];exact isT_num ..
 | str _=>intro r;rw [tk_str];exact isT_str ..
 | var _=>intro r;rw [tk_var];exact isT_idt ..
 | elem _ _ _=>intro r;rw [tk_elem];exact isT_idt ..
 | call _ _ _=>intro r;rw [tk_call];exact isT_idt ..
 | un ho _ _=>intro r;rw [tk_un,List.cons_append,isT_sym];rcases ho with rfl | rfl | rfl <;> rcases hx with rfl | rfl <;> rfl
 | bin _ _ _ iha _=>intro r;rw [tk_bin,List.append_assoc];exact head_xL hx iha _ _
theorem head_tk {e:E} (h:OkE e) (r:List Tok):isT (tkE e++r) [41]=false:=head_x (.inl rfl) h r
theorem head_semi {e:E} (h:OkE e) (r:List Tok):isT (tkE e++r) [59]=false:=head_x (.inr rfl) h r
theorem prim_n {k:Nat} {t:Bytes} {v:Nat} {b:Bytes} {r:List Tok} {d:Int} {f:Nat} (h2:k≠2) (h3:k≠3) (h1:k=1):pPrim (f+1) (⟨k,t,v,b,0⟩::r) d=pName f (⟨k,t,v,b,0⟩::r) d:=by
 subst h1
 rw [pPrim,isK_c,isK_c,isK_c]
 rfl
theorem un_name {n:Bytes} {r:List Tok} {d:Int} {res:R E} (h:Big (fun f=>pName f (idt n::r) d) res):Big (fun f=>pUn f (idt n::r) d) res:=by
 refine un_prim (fun x _=>isT_idt ..) ?_
 refine Big.step ?_
 exact h.congr fun f=>prim_n (by decide) (by decide) rfl
theorem more_ok {d:Int} {r:List Tok}:∀ (es l:List E),(∀ e∈es,OkE e/\RB (fun _=>tkE e) (fun _=>nE e) (zE e) (fun lv=>low e lv=false))->d+maxN (nEs es)<=32->
 Big (fun f=>pMore f l (moreT (tkEs es)++sym [41]::r) d) (.ok (l++zEs es,sym [41]::r,d))
 | [],l,_,_=>by
   refine Big.step ?_
   refine Big.const.congr fun f=>?_
   rw [show moreT (tkEs [])++sym [41]::r=sym [41]::r from rfl,pMore,isT_sym,if_neg (by decide)]
   simp [zEs]
 | e::es,l,h,hd=>by
   obtain ⟨ho,hb⟩:=h e (List.mem_cons_self ..)
   simp only [nEs,maxN] at hd
   have ih:=more_ok (d:=d) (r:=r) es (l++[zE e]) (fun x hx=>h x (List.mem_cons_of_mem _ hx)) (by omega)
   rw [List.append_assoc] at ih
   have hf:Fol 0 (moreT (tkEs es)++sym [41]::r):=by
    cases es with
    | nil=>exact fol_close (.inl rfl)
    | cons x es=>exact fol_close (.inr (.inr (.inl rfl)))
   refine Big.step ?_
   refine (Big.bind (G:=fun f e ts d=>pMore f (l++[e]) ts d) (whole_ok ho hb hf (by omega)) ih).congr fun f=>?_
   . rw [show moreT (tkEs (e::es))++sym [41]::r=sym [44]::(tkE e++(moreT (tkEs es)++sym [41]::r)) by simp [tkEs,moreT],pMore,isT_sym,if_pos (by rfl),takeT_plain rfl rfl,bindR]
theorem more_er {d:Int} (h32:d<=32) {r:List Tok}:∀ (es l:List E),(∀ e∈es,OkE e/\RB (fun _=>tkE e) (fun _=>nE e) (zE e) (fun lv=>low e lv=false))->32 < d+maxN (nEs es)->
 Big (fun f=>pMore f l (moreT (tkEs es)++sym [41]::r) d) (.error (9,0))
 | [],l,_,hd=>by simp only [nEs,maxN] at hd;omega
 | e::es,l,h,hd=>by
   obtain ⟨ho,hb⟩:=h e (List.mem_cons_self ..)
   simp only [nEs,maxN] at hd
   have hf:Fol 0 (moreT (tkEs es)++sym [41]::r):=by
    cases es with
    | nil=>exact fol_close (.inl rfl)
    | cons x es=>exact fol_close (.inr (.inr (.inl rfl)))
   refine Big.step ?_
   by_cases h1:32 < d+nE e
   . refine (Big.err (G:=fun f e ts d=>pMore f (l++[e]) ts d) (whole_er ho hb (r:=moreT (tkEs es)++sym [41]::r) h32 h1)).congr fun f=>?_
     . rw [show moreT (tkEs (e::es))++sym [41]::r=sym [44]::(tkE e++(moreT (tkEs es)++sym [41]::r)) by simp [tkEs,moreT],pMore,isT_sym,if_pos (by rfl),takeT_plain rfl rfl,bindR]
   . have ih:=more_er h32 (r:=r) es (l++[zE e]) (fun x hx=>h x (List.mem_cons_of_mem _ hx)) (by omega)
     refine (Big.bind (G:=fun f e ts d=>pMore f (l++[e]) ts d) (whole_ok ho hb hf (by omega)) ih).congr fun f=>?_
     . rw [show moreT (tkEs (e::es))++sym [41]::r=sym [44]::(tkE e++(moreT (tkEs es)++sym [41]::r)) by simp [tkEs,moreT],pMore,isT_sym,if_pos (by rfl),takeT_plain rfl rfl,bindR]
theorem args_ok {d:Int} {r:List Tok} {es:List E} (h:∀ e∈es,OkE e/\RB (fun _=>tkE e) (fun _=>nE e) (zE e) (fun lv=>low e lv=false)) (hd:d+maxN (nEs es)<=32):
 Big (fun f=>pArgs f (commaT (tkEs es)++sym [41]::r) d) (.ok (zEs es,sym [41]::r,d)):=by
 refine Big.step ?_
 cases es with
 | nil=>
   refine Big.const.congr fun f=>?_
   rw [show commaT (tkEs [])++sym [41]::r=sym [41]::r from rfl,pArgs,isT_sym,if_pos (by rfl)]
   rfl
 | cons e es=>
   obtain ⟨ho,hb⟩:=h e (List.mem_cons_self ..)
   simp only [nEs,maxN] at hd
   have hf:Fol 0 (moreT (tkEs es)++sym [41]::r):=by
    cases es with
    | nil=>exact fol_close (.inl rfl)
    | cons x es=>exact fol_close (.inr (.inr (.inl rfl)))
   have hm:=more_ok (d:=d) (r:=r) es [zE e] (fun x hx=>h x (List.mem_cons_of_mem _ hx)) (by omega)
   refine (Big.bind (G:=fun f e ts d=>pMore f [e] ts d) (whole_ok ho hb hf (by omega)) hm).congr fun f=>?_
   rw [show commaT (tkEs (e::es))++sym [41]::r=tkE e++(moreT (tkEs es)++sym [41]::r) by simp [tkEs,commaT],pArgs,head_tk ho,if_neg (by simp)]
theorem args_er {d:Int} (h32:d<=32) {r:List Tok} {es:List E} (h:∀ e∈es,OkE e/\RB (fun _=>tkE e) (fun _=>nE e) (zE e) (fun lv=>low e lv=false)) (hd:32 < d+maxN (nEs es)):
 Big (fun f=>pArgs f (commaT (tkEs es)++sym [41]::r) d) (.error (9,0)):=by
 refine Big.step ?_
 cases es with
 | nil=>simp only [nEs,maxN] at hd;omega
 | cons e es=>
   obtain ⟨ho,hb⟩:=h e (List.mem_cons_self ..)
   simp only [nEs,maxN] at hd
   have hf:Fol 0 (moreT (tkEs es)++sym [41]::r):=by
    cases es with
    | nil=>exact fol_close (.inl rfl)
    | cons x es=>exact fol_close (.inr (.inr (.inl rfl)))
   have eq:∀ f,pArgs (f+1) (commaT (tkEs (e::es))++sym [41]::r) d=bindR (pBin f 1 (tkE e++(moreT (tkEs es)++sym [41]::r)) d) fun e ts d=>pMore f [e] ts d:=fun f=>by
    rw [show commaT (tkEs (e::es))++sym [41]::r=tkE e++(moreT (tkEs es)++sym [41]::r) by simp [tkEs,commaT],pArgs,head_tk ho,if_neg (by simp)]
   by_cases h1:32 < d+nE e
   . exact (Big.err (G:=fun f e ts d=>pMore f [e] ts d) (whole_er ho hb (r:=moreT (tkEs es)++sym [41]::r) h32 h1)).congr eq
   . have hm:=more_er h32 (r:=r) es [zE e] (fun x hx=>h x (List.mem_cons_of_mem _ hx)) (by omega)
     exact (Big.bind (G:=fun f e ts d=>pMore f [e] ts d) (whole_ok ho hb hf (by omega)) hm).congr eq
theorem call_ok {d:Int} {t:Tok} {r:List Tok} {es:List E} (h:∀ e∈es,OkE e/\RB (fun _=>tkE e) (fun _=>nE e) (zE e) (fun lv=>low e lv=false)) (hd:d+(maxN (nEs es)+1:Nat)<=32):
 Big (fun f=>pCall f t (sym [40]::(commaT (tkEs es)++sym [41]::r)) d) (.ok (.mk 5 [] t.text 0 [] (zEs es) t.pos,r,d)):=by
 refine Big.step ?_
 refine (Big.bind (G:=fun f l ts d=>bindR (takeT [41] ts d) fun _ ts d=> .ok (E.mk 5 [] t.text 0 [] l t.pos,ts,d)) (args_ok h (d:=d+1) (r:=r) (by omega)) (r:= .ok (E.mk 5 [] t.text 0 [] (zEs es) t.pos,r,d)) ?_).congr fun f=>?_
 . refine Big.const.congr fun f=>?_
   rw [takeT_close rfl,bindR,show d+1 - 1=d by omega]
 . rw [pCall,takeT_open rfl (by omega),bindR]
theorem call_er {d:Int} (h32:d<=32) {t:Tok} {r:List Tok} {es:List E} (h:∀ e∈es,OkE e/\RB (fun _=>tkE e) (fun _=>nE e) (zE e) (fun lv=>low e lv=false)) (hd:32 < d+(maxN (nEs es)+1:Nat)):
 Big (fun f=>pCall f t (sym [40]::(commaT (tkEs es)++sym [41]::r)) d) (.error (9,0)):=by
 refine Big.step ?_
 by_cases e:d=32
 . subst e
   refine Big.const.congr fun f=>?_
   rw [pCall,takeT_full rfl,bindR]
 . refine (Big.err (G:=fun f l ts d=>bindR (takeT [41] ts d) fun _ ts d=> .ok (E.mk 5 [] t.text 0 [] l t.pos,ts,d)) (args_er (by omega) h (d:=d+1) (r:=r) (by omega))).congr fun f=>?_
   rw [pCall,takeT_open rfl e,bindR]
theorem rb {e:E} (h:OkE e):RB (fun _=>tkE e) (fun _=>nE e) (zE e) (fun lv=>low e lv=false):=by
 induction h with
 | @num v p hv=>
   refine RB.any (RB.of_top (fun r d hr hd=>?_) (fun r d hd hd'=>?_))
   . rw [tk_num,List.cons_append,List.nil_append]
     refine un_prim (fun x _=>isT_num ..) ?_
     refine Big.step ?_
     refine Big.const.congr fun f=>?_
     rw [pPrim,isK_c,if_pos (by rfl)];rfl
   . rw [n_num] at hd';omega
 | @str b p hb=>
   refine RB.any (RB.of_top (fun r d hr hd=>?_) (fun r d hd hd'=>?_))
   . rw [tk_str,List.cons_append,List.nil_append]
     refine un_prim (fun x _=>isT_str ..) ?_
     refine Big.step ?_
     refine Big.const.congr fun f=>?_
     rw [pPrim,isK_c,isK_c,if_neg (by intro h;cases h),if_pos (by rfl)];rfl
   . rw [n_str] at hd';omega
 | @var n p hn=>
   refine RB.any (RB.of_top (fun r d hr hd=>?_) (fun r d hd hd'=>?_))
   . rw [tk_var,List.cons_append,List.nil_append]
     refine un_name ?_
     refine Big.step ?_
     refine Big.const.congr fun f=>?_
     rw [pName,List.tail_cons,hr.1,hr.2.1];rfl
   . rw [n_var] at hd';omega
 | @elem n e p hn oe ih=>
   have eq:∀ r d,d≠32->∀ f,pName (f+1) (idt n::sym [91]::(tkE e++sym [93]::r)) d=bindR (pBin f 1 (tkE e++sym [93]::r) (d+1)) fun e ts d=>bindR (takeT [93] ts d) fun _ ts d=> .ok (E.mk 4 [] n 0 [] [e] 0,ts,d):=fun r d hd f=>by
    rw [pName,List.tail_cons,isT_sym,isT_sym,if_neg (by decide),if_pos (by rfl),takeT_open rfl hd,bindR]
    rfl
   refine RB.any (RB.of_top (fun r d hr hd=>?_) (fun r d hd hd'=>?_))
   . rw [n_elem] at hd
     rw [tk_elem,List.cons_append,List.cons_append,List.append_assoc]
     refine un_name ?_
     refine Big.step ?_
     refine (Big.bind (whole_ok oe ih (r:=sym [93]::r) (d:=d+1) (fol_close (.inr (.inl rfl))) (by omega)) (r:= .ok (zE (.mk 4 [] n 0 [] [e] p),r,d)) ?_).congr (eq r d (by omega))
     refine Big.const.congr fun f=>?_
     rw [takeT_close rfl,bindR,show d+1 - 1=d by omega];rfl
   . rw [n_elem] at hd'
     rw [tk_elem,List.cons_append,List.cons_append,List.append_assoc]
     refine un_name ?_
     refine Big.step ?_
     by_cases e32:d=32
     . subst e32
       refine Big.const.congr fun f=>?_
       rw [pName,List.tail_cons,isT_sym,isT_sym,if_neg (by decide),if_pos (by rfl),takeT_full rfl,bindR]
     . exact (Big.err (whole_er oe ih (r:=sym [93]::r) (d:=d+1) (by omega) (by omega))).congr (eq r d e32)
 | @call n es p hn hes ih=>
   have hh:∀ e∈es,OkE e/\RB (fun _=>tkE e) (fun _=>nE e) (zE e) (fun lv=>low e lv=false):=fun e he=>⟨hes e he,ih e he⟩
   have eq:∀ r d f,pName (f+1) (idt n::sym [40]::(commaT (tkEs es)++sym [41]::r)) d=pCall f (idt n) (sym [40]::(commaT (tkEs es)++sym [41]::r)) d:=fun r d f=>by
    rw [pName,List.tail_cons,isT_sym,if_pos (by rfl)];rfl
   refine RB.any (RB.of_top (fun r d hr hd=>?_) (fun r d hd hd'=>?_))
   . rw [n_call] at hd
     rw [tk_call,List.cons_append,List.cons_append,List.append_assoc]
     refine un_name ?_
     refine Big.step ?_
     exact (call_ok hh hd).congr (eq r d)
   . rw [n_call] at hd'
     rw [tk_call,List.cons_append,List.cons_append,List.append_assoc]
     refine un_name ?_
     refine Big.step ?_
     exact (call_er hd hh hd').congr (eq r d)
 | @un op e p ho oe ih=>
   have hp:=RB.par oe ih
   have eq:∀ r d f,pUn (f+1) (sym op::(tkL 11 e++r)) d=bindR (pUn f (tkL 11 e++r) d) fun e ts' d'=> .ok (E.mk 6 op [] 0 [] [e] 0,ts',d'):=fun r d f=>by
    rw [pUn,isT_sym,isT_sym,isT_sym,if_pos (by rcases ho with rfl | rfl | rfl <;> rfl)];rfl
   have top:∀ r d (res:R E),Big (fun f=>pBin f 11 (tkL 11 e++r) d) res->Big (fun f=>pUn f (tkL 11 e++r) d) res:=by
    rintro r d res ⟨F,hF⟩
    refine ⟨F,fun f hf=>?_⟩
    have:=hF (f+1) (by omega)
    simp only [pBin,if_pos] at this
    exact this
   refine RB.any (RB.of_top (fun r d hr hd=>?_) (fun r d hd hd'=>?_))
   . rw [n_un] at hd
     rw [tk_un,List.cons_append]
     refine Big.step ?_
     exact (Big.bind (top r d _ (hp.top r d trivial hr hd)) (r:= .ok (zE (.mk 6 op [] 0 [] [e] p),r,d)) Big.const).congr (eq r d)
   . rw [n_un] at hd'
     rw [tk_un,List.cons_append]
     refine Big.step ?_
     exact (Big.err (top r d _ (hp.er 11 r d (by decide) (Nat.le_refl _) trivial hd hd'))).congr (eq r d)
 | @bin op a b p ho oa ob iha ihb=>
   have pa:=RB.par oa iha
   have pb:=RB.par ob ihb
   have hL:=level_le op
   have fo:∀ r,Fol (levelS op) (sym op::r):=fun r=>by
    refine Fol.sym (fun e=>?_) (fun e=>?_) (Nat.le_refl _)
    . subst e;cases ho
    . subst e;cases ho
   have eq:∀ r d f,pLoop (f+1) (levelS op) (zE a) (sym op::(tkL (levelS op+1) b++r)) d=bindR (pBin f (levelS op+1) (tkL (levelS op+1) b++r) d) fun e' ts' d'=>pLoop f (levelS op) (.mk 7 op [] 0 [] [zE a,e'] 0) ts' d':=fun r d f=>by
    rw [pLoop,isK_c,if_pos (by simp [hd,sym])];rfl
   have base:∀ (r:List Tok) (d:Int) (res:R E),Fol (levelS op) r->d+(nE (.mk 7 op [] 0 [] [a,b] p):Nat)<=32->Big (fun f=>pLoop f (levelS op) (zE (.mk 7 op [] 0 [] [a,b] p)) r d) res->Big (fun f=>pBin f (levelS op) (tkE (.mk 7 op [] 0 [] [a,b] p)++r) d) res:=by
    intro r d res hr hd hb
    rw [n_bin] at hd
    rw [tk_bin,List.append_assoc]
    refine pa.ok _ _ d res ho hL trivial (fo _) (by omega) ?_
    refine Big.step ?_
    refine (Big.bind (G:=fun f e' ts' d'=>pLoop f (levelS op) (.mk 7 op [] 0 [] [zE a,e'] 0) ts' d') (a:=zE b) (ts:=r) (d:=d) ?_ hb).congr (eq r d)
    by_cases h10:levelS op=10
    . rw [h10]
      rw [h10] at hr hd
      have hd':d+(max (nL 10 a) (nL 11 b):Nat)<=32:=hd
      exact pb.top r d trivial hr (by omega)
    . exact pb.ok _ r d _ (by omega) (by omega) trivial (hr.up (by omega)) (by omega) (loop_end hr)
   have lv_le:∀ lv,low (.mk 7 op [] 0 [] [a,b] p) lv=false->lv<=levelS op:=by
    intro lv hlv
    simp [low,xk,xo] at hlv
    exact Nat.le_of_not_lt (of_decide_eq_false hlv)
   refine ⟨fun lv r d res hl hl' hc hr hd hb=>?_,fun r d hc hr hd=>?_,fun lv r d hl hl' hc hd hd'=>?_⟩
   . have hle:=lv_le lv hc
     by_cases e:lv=levelS op
     . subst e;exact base r d res hr hd hb
     . refine bin_lower (L:=levelS op) (base r d _ (hr.up hle) hd ?_) (by omega) (levelS op - lv - 1) lv res (by omega) hr hb
       have:=loop_end (lv:=levelS op - 1) (e:=zE (.mk 7 op [] 0 [] [a,b] p)) (d:=d) (hr.up (lv':=levelS op - 1) (by omega))
       rw [show levelS op - 1+1=levelS op by omega] at this
       exact this
   . have:=lv_le 11 hc;omega
   . have hle:=lv_le lv hc
     refine bin_err (L:=levelS op) ?_ (by omega) (levelS op - lv) lv (by omega)
     rw [n_bin] at hd'
     rw [tk_bin,List.append_assoc]
     by_cases h1:32 < d+(nL (levelS op) a:Nat)
     . exact pa.er _ _ d ho (by omega) trivial hd h1
     . refine pa.ok _ _ d _ ho hL trivial (fo _) (by omega) ?_
       refine Big.step ?_
       exact (Big.err (pb.er _ r d (by omega) (by omega) trivial hd (by omega))).congr (eq r d)
end Go.Sx
namespace Go.Sx
def kVar:Bytes:=[118,97,114]
def kIf:Bytes:=[105,102]
def kElse:Bytes:=[101,108,115,101]
def kWhile:Bytes:=[119,104,105,108,101]
def kRet:Bytes:=[114,101,116,117,114,110]
def kBrk:Bytes:=[98,114,101,97,107]
def kCont:Bytes:=[99,111,110,116,105,110,117,101]
def kFunc:Bytes:=[102,117,110,99]
def sk:S->Nat | .mk k _ _ _ _ _=>k
def chain:List S->Bool
 | [s]=>sk s == 5
 | _=>false
mutual
def tkS:S->List Tok
 | .mk k nm args body els _=>
   if k=1 then kwd kVar::idt nm::(if args.isEmpty then [sym [59]] else sym [61]::((tkEs args).getD 0 []++[sym [59]]))
   else if k=2 then idt nm::sym [61]::((tkEs args).getD 0 []++[sym [59]])
   else if k=3 then idt nm::sym [91]::((tkEs args).getD 0 []++sym [93]::sym [61]::((tkEs args).getD 1 []++[sym [59]]))
   else if k=4 then (tkEs args).getD 0 []++[sym [59]]
   else if k=5 then kwd kIf::sym [40]::((tkEs args).getD 0 []++sym [41]::sym [123]::(tkSs body++sym [125]::(if els.isEmpty then [] else if chain els then kwd kElse::tkSs els else kwd kElse::sym [123]::(tkSs els++[sym [125]]))))
   else if k=6 then kwd kWhile::sym [40]::((tkEs args).getD 0 []++sym [41]::sym [123]::(tkSs body++[sym [125]]))
   else if k=7 then kwd kRet::(if args.isEmpty then [sym [59]] else (tkEs args).getD 0 []++[sym [59]])
   else if k=8 then [kwd kBrk,sym [59]] else [kwd kCont,sym [59]]
def tkSs:List S->List Tok
 | []=>[]
 | s::l=>tkS s++tkSs l
end
mutual
def nS:S->Nat
 | .mk k _ args body els _=>
   if k=3 then max ((nEs args).getD 0 0+1) ((nEs args).getD 1 0)
   else if k=5 then max ((nEs args).getD 0 0+1) (max (nSs body+1) (if els.isEmpty then 0 else if chain els then nSs els else nSs els+1))
   else if k=6 then max ((nEs args).getD 0 0+1) (nSs body+1)
   else (nEs args).getD 0 0
def nSs:List S->Nat
 | []=>0
 | s::l=>max (nS s) (nSs l)
end
inductive OkS:S->Prop where
 | decl {n:Bytes} {p:Nat}:nameOk n->OkS (.mk 1 n [] [] [] p)
 | decl1 {n:Bytes} {e:E} {p:Nat}:nameOk n->OkE e->OkS (.mk 1 n [e] [] [] p)
 | asg {n:Bytes} {e:E} {p:Nat}:nameOk n->OkE e->OkS (.mk 2 n [e] [] [] p)
 | sto {n:Bytes} {i e:E} {p:Nat}:nameOk n->OkE i->OkE e->OkS (.mk 3 n [i,e] [] [] p)
 | call {n:Bytes} {es:List E} {p q:Nat}:nameOk n->(∀ e∈es,OkE e)->OkS (.mk 4 [] [.mk 5 [] n 0 [] es q] [] [] p)
 | ifs {e:E} {b c:List S} {p:Nat}:OkE e->(∀ s∈b,OkS s)->(∀ s∈c,OkS s)->OkS (.mk 5 [] [e] b c p)
 | whl {e:E} {b:List S} {p:Nat}:OkE e->(∀ s∈b,OkS s)->OkS (.mk 6 [] [e] b [] p)
 | ret {p:Nat}:OkS (.mk 7 [] [] [] [] p)
 | ret1 {e:E} {p:Nat}:OkE e->OkS (.mk 7 [] [e] [] [] p)
 | brk {p:Nat}:OkS (.mk 8 [] [] [] [] p)
 | cont {p:Nat}:OkS (.mk 9 [] [] [] [] p)
theorem ts_decl (n:Bytes) (p:Nat):tkS (.mk 1 n [] [] [] p)=[kwd kVar,idt n,sym [59]]:=by simp [tkS]
theorem ts_decl1 (n:Bytes) (e:E) (p:Nat):tkS (.mk 1 n [e] [] [] p)=kwd kVar::idt n::sym [61]::(tkE e++[sym [59]]):=by simp [tkS,tkEs]
theorem ts_asg (n:Bytes) (e:E) (p:Nat):tkS (.mk 2 n [e] [] [] p)=idt n::sym [61]::(tkE e++[sym [59]]):=by simp [tkS,tkEs]
theorem ts_sto (n:Bytes) (i e:E) (p:Nat):tkS (.mk 3 n [i,e] [] [] p)=idt n::sym [91]::(tkE i++sym [93]::sym [61]::(tkE e++[sym [59]])):=by simp [tkS,tkEs]
theorem ts_call (n:Bytes) (es:List E) (p q:Nat):tkS (.mk 4 [] [.mk 5 [] n 0 [] es q] [] [] p)=idt n::sym [40]::(commaT (tkEs es)++[sym [41],sym [59]]):=by simp [tkS,tkEs,tkE]
def elT (c:List S):List Tok:=if c.isEmpty then [] else if chain c then kwd kElse::tkSs c else kwd kElse::sym [123]::(tkSs c++[sym [125]])
theorem ts_if (e:E) (b c:List S) (p:Nat):tkS (.mk 5 [] [e] b c p)=kwd kIf::sym [40]::(tkE e++sym [41]::sym [123]::(tkSs b++sym [125]::elT c)):=by simp [tkS,tkEs,elT]
theorem ts_while (e:E) (b:List S) (p:Nat):tkS (.mk 6 [] [e] b [] p)=kwd kWhile::sym [40]::(tkE e++sym [41]::sym [123]::(tkSs b++[sym [125]])):=by simp [tkS,tkEs]
theorem ts_ret (p:Nat):tkS (.mk 7 [] [] [] [] p)=[kwd kRet,sym [59]]:=by simp [tkS]
theorem ts_ret1 (e:E) (p:Nat):tkS (.mk 7 [] [e] [] [] p)=kwd kRet::(tkE e++[sym [59]]):=by simp [tkS,tkEs]
theorem ts_brk (p:Nat):tkS (.mk 8 [] [] [] [] p)=[kwd kBrk,sym [59]]:=by simp [tkS]
theorem ts_cont (p:Nat):tkS (.mk 9 [] [] [] [] p)=[kwd kCont,sym [59]]:=by simp [tkS]
def elN (c:List S):Nat:=if c.isEmpty then 0 else if chain c then nSs c else nSs c+1
theorem ns_if (e:E) (b c:List S) (p:Nat):nS (.mk 5 [] [e] b c p)=max (nE e+1) (max (nSs b+1) (elN c)):=by simp [nS,nEs,elN]
theorem ns_while (e:E) (b:List S) (p:Nat):nS (.mk 6 [] [e] b [] p)=max (nE e+1) (nSs b+1):=by simp [nS,nEs]
theorem ns_sto (n:Bytes) (i e:E) (p:Nat):nS (.mk 3 n [i,e] [] [] p)=max (nE i+1) (nE e):=by simp [nS,nEs]
theorem ns_decl1 (n:Bytes) (e:E) (p:Nat):nS (.mk 1 n [e] [] [] p)=nE e:=by simp [nS,nEs]
theorem ns_asg (n:Bytes) (e:E) (p:Nat):nS (.mk 2 n [e] [] [] p)=nE e:=by simp [nS,nEs]
theorem ns_call (n:Bytes) (es:List E) (p q:Nat):nS (.mk 4 [] [.mk 5 [] n 0 [] es q] [] [] p)=maxN (nEs es)+1:=by simp [nS,nEs,nE]
theorem ns_ret1 (e:E) (p:Nat):nS (.mk 7 [] [e] [] [] p)=nE e:=by simp [nS,nEs]
theorem isT_kwd (t x:Bytes) (r:List Tok):isT (kwd t::r) x=(t == x):=by simp [isT,hd,kwd]
theorem head_ts {s:S} (h:OkS s) (r:List Tok):isT (tkS s++r) [125]=false/\isT (tkS s++r) kElse=false:=by
 cases h with
 | decl=>rw [ts_decl];exact ⟨by rw [List.cons_append,isT_kwd];rfl,by rw [List.cons_append,isT_kwd];rfl⟩
 | decl1=>rw [ts_decl1];exact ⟨by rw [List.cons_append,isT_kwd];rfl,by rw [List.cons_append,isT_kwd];rfl⟩
 | asg=>rw [ts_asg];exact ⟨isT_idt ..,isT_idt ..⟩
 | sto=>rw [ts_sto];exact ⟨isT_idt ..,isT_idt ..⟩
 | call=>rw [ts_call];exact ⟨isT_idt ..,isT_idt ..⟩
 | ifs=>rw [ts_if];exact ⟨by rw [List.cons_append,isT_kwd];rfl,by rw [List.cons_append,isT_kwd];rfl⟩
 | whl=>rw [ts_while];exact ⟨by rw [List.cons_append,isT_kwd];rfl,by rw [List.cons_append,isT_kwd];rfl⟩
 | ret=>rw [ts_ret];exact ⟨by rw [List.cons_append,isT_kwd];rfl,by rw [List.cons_append,isT_kwd];rfl⟩
 | ret1=>rw [ts_ret1];exact ⟨by rw [List.cons_append,isT_kwd];rfl,by rw [List.cons_append,isT_kwd];rfl⟩
 | brk=>rw [ts_brk];exact ⟨by rw [List.cons_append,isT_kwd];rfl,by rw [List.cons_append,isT_kwd];rfl⟩
 | cont=>rw [ts_cont];exact ⟨by rw [List.cons_append,isT_kwd];rfl,by rw [List.cons_append,isT_kwd];rfl⟩
theorem ex_ok {e:E} (ho:OkE e) {r:List Tok} {d:Int} (hr:Fol 0 r) (h:d+nE e<=32):Big (fun f=>pBin f 1 (tkE e++r) d) (.ok (zE e,r,d)):=whole_ok ho (rb ho) hr h
theorem cond_ok {e:E} (ho:OkE e) {r:List Tok} {d:Int} (h:d+(nE e+1:Nat)<=32):Big (fun f=>pCond f (sym [40]::(tkE e++sym [41]::r)) d) (.ok (zE e,r,d)):=by
 refine (Big.bind (G:=fun _ e ts d=>bindR (takeT [41] ts d) fun _ ts d=> .ok (e,ts,d)) (ex_ok ho (r:=sym [41]::r) (d:=d+1) (fol_close (.inl rfl)) (by omega)) (r:= .ok (zE e,r,d)) ?_).congr fun f=>?_
 . refine Big.const.congr fun f=>?_
   rw [takeT_close rfl,bindR,show d+1 - 1=d by omega]
 . rw [pCond,takeT_open rfl (by omega),bindR]
def RSt (s:S):Prop:=∀ (r:List Tok) (d:Int),isT r kElse=false->d+(nS s:Nat)<=32->Big (fun f=>pStmt f (tkS s++r) d) (.ok (zS s,r,d))/\(sk s=5->Big (fun f=>pIf f (tkS s++r) d) (.ok (zS s,r,d))/\isT (tkS s++r) kIf=true)
theorem stmts_ok {d:Int} {r:List Tok}:∀ (l acc:List S),(∀ s∈l,OkS s/\RSt s)->d+(nSs l+1:Nat)<=32->Big (fun f=>pStmts f acc (tkSs l++sym [125]::r) (d+1)) (.ok (acc++zSs l,r,d))
 | [],acc,_,_=>by
   refine Big.step ?_
   refine Big.const.congr fun f=>?_
   rw [tkSs,List.nil_append,pStmts,isT_sym,if_pos (by rfl),takeT_close rfl,bindR,show d+1 - 1=d by omega]
   simp [zSs]
 | s::l,acc,h,hn=>by
   obtain ⟨ho,hs⟩:=h s (List.mem_cons_self ..)
   rw [nSs] at hn
   have ih:=stmts_ok (d:=d) (r:=r) l (acc++[zS s]) (fun x hx=>h x (List.mem_cons_of_mem _ hx)) (by omega)
   have hf:isT (tkSs l++sym [125]::r) kElse=false:=by
    cases l with
    | nil=>rw [tkSs,List.nil_append,isT_sym];rfl
    | cons x l=>rw [tkSs,List.append_assoc];exact (head_ts (h x (by simp)).1 _).2
   refine Big.step ?_
   refine (Big.bind (G:=fun f s ts d=>pStmts f (acc++[s]) ts d) (hs (tkSs l++sym [125]::r) (d+1) hf (by omega)).1 (by simpa [zSs] using ih)).congr fun f=>?_
   rw [tkSs,List.append_assoc,pStmts,(head_ts ho _).1,if_neg (by simp)]
theorem block_ok {d:Int} {r:List Tok} {l:List S} (h:∀ s∈l,OkS s/\RSt s) (hn:d+(nSs l+1:Nat)<=32):Big (fun f=>pBlock f (sym [123]::(tkSs l++sym [125]::r)) d) (.ok (zSs l,r,d)):=by
 refine Big.step ?_
 refine (stmts_ok l [] h hn).congr fun f=>?_
 rw [pBlock,takeT_open rfl (by omega),bindR]
theorem takeT_semi {r:List Tok} {d:Int}:takeT [59] (sym [59]::r) d= .ok ((),r,d):=takeT_plain rfl rfl
theorem takeT_eq {r:List Tok} {d:Int}:takeT [61] (sym [61]::r) d= .ok ((),r,d):=takeT_plain rfl rfl
theorem exsemi {α:Type} {e:E} (ho:OkE e) {r:List Tok} {d:Int} (h:d+nE e<=32) {g:E->α} {x:α} (hx:g (zE e)=x):Big (fun f=>bindR (pBin f 1 (tkE e++sym [59]::r) d) fun e ts d=>bindR (takeT [59] ts d) fun _ ts d=> .ok (g e,ts,d)) (.ok (x,r,d)):=by
 refine Big.bind (G:=fun _ e ts d=>bindR (takeT [59] ts d) fun _ ts d=> .ok (g e,ts,d)) (ex_ok ho (r:=sym [59]::r) (fol_close (.inr (.inr (.inr rfl)))) h) ?_
 refine Big.const.congr fun f=>?_
 rw [takeT_semi,bindR,hx]
theorem stmt_named {n:Bytes} {r:List Tok} {d:Int} {res:R S} (h:Big (fun f=>pNamed f (idt n::r) d) res):Big (fun f=>pStmt f (idt n::r) d) res:=by
 refine Big.step ?_
 refine h.congr fun f=>?_
 rw [pStmt,isK_c,if_pos (by rfl)]
theorem isK_kwd (t:Bytes) (r:List Tok):isK (kwd t::r) 1=false:=rfl
theorem tail_c (t:Tok) (r:List Tok):(t::r).tail=r:=rfl
theorem takeK_idt (n:Bytes) (r:List Tok) (d:Int):takeK 1 (idt n::r) d= .ok (idt n,r,d):=by rw [takeK,isK_c];rfl
theorem takeK_num (n:Nat) (r:List Tok) (d:Int):takeK 2 (numT n::r) d= .ok (numT n,r,d):=by rw [takeK,isK_c];rfl
theorem rs {s:S} (h:OkS s):RSt s:=by
 induction h with
 | @decl n p hn=>
   intro r d hr hd
   refine ⟨?_,fun e=>by cases e⟩
   rw [ts_decl]
   refine Big.step ?_
   refine Big.const.congr fun f=>?_
   rw [show [kwd kVar,idt n,sym [59]]++r=kwd kVar::idt n::sym [59]::r from rfl,pStmt,isK_kwd,if_neg (by simp),isT_kwd,if_pos (by rfl),tail_c,takeK_idt,bindR,isT_sym,if_neg (by decide),takeT_semi,bindR]
   rfl
 | @decl1 n e p hn he=>
   intro r d hr hd
   rw [ns_decl1] at hd
   refine ⟨?_,fun e=>by cases e⟩
   rw [ts_decl1]
   refine Big.step ?_
   refine (exsemi he hd (g:=fun e=>S.mk 1 n [e] [] [] 0) (r:=r) rfl).congr fun f=>?_
   rw [show kwd kVar::idt n::sym [61]::(tkE e++[sym [59]])++r=kwd kVar::idt n::sym [61]::(tkE e++sym [59]::r) by simp,pStmt,isK_kwd,if_neg (by simp),isT_kwd,if_pos (by rfl),tail_c,takeK_idt,bindR,isT_sym,if_pos (by rfl),takeT_eq,bindR]
   rfl
 | @asg n e p hn he=>
   intro r d hr hd
   rw [ns_asg] at hd
   refine ⟨?_,fun e=>by cases e⟩
   rw [show tkS (.mk 2 n [e] [] [] p)++r=idt n::sym [61]::(tkE e++sym [59]::r) by rw [ts_asg];simp]
   refine stmt_named ?_
   refine Big.step ?_
   refine (exsemi he hd (g:=fun e=>S.mk 2 n [e] [] [] 0) (r:=r) rfl).congr fun f=>?_
   rw [pNamed,tail_c,isT_sym,if_pos (by rfl),takeT_eq,bindR]
   rfl
 | @sto n i e p hn hi he=>
   intro r d hr hd
   rw [ns_sto] at hd
   refine ⟨?_,fun e=>by cases e⟩
   rw [show tkS (.mk 3 n [i,e] [] [] p)++r=idt n::sym [91]::(tkE i++sym [93]::sym [61]::(tkE e++sym [59]::r)) by rw [ts_sto];simp]
   refine stmt_named ?_
   refine Big.step ?_
   refine (Big.bind (G:=fun f i ts' d=>bindR (takeT [93] ts' d) fun _ ts' d=>bindR (takeT [61] ts' d) fun _ ts' d=>bindR (pBin f 1 ts' d) fun e ts' d=>bindR (takeT [59] ts' d) fun _ ts' d=> .ok (S.mk 3 n [i,e] [] [] 0,ts',d))
    (ex_ok hi (r:=sym [93]::sym [61]::(tkE e++sym [59]::r)) (d:=d+1) (fol_close (.inr (.inl rfl))) (by omega)) (r:= .ok (zS (.mk 3 n [i,e] [] [] p),r,d)) ?_).congr fun f=>?_
   . refine (exsemi he (d:=d) (by omega) (g:=fun e=>S.mk 3 n [zE i,e] [] [] 0) (r:=r) rfl).congr fun f=>?_
     rw [takeT_close rfl,bindR,show d+1 - 1=d by omega,takeT_eq,bindR]
   . rw [pNamed,tail_c,isT_sym,if_neg (by decide),isT_sym,if_pos (by rfl),takeT_open rfl (by omega),bindR]
     rfl
 | @call n es p q hn hes=>
   intro r d hr hd
   rw [ns_call] at hd
   refine ⟨?_,fun e=>by cases e⟩
   rw [show tkS (.mk 4 [] [.mk 5 [] n 0 [] es q] [] [] p)++r=idt n::sym [40]::(commaT (tkEs es)++sym [41]::sym [59]::r) by rw [ts_call];simp]
   refine stmt_named ?_
   refine Big.step ?_
   refine (Big.bind (G:=fun f e ts' d=>bindR (takeT [59] ts' d) fun _ ts' d=> .ok (S.mk 4 [] [e] [] [] 0,ts',d))
    (call_ok (d:=d) (t:=idt n) (r:=sym [59]::r) (fun e he=>⟨hes e he,rb (hes e he)⟩) (by omega)) (r:= .ok (zS (.mk 4 [] [.mk 5 [] n 0 [] es q] [] [] p),r,d)) ?_).congr fun f=>?_
   . refine Big.const.congr fun f=>?_
     rw [takeT_semi,bindR]
     rfl
   . rw [pNamed,tail_c,isT_sym,if_neg (by decide),isT_sym,if_neg (by decide)]
     rfl
 | @ifs e b c p he hb hc ihb ihc=>
   intro r d hr hd
   rw [ns_if] at hd
   have hbb:∀ s∈b,OkS s/\RSt s:=fun s hs=>⟨hb s hs,ihb s hs⟩
   have hcc:∀ s∈c,OkS s/\RSt s:=fun s hs=>⟨hc s hs,ihc s hs⟩
   have hif:Big (fun f=>pIf f (kwd kIf::sym [40]::(tkE e++sym [41]::sym [123]::(tkSs b++sym [125]::(elT c++r)))) d) (.ok (zS (.mk 5 [] [e] b c p),r,d)):=by
    refine Big.step ?_
    refine (Big.bind (G:=fun f e ts' d=>bindR (pBlock f ts' d) fun b ts' d=>
     if isT ts' kElse then
      if isT ts'.tail kIf then bindR (pIf f ts'.tail d) fun s ts' d=> .ok (S.mk 5 [] [e] b [s] 0,ts',d)
      else bindR (pBlock f ts'.tail d) fun b' ts' d=> .ok (S.mk 5 [] [e] b b' 0,ts',d)
     else .ok (S.mk 5 [] [e] b [] 0,ts',d)) (cond_ok he (d:=d) (r:=sym [123]::(tkSs b++sym [125]::(elT c++r))) (by omega)) (r:= .ok (zS (.mk 5 [] [e] b c p),r,d)) ?_).congr fun f=>?_
    . refine Big.bind (G:=fun f b ts' d=>
       if isT ts' kElse then
        if isT ts'.tail kIf then bindR (pIf f ts'.tail d) fun s ts' d=> .ok (S.mk 5 [] [zE e] b [s] 0,ts',d)
        else bindR (pBlock f ts'.tail d) fun b' ts' d=> .ok (S.mk 5 [] [zE e] b b' 0,ts',d)
       else .ok (S.mk 5 [] [zE e] b [] 0,ts',d)) (block_ok hbb (d:=d) (r:=elT c++r) (by omega)) ?_
      cases c with
      | nil=>
        refine Big.const.congr fun f=>?_
        rw [show elT []++r=r from rfl,hr]
        rfl
      | cons s0 c0=>
        cases hch:chain (s0::c0) with
        | true=>
          cases c0 with
          | cons _ _=>cases hch
          | nil=>
            have h5:sk s0=5:=by simpa [chain] using hch
            have e1:elT [s0]++r=kwd kElse::(tkS s0++r):=by simp [elT,hch,tkSs]
            have e2:elN [s0]=nS s0:=by simp [elN,hch,nSs]
            rw [e2] at hd
            obtain ⟨h6,h7⟩:=(ihc s0 (List.mem_cons_self ..) r d hr (by omega)).2 h5
            refine (Big.bind (G:=fun f s ts' d=> .ok (S.mk 5 [] [zE e] (zSs b) [s] 0,ts',d)) h6 (r:= .ok (zS (.mk 5 [] [e] b [s0] p),r,d)) Big.const).congr fun f=>?_
            rw [e1,isT_kwd,tail_c,h7]
            rfl
        | false=>
          have e1:elT (s0::c0)++r=kwd kElse::sym [123]::(tkSs (s0::c0)++sym [125]::r):=by simp [elT,hch]
          have e2:elN (s0::c0)=nSs (s0::c0)+1:=by simp [elN,hch]
          rw [e2] at hd
          refine (Big.bind (G:=fun f b' ts' d=> .ok (S.mk 5 [] [zE e] (zSs b) b' 0,ts',d)) (block_ok hcc (d:=d) (r:=r) (by omega)) (r:= .ok (zS (.mk 5 [] [e] b (s0::c0) p),r,d)) Big.const).congr fun f=>?_
          rw [e1,isT_kwd,tail_c,isT_sym]
          rfl
    . rw [pIf,tail_c];rfl
   have e0:tkS (.mk 5 [] [e] b c p)++r=kwd kIf::sym [40]::(tkE e++sym [41]::sym [123]::(tkSs b++sym [125]::(elT c++r))):=by rw [ts_if];simp
   rw [e0]
   refine ⟨?_,fun _=>⟨hif,by rw [isT_kwd];rfl⟩⟩
   refine Big.step ?_
   refine hif.congr fun f=>?_
   rw [pStmt,isK_kwd,if_neg (by simp),isT_kwd,if_neg (by decide),isT_kwd,if_pos (by decide)]
 | @whl e b p he hb ihb=>
   intro r d hr hd
   rw [ns_while] at hd
   refine ⟨?_,fun e=>by cases e⟩
   have e0:tkS (.mk 6 [] [e] b [] p)++r=kwd kWhile::sym [40]::(tkE e++sym [41]::sym [123]::(tkSs b++sym [125]::r)):=by rw [ts_while];simp
   rw [e0]
   refine Big.step ?_
   refine (Big.bind (G:=fun f e ts' d=>bindR (pBlock f ts' d) fun b ts' d=> .ok (S.mk 6 [] [e] b [] 0,ts',d)) (cond_ok he (d:=d) (r:=sym [123]::(tkSs b++sym [125]::r)) (by omega)) (r:= .ok (zS (.mk 6 [] [e] b [] p),r,d)) ?_).congr fun f=>?_
   . exact Big.bind (G:=fun f b ts' d=> .ok (S.mk 6 [] [zE e] b [] 0,ts',d)) (block_ok (fun s hs=>⟨hb s hs,ihb s hs⟩) (d:=d) (r:=r) (by omega)) Big.const
   . rw [pStmt,isK_kwd,if_neg (by simp),isT_kwd,if_neg (by decide),isT_kwd,if_neg (by decide),isT_kwd,if_pos (by decide),tail_c]
     rfl
 | @ret p=>
   intro r d hr hd
   refine ⟨?_,fun e=>by cases e⟩
   rw [ts_ret]
   refine Big.step ?_
   refine Big.const.congr fun f=>?_
   rw [show [kwd kRet,sym [59]]++r=kwd kRet::sym [59]::r from rfl,pStmt,isK_kwd,if_neg (by simp),isT_kwd,if_neg (by decide),isT_kwd,if_neg (by decide),isT_kwd,if_neg (by decide),isT_kwd,if_pos (by decide),tail_c,isT_sym,if_pos (by rfl),takeT_semi,bindR]
   rfl
 | @ret1 e p he=>
   intro r d hr hd
   rw [ns_ret1] at hd
   refine ⟨?_,fun e=>by cases e⟩
   rw [ts_ret1]
   refine Big.step ?_
   refine (exsemi he hd (g:=fun e=>S.mk 7 [] [e] [] [] 0) (r:=r) rfl).congr fun f=>?_
   rw [show kwd kRet::(tkE e++[sym [59]])++r=kwd kRet::(tkE e++sym [59]::r) by simp,pStmt,isK_kwd,if_neg (by simp),isT_kwd,if_neg (by decide),isT_kwd,if_neg (by decide),isT_kwd,if_neg (by decide),isT_kwd,if_pos (by decide),tail_c,head_semi he,if_neg (by simp)]
   rfl
 | @brk p=>
   intro r d hr hd
   refine ⟨?_,fun e=>by cases e⟩
   rw [ts_brk]
   refine Big.step ?_
   refine Big.const.congr fun f=>?_
   rw [show [kwd kBrk,sym [59]]++r=kwd kBrk::sym [59]::r from rfl,pStmt,isK_kwd,if_neg (by simp),isT_kwd,if_neg (by decide),isT_kwd,if_neg (by decide),isT_kwd,if_neg (by decide),isT_kwd,if_neg (by decide),isT_kwd,if_pos (by decide),tail_c,takeT_semi,bindR]
   rfl
 | @cont p=>
   intro r d hr hd
   refine ⟨?_,fun e=>by cases e⟩
   rw [ts_cont]
   refine Big.step ?_
   refine Big.const.congr fun f=>?_
   rw [show [kwd kCont,sym [59]]++r=kwd kCont::sym [59]::r from rfl,pStmt,isK_kwd,if_neg (by simp),isT_kwd,if_neg (by decide),isT_kwd,if_neg (by decide),isT_kwd,if_neg (by decide),isT_kwd,if_neg (by decide),isT_kwd,if_neg (by decide),isT_kwd,if_pos (by decide),tail_c,takeT_semi,bindR]
   rfl
end Go.Sx
namespace Go.Sx
def tkG (g:G):List Tok:=kwd kVar::idt g.name::(if g.size≠0 then [sym [91],numT g.size,sym [93],sym [59]] else if g.value≠0 then [sym [61],numT g.value,sym [59]] else [sym [59]])
def morePs:List Bytes->List Tok
 | []=>[]
 | p::l=>sym [44]::idt p::morePs l
def tkPs:List Bytes->List Tok
 | []=>[]
 | p::l=>idt p::morePs l
def tkF (f:F):List Tok:=kwd kFunc::idt f.name::sym [40]::(tkPs f.params++sym [41]::sym [123]::(tkSs f.body++[sym [125]]))
def tkGs:List G->List Tok
 | []=>[]
 | g::l=>tkG g++tkGs l
def tkFs:List F->List Tok
 | []=>[]
 | g::l=>tkF g++tkFs l
def tkP (p:Pg):List Tok:=tkGs p.globals++tkFs p.funcs
structure OkG (g:G):Prop where
 nm:nameOk g.name
 sz:g.size < 4294967296
 vl:g.value < 4294967296
 one:g.size=0∨g.value=0
structure OkF (f:F):Prop where
 nm:nameOk f.name
 ps:∀ p∈f.params,nameOk p
 body:∀ s∈f.body,OkS s
theorem takeT_kwd {t:Bytes} {r:List Tok} {d:Int} (h1:opens t=false) (h2:closes t=false):takeT t (kwd t::r) d= .ok ((),r,d):=by
 simp [takeT,isT_kwd,h1,h2]
theorem takeT_var {r:List Tok} {d:Int}:takeT [118,97,114] (kwd kVar::r) d= .ok ((),r,d):=takeT_kwd (t:=kVar) rfl rfl
theorem takeT_func {r:List Tok} {d:Int}:takeT [102,117,110,99] (kwd kFunc::r) d= .ok ((),r,d):=takeT_kwd (t:=kFunc) rfl rfl
theorem global_ok {g:G} (h:OkG g) (r:List Tok) (d:Int) (hd:d≠32):pGlobal (tkG g++r) d= .ok (zG g,r,d):=by
 unfold tkG
 obtain ⟨nm,sz,vl,pos⟩:=g
 have hone:=h.one
 simp only at hone ⊢
 split
 . rename_i hs
   have:vl=0:=by omega
   subst this
   rw [show kwd kVar::idt nm::[sym [91],numT sz,sym [93],sym [59]]++r=kwd kVar::idt nm::sym [91]::numT sz::sym [93]::sym [59]::r from rfl,pGlobal,takeT_var,bindR,takeK_idt,bindR,isT_sym,if_neg (by decide),isT_sym,if_pos (by rfl),takeT_open rfl hd,bindR,takeK_num,bindR,takeT_close rfl,bindR,takeT_semi,bindR,show d+1 - 1=d by omega]
   rfl
 . rename_i hs
   have:sz=0:=by omega
   subst this
   split
   . rw [show kwd kVar::idt nm::[sym [61],numT vl,sym [59]]++r=kwd kVar::idt nm::sym [61]::numT vl::sym [59]::r from rfl,pGlobal,takeT_var,bindR,takeK_idt,bindR,isT_sym,if_pos (by rfl),takeT_eq,bindR,takeK_num,bindR,takeT_semi,bindR]
     rfl
   . rename_i hv
     have:vl=0:=by omega
     subst this
     rw [show kwd kVar::idt nm::[sym [59]]++r=kwd kVar::idt nm::sym [59]::r from rfl,pGlobal,takeT_var,bindR,takeK_idt,bindR,isT_sym,if_neg (by decide),isT_sym,if_neg (by decide),takeT_semi,bindR]
     rfl
theorem moreP_ok {r:List Tok} {d:Int}:∀ (l acc:List Bytes),Big (fun f=>pMoreP f acc (morePs l++sym [41]::r) d) (.ok (acc++l,sym [41]::r,d))
 | [],acc=>by
   refine Big.step ?_
   refine Big.const.congr fun f=>?_
   rw [morePs,List.nil_append,pMoreP,isT_sym,if_neg (by decide),List.append_nil]
 | p::l,acc=>by
   refine Big.step ?_
   have ih:=moreP_ok (r:=r) (d:=d) l (acc++[p])
   rw [List.append_assoc] at ih
   refine Big.congr (x:=fun f=>pMoreP f (acc++[p]) (morePs l++sym [41]::r) d) ih fun f=>?_
   rw [morePs,show sym [44]::idt p::morePs l++sym [41]::r=sym [44]::idt p::(morePs l++sym [41]::r) from rfl,pMoreP,isT_sym,if_pos (by rfl),takeT_plain rfl rfl,bindR,takeK_idt,bindR]
   rfl
theorem params_ok {r:List Tok} {d:Int} (l:List Bytes):Big (fun f=>pParams f (tkPs l++sym [41]::r) d) (.ok (l,sym [41]::r,d)):=by
 cases l with
 | nil=>
   refine Big.const.congr fun f=>?_
   rw [tkPs,List.nil_append,pParams,isT_sym,if_pos (by rfl)]
 | cons p l=>
   refine (moreP_ok l [p]).congr fun f=>?_
   rw [tkPs,List.cons_append,pParams,isT_idt,if_neg (by simp),takeK_idt,bindR]
   rfl
theorem func_big {nm:Bytes} {ps:List Bytes} {X r:List Tok} {d:Int} (hd:d≠32) {res:R (List S)} (hb:Big (fun f=>pBlock f (sym [123]::X) d) res):
 Big (fun f=>pFunc f (kwd kFunc::idt nm::sym [40]::(tkPs ps++sym [41]::sym [123]::X)) d) (bindR res fun b ts d=> .ok (⟨nm,ps,b,0⟩,ts,d)):=by
 have e:∀ f,pFunc f (kwd kFunc::idt nm::sym [40]::(tkPs ps++sym [41]::sym [123]::X)) d=bindR (pParams f (tkPs ps++sym [41]::sym [123]::X) (d+1)) fun ps ts d=>bindR (takeT [41] ts d) fun _ ts d=>bindR (pBlock f ts d) fun b ts d=> .ok (⟨nm,ps,b,0⟩,ts,d):=fun f=>by
  rw [pFunc,takeT_func,bindR,takeK_idt,bindR,takeT_open rfl hd,bindR]
  rfl
 refine (Big.bind (G:=fun f ps ts d=>bindR (takeT [41] ts d) fun _ ts d=>bindR (pBlock f ts d) fun b ts d=> .ok (⟨nm,ps,b,0⟩,ts,d)) (params_ok ps) ?_).congr e
 have e2:∀ f,(bindR (takeT [41] (sym [41]::sym [123]::X) (d+1)) fun _ ts d=>bindR (pBlock f ts d) fun b ts d=>(.ok (⟨nm,ps,b,0⟩,ts,d):R F))=bindR (pBlock f (sym [123]::X) d) fun b ts d=> .ok (⟨nm,ps,b,0⟩,ts,d):=fun f=>by
  rw [takeT_close rfl,bindR,show d+1 - 1=d by omega]
 match res,hb with
 | .error e,hb=>exact (Big.err (G:=fun _ b ts d=> .ok (⟨nm,ps,b,0⟩,ts,d)) hb).congr e2
 | .ok (b,ts,d'),hb=>exact (Big.bind (G:=fun _ b ts d=> .ok (⟨nm,ps,b,0⟩,ts,d)) hb Big.const).congr e2
theorem func_ok {g:F} (h:OkF g) {r:List Tok} {d:Int} (hn:d+(nSs g.body+1:Nat)<=32):Big (fun f=>pFunc f (tkF g++r) d) (.ok (zF g,r,d)):=by
 have hb:=block_ok (d:=d) (r:=r) (l:=g.body) (fun s hs=>⟨h.body s hs,rs (h.body s hs)⟩) hn
 have:=func_big (nm:=g.name) (ps:=g.params) (X:=tkSs g.body++sym [125]::r) (by omega) (r:=r) hb
 refine this.congr fun f=>?_
 rw [show tkF g++r=kwd kFunc::idt g.name::sym [40]::(tkPs g.params++sym [41]::sym [123]::(tkSs g.body++sym [125]::r)) by simp [tkF]]
def endT:Tok:=⟨0,[],0,[],0⟩
theorem funcs_ok:∀ (l:List F) (p:Pg),(∀ g∈l,OkF g/\nSs g.body+1<=32)->Big (fun f=>pProg f p (tkFs l++[endT]) 0) (.ok (⟨p.globals,p.funcs++l.map zF⟩,[endT],0))
 | [],p,_=>by
   refine Big.step ?_
   refine Big.const.congr fun f=>?_
   rw [tkFs,List.nil_append,pProg,isK_c,if_pos (by rfl)]
   simp
 | g::l,p,h=>by
   obtain ⟨h1,h2⟩:=h g (List.mem_cons_self ..)
   have ih:=funcs_ok l ⟨p.globals,p.funcs++[zF g]⟩ (fun x hx=>h x (List.mem_cons_of_mem _ hx))
   refine Big.step ?_
   refine (Big.bind (G:=fun f g ts d=>pProg f ⟨p.globals,p.funcs++[g]⟩ ts d) (func_ok h1 (r:=tkFs l++[endT]) (d:=0) (by omega)) (by simpa using ih)).congr fun f=>?_
   rw [tkFs,List.append_assoc,pProg,show tkF g++(tkFs l++[endT])=kwd kFunc::(idt g.name::sym [40]::(tkPs g.params++sym [41]::sym [123]::(tkSs g.body++[sym [125]]))++(tkFs l++[endT])) from rfl,isK_c,if_neg (by decide),isT_kwd,if_neg (by decide)]
theorem prog_ok:∀ (l:List G) (m:List F) (p:Pg),(∀ g∈l,OkG g)->(∀ g∈m,OkF g/\nSs g.body+1<=32)->Big (fun f=>pProg f p (tkGs l++tkFs m++[endT]) 0) (.ok (⟨p.globals++l.map zG,p.funcs++m.map zF⟩,[endT],0))
 | [],m,p,_,hm=>by
   have:=funcs_ok m p hm
   simpa [tkGs] using this
 | g::l,m,p,h,hm=>by
   have h1:=h g (List.mem_cons_self ..)
   have ih:=prog_ok l m ⟨p.globals++[zG g],p.funcs⟩ (fun x hx=>h x (List.mem_cons_of_mem _ hx)) hm
   refine Big.step ?_
   refine Big.congr (x:=fun f=>pProg f ⟨p.globals++[zG g],p.funcs⟩ (tkGs l++tkFs m++[endT]) 0) (by simpa using ih) fun f=>?_
   have e:=global_ok h1 (tkGs l++tkFs m++[endT]) 0 (by decide)
   have e2:tkGs (g::l)++tkFs m++[endT]=tkG g++(tkGs l++tkFs m++[endT]):=by simp [tkGs]
   have e3:isK (tkG g++(tkGs l++tkFs m++[endT])) 0=false:=rfl
   have e4:isT (tkG g++(tkGs l++tkFs m++[endT])) [118,97,114]=true:=by
    unfold tkG;rw [List.cons_append,isT_kwd];rfl
   rw [e2,pProg,e3,if_neg (by simp),e4,if_pos (by rfl),e,bindR]
mutual
theorem zE_idem:∀ (e:E),zE (zE e)=zE e
 | .mk k o n v t a _=>by rw [zE,zE,zEs_idem a]
theorem zEs_idem:∀ (l:List E),zEs (zEs l)=zEs l
 | []=>rfl
 | e::l=>by rw [zEs,zEs,zE_idem e,zEs_idem l]
end
mutual
theorem zS_idem:∀ (e:S),zS (zS e)=zS e
 | .mk k n a b e _=>by rw [zS,zS,zEs_idem a,zSs_idem b,zSs_idem e]
theorem zSs_idem:∀ (l:List S),zSs (zSs l)=zSs l
 | []=>rfl
 | e::l=>by rw [zSs,zSs,zS_idem e,zSs_idem l]
end
theorem zP_idem (p:Pg):zP (zP p)=zP p:=by
 have h1:∀ g,zG (zG g)=zG g:=fun g=>rfl
 have h2:∀ g,zF (zF g)=zF g:=fun g=>by simp only [zF,zSs_idem]
 simp [zP,List.map_map,Function.comp_def,h1,h2]
def outR:R Pg->Except Nat Pg
 | .error e=> .error e.1
 | .ok (p,_,_)=> .ok (zP p)
theorem parse_big {s:Bytes} {us a:List Tok} (hs:scanS s= .ok us) (ha:us.map zT=a) {res:R Pg} (h:Big (fun f=>pProg f ⟨[],[]⟩ a 0) res):zX (parseS s)=outR res:=by
 subst ha
 have hfn:=(pProg_fn (20 * us.length+40) ⟨[],[]⟩ us 0 (by omega)).1
 obtain ⟨F,hF⟩:=h
 have h1:=pProg_z (20 * us.length+40) ⟨[],[]⟩ us 0
 have h2:=pProg_m (20 * us.length+40) (max F (20 * us.length+40)) ⟨[],[]⟩ (us.map zT) 0 (by omega)
 have h3:pProg (max F (20 * us.length+40)) ⟨[],[]⟩ (us.map zT) 0=res:=hF (max F (20 * us.length+40)) (by omega)
 rw [h3,show (⟨[],[]⟩:Pg)=zP ⟨[],[]⟩ from rfl,h1] at h2
 simp only [parseS,hs]
 cases e:pProg (20 * us.length+40) ⟨[],[]⟩ us 0 with
 | error x=>
   rw [e] at h2 hfn
   rcases h2 with ⟨i,h2⟩ | h2
   . exfalso
     injection h2 with h2
     have:x.1=0:=congrArg Prod.fst h2
     exact hfn x.2 (by rw [←this])
   . rw [←h2];rfl
 | ok x=>
   obtain ⟨p,ts,d⟩:=x
   rw [e] at h2
   rcases h2 with ⟨i,h2⟩ | h2
   . cases h2
   . rw [←h2]
     show Except.ok (zP p)=Except.ok (zP (zP p))
     rw [zP_idem]
end Go.Sx
namespace Go.Sx
def tabB:Nat->Bytes
 | 0=>[]
 | n+1=>9::tabB n
mutual
def prS (n:Nat):S->Bytes
 | .mk k nm args body els _=>
   if k=1 then kVar++32::(nm++(if args.isEmpty then [59] else 32::61::32::((prEs args).getD 0 []++[59])))
   else if k=2 then nm++32::61::32::((prEs args).getD 0 []++[59])
   else if k=3 then nm++91::((prEs args).getD 0 []++93::32::61::32::((prEs args).getD 1 []++[59]))
   else if k=4 then (prEs args).getD 0 []++[59]
   else if k=5 then kIf++32::40::((prEs args).getD 0 []++41::32::123::10::(prSs (n+1) body++(tabB n++125::(if els.isEmpty then [] else if chain els then 32::(kElse++32::(prSl n els).getD 0 []) else 32::(kElse++32::123::10::(prSs (n+1) els++(tabB n++[125])))))))
   else if k=6 then kWhile++32::40::((prEs args).getD 0 []++41::32::123::10::(prSs (n+1) body++(tabB n++[125])))
   else if k=7 then kRet++(if args.isEmpty then [59] else 32::((prEs args).getD 0 []++[59]))
   else if k=8 then kBrk++[59] else kCont++[59]
def prSs (n:Nat):List S->Bytes
 | []=>[]
 | s::l=>tabB n++(prS n s++10::prSs n l)
def prSl (n:Nat):List S->List Bytes
 | []=>[]
 | s::l=>prS n s::prSl n l
end
def elB (n:Nat) (c:List S):Bytes:=if c.isEmpty then [] else if chain c then 32::(kElse++32::(prSl n c).getD 0 []) else 32::(kElse++32::123::10::(prSs (n+1) c++(tabB n++[125])))
section
variable (n : Nat) (nm : Bytes) (e i : E) (es : List E) (b c : List S) (p q : Nat)
theorem ps_decl:prS n (.mk 1 nm [] [] [] p)=kVar++32::(nm++[59]):=by simp [prS]
theorem ps_decl1:prS n (.mk 1 nm [e] [] [] p)=kVar++32::(nm++32::61::32::(prE e++[59])):=by simp [prS,prEs]
theorem ps_asg:prS n (.mk 2 nm [e] [] [] p)=nm++32::61::32::(prE e++[59]):=by simp [prS,prEs]
theorem ps_sto:prS n (.mk 3 nm [i,e] [] [] p)=nm++91::(prE i++93::32::61::32::(prE e++[59])):=by simp [prS,prEs]
theorem ps_call:prS n (.mk 4 [] [.mk 5 [] nm 0 [] es q] [] [] p)=prE (.mk 5 [] nm 0 [] es q)++[59]:=by simp [prS,prEs]
theorem ps_if:prS n (.mk 5 [] [e] b c p)=kIf++32::40::(prE e++41::32::123::10::(prSs (n+1) b++(tabB n++125::elB n c))):=by simp [prS,prEs,elB]
theorem ps_while:prS n (.mk 6 [] [e] b [] p)=kWhile++32::40::(prE e++41::32::123::10::(prSs (n+1) b++(tabB n++[125]))):=by simp [prS,prEs]
theorem ps_ret:prS n (.mk 7 [] [] [] [] p)=kRet++[59]:=by simp [prS]
theorem ps_ret1:prS n (.mk 7 [] [e] [] [] p)=kRet++32::(prE e++[59]):=by simp [prS,prEs]
theorem ps_brk:prS n (.mk 8 [] [] [] [] p)=kBrk++[59]:=by simp [prS]
theorem ps_cont:prS n (.mk 9 [] [] [] [] p)=kCont++[59]:=by simp [prS]
end
theorem Lx.sp {x:Bytes} {a:List Tok} (h:Lx x a):Lx (32::x) a:=Lx.blank (.inl rfl) h
theorem Lx.nl {x:Bytes} {a:List Tok} (h:Lx x a):Lx (10::x) a:=Lx.blank (.inr (.inl rfl)) h
theorem Lx.tabs {x:Bytes} {a:List Tok} (h:Lx x a):∀ n,Lx (tabB n++x) a
 | 0=>h
 | n+1=>Lx.blank (.inr (.inr rfl)) (Lx.tabs h n)
theorem Lx.semi {x:Bytes} {a:List Tok} (h:Lx x a):Lx (59::x) (sym [59]::a):=Lx.solo (by simp) h
theorem Lx.eq {x:Bytes} {a:List Tok} (h:Lx x a):Lx (61::32::x) (sym [61]::a):=
 Lx.tok (w:=[61]) (x:=32::x) rfl rfl (Lx.sp h)
theorem Lx.kw {t x:Bytes} {a:List Tok} (ht:words.contains t=true) (hl:t.length<=32) (hc:∃ c l,t=c::l/\isLetter c=true) (ha:t.all isAl=true) (hs:stop x) (h:Lx x a):Lx (t++x) (kwd t::a):=by
 have:=Lx.word hl hc ha hs h
 rw [ht] at this
 exact this
theorem okF_semi (x:Bytes):okF (59::x):=⟨_,_,rfl,by simp⟩
theorem okF_par (x:Bytes):okF (41::x):=⟨_,_,rfl,by simp⟩
theorem okF_brk (x:Bytes):okF (93::x):=⟨_,_,rfl,by simp⟩
theorem stop_sp (x:Bytes):stop (32::x):=stop_c rfl
def LS (s:S):Prop:=∀ n x a,Lx x a->Lx (prS n s++x) (tkS s++a)
theorem lx_stmts {l:List S} (h:∀ s∈l,LS s) (n:Nat) {x:Bytes} {a:List Tok} (hx:Lx x a):Lx (prSs n l++x) (tkSs l++a):=by
 induction l with
 | nil=>exact hx
 | cons s l ih=>
   have:=h s (List.mem_cons_self ..) n (10::(prSs n l++x)) _ (Lx.nl (ih fun y hy=>h y (List.mem_cons_of_mem _ hy)))
   have:=Lx.tabs this n
   simpa [prSs,tkSs] using this
theorem lx_stmt {s:S} (h:OkS s):LS s:=by
 induction h with
 | @decl nm p hn=>
   intro n x a hx
   rw [ps_decl,ts_decl]
   have:=Lx.kw (t:=kVar) rfl (by decide) ⟨_,_,rfl,rfl⟩ rfl (stop_sp _) (Lx.sp (Lx.name hn (stop_c rfl) (Lx.semi hx)))
   simpa using this
 | @decl1 nm e p hn he=>
   intro n x a hx
   rw [ps_decl1,ts_decl1]
   have h1:=lx_expr he _ _ (okF_semi x) (Lx.semi hx)
   have:=Lx.kw (t:=kVar) rfl (by decide) ⟨_,_,rfl,rfl⟩ rfl (stop_sp _) (Lx.sp (Lx.name hn (stop_sp _) (Lx.sp (Lx.eq h1))))
   simpa using this
 | @asg nm e p hn he=>
   intro n x a hx
   rw [ps_asg,ts_asg]
   have h1:=lx_expr he _ _ (okF_semi x) (Lx.semi hx)
   have:=Lx.name hn (stop_sp _) (Lx.sp (Lx.eq h1))
   simpa using this
 | @sto nm i e p hn hi he=>
   intro n x a hx
   rw [ps_sto,ts_sto]
   have h1:=lx_expr he _ _ (okF_semi x) (Lx.semi hx)
   have h2:=lx_expr hi _ _ (okF_brk _) (Lx.solo (c:=93) (by simp) (Lx.sp (Lx.eq h1)))
   have:=Lx.name hn (stop_c rfl) (Lx.solo (c:=91) (by simp) h2)
   simpa using this
 | @call nm es p q hn hes=>
   intro n x a hx
   rw [ps_call]
   have:=lx_expr (OkE.call (p:=q) hn hes) _ _ (okF_semi x) (Lx.semi hx)
   have e:tkS (.mk 4 [] [.mk 5 [] nm 0 [] es q] [] [] p)=tkE (.mk 5 [] nm 0 [] es q)++[sym [59]]:=by simp [tkS,tkEs]
   rw [e]
   simpa using this
 | @ifs e b c p he hb hc ihb ihc=>
   intro n x a hx
   rw [ps_if,ts_if]
   have h0:Lx (elB n c++x) (elT c++a):=by
    cases c with
    | nil=>exact hx
    | cons s0 c0=>
      cases hch:chain (s0::c0) with
      | true=>
        cases c0 with
        | cons _ _=>cases hch
        | nil=>
          have e1:elT [s0]++a=kwd kElse::(tkS s0++a):=by simp [elT,hch,tkSs]
          have e2:elB n [s0]++x=32::(kElse++32::(prS n s0++x)):=by simp [elB,hch,prSl]
          rw [e1,e2]
          exact Lx.sp (Lx.kw (t:=kElse) rfl (by decide) ⟨_,_,rfl,rfl⟩ rfl (stop_sp _) (Lx.sp (ihc s0 (List.mem_cons_self ..) n x a hx)))
      | false=>
        have e1:elT (s0::c0)++a=kwd kElse::sym [123]::(tkSs (s0::c0)++sym [125]::a):=by simp [elT,hch]
        have e2:elB n (s0::c0)++x=32::(kElse++32::123::10::(prSs (n+1) (s0::c0)++(tabB n++125::x))):=by simp [elB,hch]
        rw [e1,e2]
        exact Lx.sp (Lx.kw (t:=kElse) rfl (by decide) ⟨_,_,rfl,rfl⟩ rfl (stop_sp _) (Lx.sp (Lx.solo (c:=123) (by simp) (Lx.nl (lx_stmts ihc (n+1) (Lx.tabs (Lx.solo (c:=125) (by simp) hx) n))))))
   have h1:=lx_stmts ihb (n+1) (Lx.tabs (Lx.solo (c:=125) (by simp) h0) n)
   have h2:=lx_expr he _ _ (okF_par _) (Lx.solo (c:=41) (by simp) (Lx.sp (Lx.solo (c:=123) (by simp) (Lx.nl h1))))
   have:=Lx.kw (t:=kIf) rfl (by decide) ⟨_,_,rfl,rfl⟩ rfl (stop_sp _) (Lx.sp (Lx.solo (c:=40) (by simp) h2))
   simpa using this
 | @whl e b p he hb ihb=>
   intro n x a hx
   rw [ps_while,ts_while]
   have h1:=lx_stmts ihb (n+1) (Lx.tabs (Lx.solo (c:=125) (by simp) hx) n)
   have h2:=lx_expr he _ _ (okF_par _) (Lx.solo (c:=41) (by simp) (Lx.sp (Lx.solo (c:=123) (by simp) (Lx.nl h1))))
   have:=Lx.kw (t:=kWhile) rfl (by decide) ⟨_,_,rfl,rfl⟩ rfl (stop_sp _) (Lx.sp (Lx.solo (c:=40) (by simp) h2))
   simpa using this
 | @ret p=>
   intro n x a hx
   rw [ps_ret,ts_ret]
   simpa using Lx.kw (t:=kRet) rfl (by decide) ⟨_,_,rfl,rfl⟩ rfl (stop_c rfl) (Lx.semi hx)
 | @ret1 e p he=>
   intro n x a hx
   rw [ps_ret1,ts_ret1]
   simpa using Lx.kw (t:=kRet) rfl (by decide) ⟨_,_,rfl,rfl⟩ rfl (stop_sp _) (Lx.sp (lx_expr he _ _ (okF_semi x) (Lx.semi hx)))
 | @brk p=>
   intro n x a hx
   rw [ps_brk,ts_brk]
   simpa using Lx.kw (t:=kBrk) rfl (by decide) ⟨_,_,rfl,rfl⟩ rfl (stop_c rfl) (Lx.semi hx)
 | @cont p=>
   intro n x a hx
   rw [ps_cont,ts_cont]
   simpa using Lx.kw (t:=kCont) rfl (by decide) ⟨_,_,rfl,rfl⟩ rfl (stop_c rfl) (Lx.semi hx)
def prG (g:G):Bytes:=kVar++32::(g.name++((if g.size≠0 then 91::(digs g.size++[93]) else if g.value≠0 then 32::61::32::digs g.value else [])++[59,10]))
def prF (f:F):Bytes:=kFunc++32::(f.name++40::(commaB f.params++41::32::123::10::(prSs 1 f.body++[125,10])))
def prGs:List G->Bytes
 | []=>[]
 | g::l=>prG g++prGs l
def prFs:List F->Bytes
 | []=>[]
 | g::l=>prF g++prFs l
def prP (p:Pg):Bytes:=prGs p.globals++prFs p.funcs
theorem lx_global {g:G} (h:OkG g) {x:Bytes} {a:List Tok} (hx:Lx x a):Lx (prG g++x) (tkG g++a):=by
 unfold prG tkG
 have h0:=Lx.semi (Lx.nl hx)
 by_cases hs:g.size≠0
 . rw [if_pos hs,if_pos hs]
   have h1:=Lx.num h.sz (stop_c rfl) (Lx.solo (c:=93) (by simp) h0)
   have:=Lx.kw (t:=kVar) rfl (by decide) ⟨_,_,rfl,rfl⟩ rfl (stop_sp _) (Lx.sp (Lx.name h.nm (stop_c rfl) (Lx.solo (c:=91) (by simp) h1)))
   simpa using this
 . rw [if_neg hs,if_neg hs]
   by_cases hv:g.value≠0
   . rw [if_pos hv,if_pos hv]
     have h1:=Lx.num h.vl (stop_c rfl) h0
     have:=Lx.kw (t:=kVar) rfl (by decide) ⟨_,_,rfl,rfl⟩ rfl (stop_sp _) (Lx.sp (Lx.name h.nm (stop_sp _) (Lx.sp (Lx.eq h1))))
     simpa using this
   . rw [if_neg hv,if_neg hv]
     have:=Lx.kw (t:=kVar) rfl (by decide) ⟨_,_,rfl,rfl⟩ rfl (stop_sp _) (Lx.sp (Lx.name h.nm (stop_c rfl) h0))
     simpa using this
theorem lx_more {l:List Bytes} (h:∀ p∈l,nameOk p) {x:Bytes} {a:List Tok} (hs:stop x) (hx:Lx x a):Lx (moreB l++x) (morePs l++a)/\stop (moreB l++x):=by
 induction l with
 | nil=>exact ⟨hx,hs⟩
 | cons p l ih=>
   obtain ⟨i1,i2⟩:=ih fun y hy=>h y (List.mem_cons_of_mem _ hy)
   refine ⟨?_,?_⟩
   . have:=Lx.solo (c:=44) (by simp) (Lx.sp (Lx.name (h p (List.mem_cons_self ..)) i2 i1))
     simpa [moreB,morePs] using this
   . rw [moreB,List.cons_append];exact stop_c rfl
theorem lx_params {l:List Bytes} (h:∀ p∈l,nameOk p) {x:Bytes} {a:List Tok} (hs:stop x) (hx:Lx x a):Lx (commaB l++x) (tkPs l++a):=by
 cases l with
 | nil=>exact hx
 | cons p l=>
   obtain ⟨i1,i2⟩:=lx_more (fun y hy=>h y (List.mem_cons_of_mem _ hy)) hs hx
   have:=Lx.name (h p (List.mem_cons_self ..)) i2 i1
   simpa [commaB,tkPs] using this
theorem lx_func {f:F} (h:OkF f) {x:Bytes} {a:List Tok} (hx:Lx x a):Lx (prF f++x) (tkF f++a):=by
 unfold prF tkF
 have h1:=lx_stmts (l:=f.body) (fun s hs=>lx_stmt (h.body s hs)) 1 (Lx.solo (c:=125) (by simp) (Lx.nl hx))
 have h2:=lx_params h.ps (stop_c rfl) (Lx.solo (c:=41) (by simp) (Lx.sp (Lx.solo (c:=123) (by simp) (Lx.nl h1))))
 have:=Lx.kw (t:=kFunc) rfl (by decide) ⟨_,_,rfl,rfl⟩ rfl (stop_sp _) (Lx.sp (Lx.name h.nm (stop_c rfl) (Lx.solo (c:=40) (by simp) h2)))
 simpa using this
theorem lx_prog {p:Pg} (hg:∀ g∈p.globals,OkG g) (hf:∀ f∈p.funcs,OkF f):Lx (prP p) (tkP p):=by
 have h1:∀ l:List F,(∀ f∈l,OkF f)->Lx (prFs l) (tkFs l):=by
  intro l
  induction l with
  | nil=>exact fun _=>Lx.nil
  | cons f l ih=>exact fun h=>lx_func (h f (List.mem_cons_self ..)) (ih fun y hy=>h y (List.mem_cons_of_mem _ hy))
 have h2:∀ l:List G,(∀ f∈l,OkG f)->Lx (prGs l++prFs p.funcs) (tkGs l++tkFs p.funcs):=by
  intro l
  induction l with
  | nil=>exact fun _=>h1 _ hf
  | cons g l ih=>
    intro h
    have:=lx_global (h g (List.mem_cons_self ..)) (ih fun y hy=>h y (List.mem_cons_of_mem _ hy))
    simpa [prGs,tkGs] using this
 exact h2 _ hg
end Go.Sx
namespace Go.Proofs.D
open Go Go.Den Go.Sx Go.Shelf
set_option maxRecDepth 100000
def layJ_ren:Go.Shelf.Ren:=⟨fun | 156=>81 | 165=>127 | 166=>123 | 169=>83 | 240=>156 | 241=>160 | 276=>177 | 277=>184 | n=>n,fun | 31=>51 | 9=>9 | 3=>3 | 4=>4 | 0=>0 | 20=>20 | 72=>151 | 76=>198 | 70=>149 | 37=>45 | 75=>197 | 127=>204 | 164=>237 | 5=>5 | 80=>156 | n=>n,fun | n=>n⟩
theorem layJ:Go.Proofs.Lays.n156 Tryz.prog layJ_ren where
 mixed:=by kernel_rfl
 f156:=Tryz.func81.trans (congrArg some (by kernel_rfl))
 f165:=Tryz.func127.trans (congrArg some (by kernel_rfl))
 f166:=Tryz.func123.trans (congrArg some (by kernel_rfl))
 f169:=Tryz.func83.trans (congrArg some (by kernel_rfl))
 f240:=Tryz.func156.trans (congrArg some (by kernel_rfl))
 f241:=Tryz.func160.trans (congrArg some (by kernel_rfl))
 f276:=Tryz.func177.trans (congrArg some (by kernel_rfl))
 f277:=Tryz.func184.trans (congrArg some (by kernel_rfl))
 t0:=Tryz.underlying0
 a0:=Tryz.isAgg0
 z0:=Tryz.sizeOf0
 v0:=Tryz.zeroValue0
 t3:=Tryz.underlying3
 a3:=Tryz.isAgg3
 z3:=Tryz.sizeOf3
 v3:=Tryz.zeroValue3
 t4:=Tryz.underlying4
 a4:=Tryz.isAgg4
 z4:=Tryz.sizeOf4
 v4:=Tryz.zeroValue4
 t9:=Tryz.underlying9
 a9:=Tryz.isAgg9
 z9:=Tryz.sizeOf9
 v9:=Tryz.zeroValue9
 t20:=Tryz.underlying20
 a20:=Tryz.isAgg20
 z20:=Tryz.sizeOf20
 v20:=Tryz.zeroValue20
 t31:=Tryz.underlying51
 a31:=Tryz.isAgg51
 z31:=Tryz.sizeOf51
 v31:=Tryz.zeroValue51
 t37:=Tryz.underlying45
 a37:=Tryz.isAgg45
 z37:=Tryz.sizeOf45
 v37:=Tryz.zeroValue45
 t70:=Tryz.underlying149
 a70:=Tryz.isAgg149
 z70:=Tryz.sizeOf149
 v70:=Tryz.zeroValue149
 t72:=Tryz.underlying151
 a72:=Tryz.isAgg151
 z72:=Tryz.sizeOf151
 v72:=Tryz.zeroValue151
 t75:=Tryz.underlying197
 a75:=Tryz.isAgg197
 z75:=Tryz.sizeOf197
 v75:=Tryz.zeroValue197
 t76:=Tryz.underlying198
 a76:=Tryz.isAgg198
 z76:=Tryz.sizeOf198
 v76:=Tryz.zeroValue198
 t127:=Tryz.underlying204
 a127:=Tryz.isAgg204
 z127:=Tryz.sizeOf204
 v127:=Tryz.zeroValue204
 t164:=Tryz.underlying237
 a164:=Tryz.isAgg237
 z164:=Tryz.sizeOf237
 v164:=Tryz.zeroValue237
theorem exJ:Go.Proofs.Builder.Extra Tryz.prog layJ_ren where
 sizeBuilder:=by kernel_rfl
 liesBuilder:=by kernel_rfl
 t5:=Tryz.underlying5
 a5:=Tryz.isAgg5
 z5:=Tryz.sizeOf5
 v5:=Tryz.zeroValue5
 infoByte:=by kernel_rfl
 cellsByte:=by kernel_rfl
 sizeByte:=by kernel_rfl
 neB5:=by decide
def layI_ren:Go.Shelf.Ren:=⟨fun | 171=>80 | 243=>126 | 246=>159 | 283=>180 | 284=>181 | 285=>182 | 286=>183 | 129=>196 | 317=>195 | 318=>197 | 319=>198 | 320=>199 | 337=>203 | 338=>204 | n=>n,fun | 3=>3 | 9=>9 | 2=>2 | 4=>4 | 171=>245 | 0=>0 | 53=>242 | 37=>45 | 5=>5 | 173=>248 | 212=>262 | 51=>239 | 20=>20 | 213=>263 | 46=>221 | 232=>268 | 233=>269 | n=>n,fun | 17=>0 | 18=>3 | 19=>4 | n=>n⟩
theorem layI:Go.Proofs.LaysM.n171 Tryz.prog layI_ren where
 mixed:=by kernel_rfl
 f129:=Tryz.func196.trans (congrArg some (by kernel_rfl))
 f171:=Tryz.func80.trans (congrArg some (by kernel_rfl))
 f243:=Tryz.func126.trans (congrArg some (by kernel_rfl))
 f246:=Tryz.func159.trans (congrArg some (by kernel_rfl))
 f283:=Tryz.func180.trans (congrArg some (by kernel_rfl))
 f284:=Tryz.func181.trans (congrArg some (by kernel_rfl))
 f285:=Tryz.func182.trans (congrArg some (by kernel_rfl))
 f286:=Tryz.func183.trans (congrArg some (by kernel_rfl))
 f317:=Tryz.func195.trans (congrArg some (by kernel_rfl))
 f318:=Tryz.func197.trans (congrArg some (by kernel_rfl))
 f319:=Tryz.func198.trans (congrArg some (by kernel_rfl))
 f320:=Tryz.func199.trans (congrArg some (by kernel_rfl))
 f337:=Tryz.func203.trans (congrArg some (by kernel_rfl))
 f338:=Tryz.func204.trans (congrArg some (by kernel_rfl))
 t0:=Tryz.underlying0
 a0:=Tryz.isAgg0
 z0:=Tryz.sizeOf0
 v0:=Tryz.zeroValue0
 t2:=Tryz.underlying2
 a2:=Tryz.isAgg2
 z2:=Tryz.sizeOf2
 v2:=Tryz.zeroValue2
 t3:=Tryz.underlying3
 a3:=Tryz.isAgg3
 z3:=Tryz.sizeOf3
 v3:=Tryz.zeroValue3
 t4:=Tryz.underlying4
 a4:=Tryz.isAgg4
 z4:=Tryz.sizeOf4
 v4:=Tryz.zeroValue4
 t5:=Tryz.underlying5
 a5:=Tryz.isAgg5
 z5:=Tryz.sizeOf5
 v5:=Tryz.zeroValue5
 t9:=Tryz.underlying9
 a9:=Tryz.isAgg9
 z9:=Tryz.sizeOf9
 v9:=Tryz.zeroValue9
 t20:=Tryz.underlying20
 a20:=Tryz.isAgg20
 z20:=Tryz.sizeOf20
 v20:=Tryz.zeroValue20
 t37:=Tryz.underlying45
 a37:=Tryz.isAgg45
 z37:=Tryz.sizeOf45
 v37:=Tryz.zeroValue45
 t46:=Tryz.underlying221
 a46:=Tryz.isAgg221
 z46:=Tryz.sizeOf221
 v46:=Tryz.zeroValue221
 t51:=Tryz.underlying239
 a51:=Tryz.isAgg239
 z51:=Tryz.sizeOf239
 v51:=Tryz.zeroValue239
 t53:=Tryz.underlying242
 a53:=Tryz.isAgg242
 z53:=Tryz.sizeOf242
 v53:=Tryz.zeroValue242
 t171:=Tryz.underlying245
 a171:=Tryz.isAgg245
 z171:=Tryz.sizeOf245
 v171:=Tryz.zeroValue245
 t173:=Tryz.underlying248
 a173:=Tryz.isAgg248
 z173:=Tryz.sizeOf248
 v173:=Tryz.zeroValue248
 t212:=Tryz.underlying262
 a212:=Tryz.isAgg262
 z212:=Tryz.sizeOf262
 v212:=Tryz.zeroValue262
 t213:=Tryz.underlying263
 a213:=Tryz.isAgg263
 z213:=Tryz.sizeOf263
 t232:=Tryz.underlying268
 a232:=Tryz.isAgg268
 z232:=Tryz.sizeOf268
 v232:=Tryz.zeroValue268
 t233:=Tryz.underlying269
 a233:=Tryz.isAgg269
 z233:=Tryz.sizeOf269
 v233:=Tryz.zeroValue269
 g17:=by kernel_rfl
 g18:=by kernel_rfl
 g19:=by kernel_rfl
 i0:=by kernel_rfl
 i2:=by kernel_rfl
 i3:=by kernel_rfl
 i4:=by kernel_rfl
 i5:=by kernel_rfl
 i9:=by kernel_rfl
 i20:=by kernel_rfl
 i37:=by kernel_rfl
 i46:=by kernel_rfl
 i51:=by kernel_rfl
 i53:=by kernel_rfl
 i171:=by kernel_rfl
 i173:=by kernel_rfl
 i212:=by kernel_rfl
 i232:=by kernel_rfl
 i233:=by kernel_rfl
 m17:=by kernel_rfl
 m18:=by kernel_rfl
 m19:=by kernel_rfl
theorem tri_calls {f:FuncId} {fn:Func} {c:Code} {args:List Value} {h:PHeap} {Q:Value->Prop} (hf:Tryz.prog.funcs[f]? =some fn) (hname:(fn.name == "runtime.NumGoroutine")=false) (hb:fn.body=some c)
 (H:∀ w,Sub w h->Calls Tryz.prog f args.toArray w fun e w'=>∃ v,e= .returned v/\Q v/\RowKit.Below w.heap.size w w'):Tri Tryz.prog f args h fun v h'=>Q v/\h'=h:=by
 intro w hs
 unfold CallR
 rw [enters_of hf hname hb]
 refine Calls.mono (H w hs) ?_
 rintro e w' ⟨v,rfl,hq,hb⟩
 refine ⟨h,⟨hq,rfl⟩,fun k o hk=>?_,hb.os,hb.tape,hb.output,hb.size,fun k hk hn=>⟨hn,hb.block k hk⟩⟩
 have:=hs k o hk
 rw [hb.block k (Array.getElem?_eq_some_iff.1 this).1]
 exact this
theorem digs_eq (n:Nat):Lib.decDigits n=digs n:=by
 induction n using Nat.strongRecOn with
 | ind n ih=>
   rw [Lib.decDigits,digs]
   split
   . rfl
   . rw [ih (n / 10) (by omega)]
theorem joinTail_more:∀ (l:List Bytes),Lib.joinTail [44,32] l=moreB l
 | []=>rfl
 | x::l=>by
   have:=joinTail_more l
   unfold Lib.joinTail at this ⊢
   rw [List.map_cons,List.flatten_cons,this];rfl
theorem join_comma (l:List Bytes):Lib.join l [44,32]=commaB l:=by
 cases l with
 | nil=>rfl
 | cons x l=>rw [Lib.join_cons,joinTail_more];rfl
def PowTab (h:PHeap):Prop:=∃ t z,h 0=some (.cells ⟨Lib.pow10Tab.map fun z=>Value.int .u64 z⟩ t z)
theorem PowTab.ext {h h':PHeap} (x:Ext h h') (hp:PowTab h):PowTab h':=by
 obtain ⟨t,z,hp⟩:=hp
 exact ⟨t,z,x _ _ hp⟩
theorem itoa_t2 (v:Nat) (hv:v<=9223372036854775807) {h:PHeap} (hp:PowTab h):Tri Tryz.prog 80 [vI v] h fun r h'=>r=vS (digs v)/\h'=h:=by
 refine tri_calls Tryz.func80 (by kernel_rfl) rfl fun w hs=>?_
 obtain ⟨t,z,hp⟩:=hp
 have htab:Lib.TabIs Tryz.prog w "internal/strconv.uint64pow10" .u64 Lib.pow10Tab:=by
  unfold Lib.TabIs World.var?
  rw [show Tryz.prog.globalNamed "internal/strconv.uint64pow10"=some 0 by kernel_rfl]
  simp only [Option.bind_some]
  rw [hs _ _ hp]
 refine Calls.mono (Any.strconv_Itoa layI (v:Int) (by omega) (by omega) w htab) ?_
 rintro e w' ⟨rfl,k,os,rfl⟩
 refine ⟨_,rfl,?_,Lib.below_grow _ w (Nat.le_refl _) k os⟩
 have:Lib.itoa (v:Int)=digs v:=by
  unfold Lib.itoa
  rw [if_neg (by omega),Int.toNat_natCast,digs_eq]
 rw [this]
theorem join_t {h:PHeap} {a:Option Addr} {L:List Bytes} {c:Nat} (hs:StrAt h a L) (hc:L.length<=c) (hN:L.length<=1000000) (hl:(commaB L).length<=10000000) (hb:∀ b o,a=ad b o->L≠[]->h b≠none):
 Tri Tryz.prog 81 [vL a L.length c,vS [44,32]] h fun r h'=>r=vS (commaB L)/\h'=h:=by
 refine tri_calls Tryz.func81 (by kernel_rfl) rfl fun w hsub=>?_
 have hmap:(L.map fun l=>(⟨⟨l⟩⟩:ByteArray)).map (fun x=>x.data.toList)=L:=by
  rw [List.map_map]
  exact List.map_id'' (fun _=>rfl) L
 rcases hs with rfl | ⟨b,o,rfl,hc2⟩
 . refine Calls.mono (Any.strings_Join_none layJ exJ a c ⟨⟨[44,32]⟩⟩ w) ?_
   rintro e w' ⟨rfl,rfl⟩
   exact ⟨_,rfl,rfl,RowKit.Below.refl _ _⟩
 . by_cases hn:L=[]
   . subst hn
     refine Calls.mono (Any.strings_Join_none layJ exJ (ad b o) c ⟨⟨[44,32]⟩⟩ w) ?_
     rintro e w' ⟨rfl,rfl⟩
     exact ⟨_,rfl,rfl,RowKit.Below.refl _ _⟩
   have hbl:b < w.heap.size:=by
    cases hh:h b with
    | none=>exact absurd hh (hb b o rfl hn)
    | some ob=>exact (Array.getElem?_eq_some_iff.1 (hsub _ _ hh)).1
   have:=Any.strings_Join layJ exJ b o c (L.map fun l=>(⟨⟨l⟩⟩:ByteArray)) ⟨⟨[44,32]⟩⟩ w (fun j x hj=>by
    rw [List.getElem?_map] at hj
    cases hL:L[j]? with
    | none=>rw [hL] at hj;cases hj
    | some l=>
      rw [hL] at hj
      have hj:(⟨⟨l⟩⟩:ByteArray)=x:=by simpa using hj
      subst hj
      exact hsub.cell (hc2 j l hL)) hbl (by rw [List.length_map];omega) (by rw [List.length_map];exact hc) (by rw [hmap];show (Lib.join L [44,32]).length<=_;rw [join_comma];omega)
   rw [hmap,List.length_map] at this
   refine Calls.mono this ?_
   rintro e w' ⟨rfl,hbe⟩
   refine ⟨_,rfl,?_,hbe⟩
   show vS (Lib.join L [44,32])=vS (commaB L)
   rw [join_comma]
end Go.Proofs.D
namespace Go.Proofs.D
open Go Go.Den
noncomputable section
set_option maxRecDepth 100000
set_option maxHeartbeats 4000000
abbrev dzk1:List CK:=[qi, .str, .str,qi, .str, .slice,qi,qi]
def d22:DCode:=up ⟨[(7, .l dzk1),(8, .c (.one false [.bool])),(10, .l dzk1),(11, .c (.one false [.str]))],[],[]⟩ (lw (fun d=>Nat.beq d 5) Tryz.f22)
theorem low22:lw (fun d=>Nat.beq d 5) Tryz.f22=some (eC d22):=by kernel_rfl
def R22 (i1:Int) (l1 l2:Bs) (i2:Int) (l3:Bs) (a1:OA) (n1 dzk1:Nat) (i3 i4:Int) (h:PHeap) (Q:Value->PHeap->Prop):Prop:=
 alc h [vI 4096] 129 fun b1 h_1=>
 tp 66 [vP b1 0,vA [vI i1,vS l1,vS l2,vI i2,vS l3,vL a1 n1 dzk1,vI i3,vI i4]] h_1 fun v_1 h_2=>
 ∃ c1,v_1=vB c1/\
 br (!c1)
 (Q (vS []) h_2)
 (tp 67 [vA [vI i1,vS l1,vS l2,vI i2,vS l3,vL a1 n1 dzk1,vI i3,vI i4]] h_2 fun v_2 h_3=>
 ∃ l4,v_2=vS l4/\
 Q (vS l4) h_3)
theorem T22 {i1 l1 l2 i2 l3 a1 n1 dzk1 i3 i4 h Q} (hR:R22 i1 l1 l2 i2 l3 a1 n1 dzk1 i3 i4 h Q):Tri Tryz.prog 22 [vA [vI i1,vS l1,vS l2,vI i2,vS l3,vL a1 n1 dzk1,vI i3,vI i4]] h Q:=
 tri_of_dn mixed Tryz.func22 rfl (by kernel_rfl) low22 (rs:=[.tmp 2]) (by kernel_rfl) rfl (Eq.mpr (by kernel_rfl) hR)
abbrev o67_1:Op:= .call { callee:=(.builtin .append),args:=#[(.tmp 18),(.tmp 21)],argTypes:=#[51,51] }
def d67:DCode:=up ⟨[(12, .l [.slice]),(17, .l dzk1),(19, .l dzk1),(20, .c (.one false [.str])),(22, .c (.one false [.slice])),(25, .l [qi]),(29, .l [qi]),(30, .c (.one false [.str])),(35, .l [.str]),(36, .c (.tup [(false,[.str]),(false,[qi])])),(43, .l [.str]),(47, .l [.str]),(53, .l [.str]),(56, .c (.one false [.str])),(62, .l [.str]),(65, .l [.str]),(67, .l [.slice]),(70, .l [qi]),(72, .c (.one false [.str])),(77, .l [.str]),(78, .c (.one false [qi])),(81, .l [.str]),(83, .l [.slice]),(86, .l [qi]),(90, .l [.slice]),(93, .l [.str]),(94, .c (.one false [qi])),(98, .c (.one false [.str])),(101, .l [.str]),(103, .l [.slice]),(106, .l [qi]),(110, .l [.slice]),(113, .l [.str]),(114, .c (.one false [qi])),(118, .c (.one false [.str])),(122, .l [.str]),(128, .l [.str])],[],[(15,12,[(3, .slice),(14,qi)],[])]⟩ (lw nf Tryz.f67)
theorem low67:lw nf Tryz.f67=some (eC d67):=by kernel_rfl
abbrev K67_1 (a1:OA) (n1 dzk1:Nat) (a2:OA) (n2:Nat) (h_11:PHeap) (i12:Int) (l16 l1:Bs) (Q:Value->PHeap->Prop):Prop:=
 (tv [vL a1 n1 dzk1])/\
 slt a2 (1:Int) n2 fun b9 o8=>
 ∃ l17,h_11.cell b9 (o8+1)=some (vS l17)/\
 slt a1 (1:Int) n1 fun b10 o9=>
 ∃ i15,h_11.cell b10 (o9+8)=some (vI i15)/\
 br (i15 == 7)
 (slt a1 (1:Int) n1 fun b11 o10=>
 ∃ l18,h_11.cell b11 (o10+9)=some (vS l18)/\
 tp 26 [vS l18] h_11 fun v_10 h_12=>
 ∃ i16,v_10=vI i16/\
 (tv [vL a1 n1 dzk1])/\
 (h_12.cell b10 (o9+8)=some (vI i15))/\
 (tv [vL a1 n1 dzk1])/\
 (h_12.cell b9 (o8+1)=some (vS l17))/\
 tp 110 [vS l17,vB (decide (i16<=i12))] h_12 fun v_11 h_13=>
 ∃ l19,v_11=vS l19/\
 (tv [vL a1 n1 dzk1])/\
 (h_13.cell b10 (o9+8)=some (vI i15))/\
 (tv [vL a1 n1 dzk1])/\
 l16.length+([32]:Bs).length<=9223372036854775807/\
 (l16++([32]:Bs)).length+l1.length<=9223372036854775807/\
 ((l16++([32]:Bs))++l1).length+([32]:Bs).length<=9223372036854775807/\
 (((l16++([32]:Bs))++l1)++([32]:Bs)).length+l19.length<=9223372036854775807/\
 Q (vS ((((l16++([32]:Bs))++l1)++([32]:Bs))++l19)) h_13)
 ((h_11.cell b10 (o9+8)=some (vI i15))/\
 (tv [vL a1 n1 dzk1])/\
 (h_11.cell b9 (o8+1)=some (vS l17))/\
 tp 110 [vS l17,vB false] h_11 fun v_12 h_14=>
 ∃ l20,v_12=vS l20/\
 (h_14.cell b10 (o9+8)=some (vI i15))/\
 (tv [vL a1 n1 dzk1])/\
 l16.length+([32]:Bs).length<=9223372036854775807/\
 (l16++([32]:Bs)).length+l1.length<=9223372036854775807/\
 ((l16++([32]:Bs))++l1).length+([32]:Bs).length<=9223372036854775807/\
 (((l16++([32]:Bs))++l1)++([32]:Bs)).length+l20.length<=9223372036854775807/\
 Q (vS ((((l16++([32]:Bs))++l1)++([32]:Bs))++l20)) h_14)
def R67 (i1:Int) (l1 l2:Bs) (i2:Int) (l3:Bs) (a1:OA) (n1 dzk1:Nat) (i3 i4:Int) (h:PHeap) (Q:Value->PHeap->Prop):Prop:=
 ∃ (I_1:Nat->OA->Nat->Nat->Int->PHeap->Prop),(∃ m2,I_1 m2 none 0 0 0 h)/\
 ∀ m1 a2 n2 k2 i5 h_1,I_1 m1 a2 n2 k2 i5 h_1->
 br (decide (i5 < (n1:Int)))
 (slt a1 i5 n1 fun b1 o1=>
 ∃ i6 l4 l5 i7 l6 a3 n3 k3 i8 i9,h_1.row b1 (o1+(i5).toNat * 8) [vI i6,vS l4,vS l5,vI i7,vS l6,vL a3 n3 k3,vI i8,vI i9]/\
 tp 67 [vA [vI i6,vS l4,vS l5,vI i7,vS l6,vL a3 n3 k3,vI i8,vI i9]] h_1 fun v_1 h_2=>
 ∃ l7,v_1=vS l7/\
 alc h_2 [vS l7] 9 fun b2 h_3=>
 rq [(18,vL a2 n2 k2),(21,vL (ad b2 0) 1 1)] o67_1 51 h_3 fun v_2 h_4=>
 ∃ a4 n4 k4,v_2=vL a4 n4 k4/\
 ∃ m3,m3 < m1/\I_1 m3 a4 n4 k4 (IntKind.i64.wrap (i5+1)) h_4/\
 tv [vI i1,vS l1,vS l2,vI i2,vS l3,vL a1 n1 dzk1,vI i3,vI i4]/\True)
 (br (i1 == 1)
 (tp 80 [vI i2] h_1 fun v_3 h_5=>
 ∃ l8,v_3=vS l8/\
 Q (vS l8) h_5)
 (br (i1 == 2)
 (tp 109 [vS l3] h_1 fun v_4 h_6=>
 ∃ l9 i10,v_4=vT [vS l9,vI i10]/\
 Q (vS l9) h_6)
 (br (i1 == 4)
 (l2.length+([91]:Bs).length<=9223372036854775807/\
 slt a2 (0:Int) n2 fun b3 o2=>
 ∃ l10,h_1.cell b3 o2=some (vS l10)/\
 (l2++([91]:Bs)).length+l10.length<=9223372036854775807/\
 ((l2++([91]:Bs))++l10).length+([93]:Bs).length<=9223372036854775807/\
 Q (vS (((l2++([91]:Bs))++l10)++([93]:Bs))) h_1)
 (br (i1 == 5)
 (l2.length+([40]:Bs).length<=9223372036854775807/\
 tp 81 [vL a2 n2 k2,vS [44,32]] h_1 fun v_5 h_7=>
 ∃ l11,v_5=vS l11/\
 (tv [vS l2])/\
 (l2++([40]:Bs)).length+l11.length<=9223372036854775807/\
 ((l2++([40]:Bs))++l11).length+([41]:Bs).length<=9223372036854775807/\
 Q (vS (((l2++([40]:Bs))++l11)++([41]:Bs))) h_7)
 (br (i1 == 6)
 (slt a2 (0:Int) n2 fun b4 o3=>
 ∃ l12,h_1.cell b4 o3=some (vS l12)/\
 slt a1 (0:Int) n1 fun b5 o4=>
 ∃ i11,h_1.cell b5 o4=some (vI i11)/\
 tp 110 [vS l12,vB (i11 == 7)] h_1 fun v_6 h_8=>
 ∃ l13,v_6=vS l13/\
 (h_8.cell b5 o4=some (vI i11))/\
 (tv [vL a1 n1 dzk1])/\
 (tv [vS l1])/\
 l1.length+l13.length<=9223372036854775807/\
 Q (vS (l1++l13)) h_8)
 (br (i1 == 7)
 (tp 26 [vS l1] h_1 fun v_7 h_9=>
 ∃ i12,v_7=vI i12/\
 slt a2 (0:Int) n2 fun b6 o5=>
 ∃ l14,h_9.cell b6 o5=some (vS l14)/\
 slt a1 (0:Int) n1 fun b7 o6=>
 ∃ i13,h_9.cell b7 o6=some (vI i13)/\
 br (i13 == 7)
 (slt a1 (0:Int) n1 fun b8 o7=>
 ∃ l15,h_9.cell b8 (o7+1)=some (vS l15)/\
 tp 26 [vS l15] h_9 fun v_8 h_10=>
 ∃ i14,v_8=vI i14/\
 (tv [vL a1 n1 dzk1])/\
 (h_10.cell b7 o6=some (vI i13))/\
 (tv [vL a1 n1 dzk1])/\
 (h_10.cell b6 o5=some (vS l14))/\
 tp 110 [vS l14,vB (decide (i14 < i12))] h_10 fun v_9 h_11=>
 ∃ l16,v_9=vS l16/\
 (tv [vL a1 n1 dzk1])/\
 (h_11.cell b7 o6=some (vI i13))/\
 K67_1 a1 n1 dzk1 a2 n2 h_11 i12 l16 l1 Q)
 ((h_9.cell b7 o6=some (vI i13))/\
 (tv [vL a1 n1 dzk1])/\
 (h_9.cell b6 o5=some (vS l14))/\
 tp 110 [vS l14,vB false] h_9 fun v_13 h_15=>
 ∃ l21,v_13=vS l21/\
 (h_15.cell b7 o6=some (vI i13))/\
 K67_1 a1 n1 dzk1 a2 n2 h_15 i12 l21 l1 Q))
 (Q (vS l2) h_1)))))))
theorem T67 {i1 l1 l2 i2 l3 a1 n1 dzk1 i3 i4 h Q} (hR:R67 i1 l1 l2 i2 l3 a1 n1 dzk1 i3 i4 h Q):Tri Tryz.prog 67 [vA [vI i1,vS l1,vS l2,vI i2,vS l3,vL a1 n1 dzk1,vI i3,vI i4]] h Q:=
 tri_of_dn mixed Tryz.func67 rfl (by kernel_rfl) low67 (rs:=[.tmp 2]) (by kernel_rfl) rfl (Eq.mpr (by kernel_rfl) hR)
def d80:DCode:=up ⟨[(4, .c (.one false [.str]))],[],[]⟩ (lw nf Tryz.f80)
theorem low80:lw nf Tryz.f80=some (eC d80):=by kernel_rfl
def R80 (i1:Int) (h:PHeap) (Q:Value->PHeap->Prop):Prop:=
 tp 126 [vI i1] h fun v_1 h_1=>
 ∃ l1,v_1=vS l1/\
 Q (vS l1) h_1
theorem T80 {i1 h Q} (hR:R80 i1 h Q):Tri Tryz.prog 80 [vI i1] h Q:=
 tri_of_dn mixed Tryz.func80 rfl (by kernel_rfl) low80 (rs:=[.tmp 2]) (by kernel_rfl) rfl (Eq.mpr (by kernel_rfl) hR)
def d110:DCode:=up ⟨[],[],[]⟩ (lw nf Tryz.f110)
theorem low110:lw nf Tryz.f110=some (eC d110):=by kernel_rfl
def R110 (l1:Bs) (c1:Bool) (h:PHeap) (Q:Value->PHeap->Prop):Prop:=
 br c1
 (([40]:Bs).length+l1.length<=9223372036854775807/\
 (([40]:Bs)++l1).length+([41]:Bs).length<=9223372036854775807/\
 Q (vS ((([40]:Bs)++l1)++([41]:Bs))) h)
 (Q (vS l1) h)
theorem T110 {l1 c1 h Q} (hR:R110 l1 c1 h Q):Tri Tryz.prog 110 [vS l1,vB c1] h Q:=
 tri_of_dn mixed Tryz.func110 rfl (by kernel_rfl) low110 (rs:=[.tmp 4]) (by kernel_rfl) rfl (Eq.mpr (by kernel_rfl) hR)
def d126:DCode:=up ⟨[(4, .c (.one false [.str]))],[],[]⟩ (lw nf Tryz.f126)
theorem low126:lw nf Tryz.f126=some (eC d126):=by kernel_rfl
def R126 (i1:Int) (h:PHeap) (Q:Value->PHeap->Prop):Prop:=
 tp 159 [vI i1,vI 10] h fun v_1 h_1=>
 ∃ l1,v_1=vS l1/\
 Q (vS l1) h_1
theorem T126 {i1 h Q} (hR:R126 i1 h Q):Tri Tryz.prog 126 [vI i1] h Q:=
 tri_of_dn mixed Tryz.func126 rfl (by kernel_rfl) low126 (rs:=[.tmp 2]) (by kernel_rfl) rfl (Eq.mpr (by kernel_rfl) hR)
abbrev o159_6:Op:= .slice 245 (.tmp 5) (some (.const (vI 1))) (some (.tmp 29)) none
abbrev o159_9:Op:= .slice 245 (.tmp 5) none (some (.tmp 37)) none
abbrev o159_11:Op:= .slice 245 (.tmp 5) (some (.const (vI 1))) (some (.tmp 41)) none
def d159:DCode:=up ⟨[(19, .c (.one false [.str])),(27, .c (.one false [qi])),(30, .c (.one false [.slice])),(32, .c (.tup [])),(38, .c (.one false [.slice])),(42, .c (.one false [.slice])),(50, .c (.tup [(false,[.slice]),(false,[.str])]))],[35],[]⟩ (lw (fun d=>Nat.beq d 5) Tryz.f159)
theorem low159:lw (fun d=>Nat.beq d 5) Tryz.f159=some (eC d159):=by kernel_rfl
abbrev K159_2 (i1:Int) (h_4:PHeap) (b1:Nat) (i3:Int) (Q:Value->PHeap->Prop):Prop:=
 br (decide (i1 < 0))
 ((0<=(0:Int)/\(0:Int) < 24)/\
 sto h_4 b1 0 1 [vU 45] fun h_5=>
 ∃ a2 n2 k2,PureRun Tryz.prog (execOp (rho [(5,vP b1 0),(37,vI (IntKind.i64.wrap (1+i3)))]) (mkO o159_9 45)) (vL a2 n2 k2)/\
 ∃ l3,BytesAt h_5 a2 n2 l3/\
 Q (vS l3) h_5)
 (∃ a3 n3 k3,PureRun Tryz.prog (execOp (rho [(5,vP b1 0),(41,vI (IntKind.i64.wrap (1+i3)))]) (mkO o159_11 45)) (vL a3 n3 k3)/\
 ∃ l4,BytesAt h_4 a3 n3 l4/\
 Q (vS l4) h_4)
abbrev K159_1 (h:PHeap) (i1:Int) (Q:Value->PHeap->Prop):Prop:=
 alc h [vU 0,vU 0,vU 0,vU 0,vU 0,vU 0,vU 0,vU 0,vU 0,vU 0,vU 0,vU 0,vU 0,vU 0,vU 0,vU 0,vU 0,vU 0,vU 0,vU 0,vU 0,vU 0,vU 0,vU 0] 245 fun b1 h_2=>
 br (decide (i1 < 0))
 (tp 181 [.int .u64 (IntKind.u64.wrap (0 - (IntKind.u64.wrap (i1))))] h_2 fun v_2 h_3=>
 ∃ i3,v_2=vI i3/\
 ∃ a1 n1 dzk1,PureRun Tryz.prog (execOp (rho [(5,vP b1 0),(29,vI (IntKind.i64.wrap (1+i3)))]) (mkO o159_6 45)) (vL a1 n1 dzk1)/\
 tp 182 [vL a1 n1 dzk1, .int .u64 (IntKind.u64.wrap (0 - (IntKind.u64.wrap (i1))))] h_3 fun v_3 h_4=>
 v_3=vT []/\
 K159_2 i1 h_4 b1 i3 Q)
 (tp 181 [.int .u64 (IntKind.u64.wrap (i1))] h_2 fun v_4 h_6=>
 ∃ i4,v_4=vI i4/\
 ∃ a4 n4 k4,PureRun Tryz.prog (execOp (rho [(5,vP b1 0),(29,vI (IntKind.i64.wrap (1+i4)))]) (mkO o159_6 45)) (vL a4 n4 k4)/\
 tp 182 [vL a4 n4 k4, .int .u64 (IntKind.u64.wrap (i1))] h_6 fun v_5 h_7=>
 v_5=vT []/\
 K159_2 i1 h_7 b1 i4 Q)
def R159 (i1 i2:Int) (h:PHeap) (Q:Value->PHeap->Prop):Prop:=
 br (i2 == 10)
 (br (decide (0<=i1))
 (br (decide (i1 < 100))
 (tp 180 [vI i1] h fun v_1 h_1=>
 ∃ l1,v_1=vS l1/\
 Q (vS l1) h_1)
 (K159_1 h i1 Q))
 (K159_1 h i1 Q))
 (tp 183 [vL none 0 0, .int .u64 (IntKind.u64.wrap (i1)),vI i2,vB (decide (i1 < 0)),vB false] h fun v_10 h_16=>
 ∃ a13 n13 k13 l14,v_10=vT [vL a13 n13 k13,vS l14]/\
 Q (vS l14) h_16)
theorem T159 {i1 i2 h Q} (hR:R159 i1 i2 h Q):Tri Tryz.prog 159 [vI i1,vI i2] h Q:=
 tri_of_dn mixed Tryz.func159 rfl (by kernel_rfl) low159 (rs:=[.tmp 4]) (by kernel_rfl) rfl (Eq.mpr (by kernel_rfl) hR)
def d180:DCode:=up ⟨[],[],[]⟩ (lw nf Tryz.f180)
theorem low180:lw nf Tryz.f180=some (eC d180):=by kernel_rfl
def R180 (i1:Int) (h:PHeap) (Q:Value->PHeap->Prop):Prop:=
 br (decide (i1 < 10))
 ((0<=i1/\i1<=(IntKind.i64.wrap (i1+1))/\(IntKind.i64.wrap (i1+1))<=(36:Int))/\
 Q (vS ((([48,49,50,51,52,53,54,55,56,57,97,98,99,100,101,102,103,104,105,106,107,108,109,110,111,112,113,114,115,116,117,118,119,120,121,122]:Bs).drop (i1).toNat).take ((IntKind.i64.wrap (i1+1)).toNat - (i1).toNat))) h)
 ((0<=(IntKind.i64.wrap (i1 * 2))/\(IntKind.i64.wrap (i1 * 2))<=(IntKind.i64.wrap ((IntKind.i64.wrap (i1 * 2))+2))/\(IntKind.i64.wrap ((IntKind.i64.wrap (i1 * 2))+2))<=(200:Int))/\
 Q (vS ((([48,48,48,49,48,50,48,51,48,52,48,53,48,54,48,55,48,56,48,57,49,48,49,49,49,50,49,51,49,52,49,53,49,54,49,55,49,56,49,57,50,48,50,49,50,50,50,51,50,52,50,53,50,54,50,55,50,56,50,57,51,48,51,49,51,50,51,51,51,52,51,53,51,54,51,55,51,56,51,57,52,48,52,49,52,50,52,51,52,52,52,53,52,54,52,55,52,56,52,57,53,48,53,49,53,50,53,51,53,52,53,53,53,54,53,55,53,56,53,57,54,48,54,49,54,50,54,51,54,52,54,53,54,54,54,55,54,56,54,57,55,48,55,49,55,50,55,51,55,52,55,53,55,54,55,55,55,56,55,57,56,48,56,49,56,50,56,51,56,52,56,53,56,54,56,55,56,56,56,57,57,48,57,49,57,50,57,51,57,52,57,53,57,54,57,55,57,56,57,57]:Bs).drop (IntKind.i64.wrap (i1 * 2)).toNat).take ((IntKind.i64.wrap ((IntKind.i64.wrap (i1 * 2))+2)).toNat - (IntKind.i64.wrap (i1 * 2)).toNat))) h)
theorem T180 {i1 h Q} (hR:R180 i1 h Q):Tri Tryz.prog 180 [vI i1] h Q:=
 tri_of_dn mixed Tryz.func180 rfl (by kernel_rfl) low180 (rs:=[.tmp 2]) (by kernel_rfl) rfl (Eq.mpr (by kernel_rfl) hR)
end
end Go.Proofs.D
namespace Go.Sx
abbrev Er:=Option (Nat×Option Nat)
def failC (b:Bool) (pos:Option Nat) (code:Nat) (e:Er):Er:=
 match e with
 | some x=>some x
 | none=>if b then some (code,pos) else none
def builtinS (n:Bytes):Option (Nat×Nat):=
 if n == [112,101,101,107] then some (1,1) else if n == [112,111,107,101] then some (2,2) else if n == [107,101,114,110,101,108] then some (1,5) else none
abbrev Tab:=List (Bytes×Nat)
def getT (t:Tab) (n:Bytes):Option Nat:=
 match t with
 | []=>none
 | (k,v)::t=>if n == k then some v else getT t n
def varC (gl:Tab) (vis:List Bytes) (name:Bytes) (array:Bool) (pos:Nat) (e:Er):Er:=
 if vis.contains name then failC (array != false) (some pos) 31 e
 else failC (array != ((getT gl name).getD 0 != 0)) (some pos) 31 (failC (getT gl name).isNone (some pos) 37 e)
def callC (fn:Tab) (name:Bytes) (n pos:Nat) (e:Er):Er:=
 match builtinS name with
 | some (low,high)=>failC (decide (n < low) || decide (high < n)) (some pos) 31 e
 | none=>failC (decide (n < (getT fn name).getD 0) || decide ((getT fn name).getD 0 < n)) (some pos) 31 (failC (getT fn name).isNone (some pos) 37 e)
mutual
def ckE (gl fn:Tab) (vis:List Bytes):E->Er->Er
 | .mk k _ nm _ _ args pos,e=>ckEs gl fn vis args (if k=3∨k=4 then varC gl vis nm (k == 4) pos e else if k=5 then callC fn nm args.length pos e else e)
def ckEs (gl fn:Tab) (vis:List Bytes):List E->Er->Er
 | [],e=>e
 | x::xs,e=>ckEs gl fn vis xs (ckE gl fn vis x e)
end
structure CS where
 err:Er
 vis:List Bytes
 cnt:Nat
mutual
def ckS (gl fn:Tab) (loop:Bool):S->CS->CS
 | .mk k nm args body els pos,c=>
   let e0:=if k=2∨k=3 then varC gl c.vis nm (k == 3) pos c.err else if k=8∨k=9 then failC (!loop) (some pos) 10 c.err else c.err
   let e1:=ckEs gl fn c.vis args e0
   if k=1 then ⟨failC (decide (32<=c.cnt)) (some pos) 9 (failC (c.vis.contains nm) (some pos) 7 e1),c.vis++[nm],c.cnt+1⟩
   else if k=5 then
    let r:=ckSs gl fn loop body ⟨e1,c.vis,c.cnt⟩
    let q:=ckSs gl fn loop els ⟨r.err,c.vis,r.cnt⟩
    ⟨q.err,c.vis,q.cnt⟩
   else if k=6 then
    let r:=ckSs gl fn true body ⟨e1,c.vis,c.cnt⟩
    ⟨r.err,c.vis,r.cnt⟩
   else ⟨e1,c.vis,c.cnt⟩
def ckSs (gl fn:Tab) (loop:Bool):List S->CS->CS
 | [],c=>c
 | s::ss,c=>ckSs gl fn loop ss (ckS gl fn loop s c)
end
def ckL (gl fn:Tab) (loop:Bool) (l:List S) (c:CS):CS:=let r:=ckSs gl fn loop l c;⟨r.err,c.vis,r.cnt⟩
def ckG (i:Nat) (gl:Tab) (g:G) (e:Er):Er:=
 failC (decide (256 < g.size)) (some g.pos) 2 (failC ((getT gl g.name).isSome || (builtinS g.name).isSome) (some g.pos) 7 (failC (decide (64<=i)) (some g.pos) 9 e))
def ckGs:Nat->List G->Tab->Er->Tab×Er
 | _,[],gl,e=>(gl,e)
 | i,g::gs,gl,e=>ckGs (i+1) gs ((g.name,g.size)::gl) (ckG i gl g e)
def ckPs (pos:Nat):List Bytes->List Bytes->Er->Er
 | _,[],e=>e
 | seen,q::qs,e=>ckPs pos (seen++[q]) qs (failC (seen.contains q) (some pos) 7 e)
def ckF (i:Nat) (gl fn:Tab) (f:F) (e:Er):Er:=
 ckPs f.pos [] f.params (failC (decide (6 < f.params.length)) (some f.pos) 9 (failC ((getT gl f.name).isSome || (getT fn f.name).isSome || (builtinS f.name).isSome) (some f.pos) 7 (failC (decide (64<=i)) (some f.pos) 9 e)))
def ckFs (gl:Tab):Nat->List F->Tab->Er->Tab×Er
 | _,[],fn,e=>(fn,e)
 | i,f::fs,fn,e=>ckFs gl (i+1) fs ((f.name,f.params.length)::fn) (ckF i gl fn f e)
def ckB (gl fn:Tab):List F->Er->Er
 | [],e=>e
 | f::fs,e=>ckB gl fn fs (ckL gl fn false f.body ⟨e,f.params,f.params.length⟩).err
def mainS:Bytes:=[109,97,105,110]
def checkS (p:Pg):Er:=
 let g:=ckGs 0 p.globals [] none
 let f:=ckFs g.1 0 p.funcs [] g.2
 ckB g.1 f.1 p.funcs (failC ((getT f.1 mainS).isNone || ((getT f.1 mainS).getD 0 != 0)) none 8 f.2)
end Go.Sx
namespace Go.Proofs.D
open Go Go.Den Go.Sx
set_option maxRecDepth 100000
attribute [local irreducible] IntKind.wrap Tri parseS
def erp (s:Bytes):Er->Int×Int×Int
 | none=>(0,0,0)
 | some (c,none)=>(1,1,c)
 | some (c,some n)=>((place s n).1,(place s n).2,c)
def pls (s:Bytes):Option Nat->Int×Int
 | none=>(1,1)
 | some n=>((place s n).1,(place s n).2)
def MG (h:PHeap) (m:Nat) (gl:Tab):Prop:=∃ L ck,h m=some (.map ⟨ents L⟩ ck)/\∀ n,match getT gl n with
 | none=>mapGet L n=none
 | some z=>∃ l i j k,mapGet L n=some (vA [vS l,vI z,vI i,vI j,vI k])
def MF (h:PHeap) (m:Nat) (fn:Tab):Prop:=∃ L ck,h m=some (.map ⟨ents L⟩ ck)/\∀ n,mapGet L n=(getT fn n).map fun (k:Nat)=>vI k
def KV (g:PHeap) (cb m1 m2:Nat) (h:PHeap) (a:OA) (k:Nat) (vis:List Bytes):Prop:=
 Own h 9 1 (vL a vis.length k) vis.length (vis.map fun l=>vS l)/\∀ b,a=ad b 0->b≠cb/\b≠m1/\b≠m2/\g b=none
structure KB (g:PHeap) (cb m1 m2:Nat) (gl fn:Tab) (h:PHeap):Prop where
 ext:Ext g h
 f0:g cb=none
 f1:g m1=none
 f2:g m2=none
 n1:m1≠cb
 n2:m2≠cb
 n3:m1≠m2
 mg:MG h m1 gl
 mf:MF h m2 fn
structure KS (s:Bytes) (g:PHeap) (cb m1 m2:Nat) (gl fn:Tab) (c:CS) (h:PHeap):Prop extends KB g cb m1 m2 gl fn h where
 er:∀ x,c.err=some x->x.1≠0
 len:c.vis.length<=c.cnt
 bl:∃ a k,h cb=some (.cells ⟨[vM m1,vM m2,vL a c.vis.length k,vI c.cnt,vI (erp s c.err).1,vI (erp s c.err).2.1,vI (erp s c.err).2.2]⟩ 114)/\KV g cb m1 m2 h a k c.vis
section
variable {s : Bytes} {g : PHeap} {cb m1 m2 : Nat} {gl fn : Tab} {c : CS} {h h' : PHeap}
theorem KB.chg (hk:KB g cb m1 m2 gl fn h) (x:Chg cb h h'):KB g cb m1 m2 gl fn h' where
 ext:=ext_away hk.f0 hk.ext x.away
 f0:=hk.f0
 f1:=hk.f1
 f2:=hk.f2
 n1:=hk.n1
 n2:=hk.n2
 n3:=hk.n3
 mg:=let ⟨L,ck,h1,h2⟩:=hk.mg;⟨L,ck,by rw [x _ hk.n1];exact h1,h2⟩
 mf:=let ⟨L,ck,h1,h2⟩:=hk.mf;⟨L,ck,by rw [x _ hk.n2];exact h1,h2⟩
theorem KV.chg {a:OA} {k:Nat} {vis:List Bytes} (hk:KV g cb m1 m2 h a k vis) (x:Chg cb h h'):KV g cb m1 m2 h' a k vis:=
 ⟨Own.keep (fun b hb=>x b (hk.2 b hb).1) hk.1,hk.2⟩
theorem KV.str {a:OA} {k:Nat} {vis:List Bytes} (hk:KV g cb m1 m2 h a k vis):StrAt h a vis:=by
 rcases hk.1.2 with ⟨_,h1⟩ | ⟨b,cap,rest,h1,h2,_,_⟩
 . exact .inl (List.eq_nil_of_length_eq_zero h1)
 . injection h1 with h1 _ _
   refine .inr ⟨b,0,h1,fun j l hj=>?_⟩
   rw [cell_of h2]
   have:j < vis.length:=(List.getElem?_eq_some_iff.1 hj).1
   rw [List.getElem?_append_left (by simpa using this)]
   simp [hj]
theorem fail_t (hk:KS s g cb m1 m2 gl fn c h) (b:Bool) (pos:Option Nat) (code:Nat) (hc:code≠0):
 Tri Tryz.prog 59 [vP cb 0,vB b,vI (pls s pos).1,vI (pls s pos).2,vI code] h fun v h'=>v=vT []/\KS s g cb m1 m2 gl fn { c with err:=failC b pos code c.err } h':=by
 refine T59 ?_
 unfold R59
 obtain ⟨a,k,hb,hv⟩:=hk.bl
 refine br_split (fun e=>?_) (fun e=>?_)
 . subst e
   refine ⟨_,cell_of hb (0+6),?_⟩
   cases hce:c.err with
   | none=>
     rw [hce] at hb
     refine br_pos rfl ⟨_,_,_,hb,⟨by simp,Nat.zero_le _⟩,?_⟩
     intro h1 hh1
     refine ⟨_,_,_,Put.at hh1,⟨by simp [splice],Nat.zero_le _⟩,?_⟩
     intro h2 hh2
     refine ⟨_,_,_,Put.at hh2,⟨by simp [splice],Nat.zero_le _⟩,?_⟩
     intro h3 hh3
     have hx:=((Put.chg hh1).trans (Put.chg hh2)).trans (Put.chg hh3)
     refine ⟨rfl,hk.toKB.chg hx,?_,hk.len,a,k,?_,hv.chg hx⟩
     . intro x hx;simp [failC] at hx;subst hx;exact hc
     . have:=Put.at hh3
       cases pos <;> exact this
   | some x=>
     have hx:=hk.er x hce
     have:(erp s (some x)).2.2=x.1:=by
      obtain ⟨c,p⟩:=x
      cases p <;> rfl
     refine br_neg (by rw [this];simpa using hx) ⟨rfl,?_⟩
     show KS s g cb m1 m2 gl fn { c with err:=failC true pos code (some x) } h
     rw [show failC true pos code (some x)=c.err from hce.symm];exact hk
 . subst e
   refine ⟨rfl,?_⟩
   have:failC false pos code c.err=c.err:=by unfold failC;split <;> simp_all
   rw [this];exact hk
theorem builtin_t (l:Bytes) (h:PHeap):Tri Tryz.prog 24 [vS l] h fun v h'=>v=(match builtinS l with | some (a,b)=>vT [vI a,vI b,vB true] | none=>vT [vI 0,vI 0,vB false])/\h'=h:=by
 refine T24 ?_
 unfold R24
 unfold builtinS
 refine br_split (fun e=>?_) (fun e=>?_)
 . rw [if_pos e];exact ⟨rfl,rfl⟩
 rw [if_neg (by rw [e];decide)]
 refine br_split (fun e=>?_) (fun e=>?_)
 . rw [if_pos e];exact ⟨rfl,rfl⟩
 rw [if_neg (by rw [e];decide)]
 refine br_split (fun e=>?_) (fun e=>?_)
 . rw [if_pos e];exact ⟨rfl,rfl⟩
 rw [if_neg (by rw [e];decide)]
 exact ⟨rfl,rfl⟩
theorem isBuiltin_t (l:Bytes) (h:PHeap):Tri Tryz.prog 101 [vS l] h fun v h'=>v=vB (builtinS l).isSome/\h'=h:=by
 refine T101 ?_
 unfold R101
 refine Tri.mono (builtin_t l h) ?_
 rintro _ h ⟨rfl,rfl⟩
 cases builtinS l with
 | none=>exact ⟨_,_,_,rfl,rfl,rfl⟩
 | some x=>exact ⟨_,_,_,rfl,rfl,rfl⟩
theorem und111:Tryz.prog.underlying 111=some (.map 9 86):=rfl
theorem und112:Tryz.prog.underlying 112=some (.map 9 3):=rfl
theorem lookG (hk:KB g cb m1 m2 gl fn h) {ρ:Operand->Value} {m k:Operand} {l:Bytes} (hm:ρ m=vM m1) (hl:ρ k=vS l) (ty:TypeId):
 Raw Tryz.prog (execOp ρ (mkO (.lookup 111 m k true) ty)) h fun v h'=>h'=h/\∃ nm i j k,v=vT [vA [vS nm,vI ((getT gl l).getD 0:Nat),vI i,vI j,vI k],vB (getT gl l).isSome]:=by
 obtain ⟨L,ck,h1,h2⟩:=hk.mg
 refine Raw.mono (raw_lookupS (z:=vA [vS [],vI 0,vI 0,vI 0,vI 0]) und111 rfl rfl hm hl h1) ?_
 rintro _ h' ⟨rfl,rfl⟩
 refine ⟨rfl,?_⟩
 have:=h2 l
 cases hg:getT gl l with
 | none=>rw [hg] at this;simp only at this;rw [this];exact ⟨_,_,_,_,rfl⟩
 | some z=>rw [hg] at this;obtain ⟨a,b,c,d,this⟩:=this;rw [this];exact ⟨_,_,_,_,rfl⟩
theorem lookF (hk:KB g cb m1 m2 gl fn h) {ρ:Operand->Value} {m k:Operand} {l:Bytes} (hm:ρ m=vM m2) (hl:ρ k=vS l) (ty:TypeId):
 Raw Tryz.prog (execOp ρ (mkO (.lookup 112 m k true) ty)) h fun v h'=>h'=h/\v=vT [vI ((getT fn l).getD 0:Nat),vB (getT fn l).isSome]:=by
 obtain ⟨L,ck,h1,h2⟩:=hk.mf
 refine Raw.mono (raw_lookupS (z:=vI 0) und112 rfl rfl hm hl h1) ?_
 rintro _ h' ⟨rfl,rfl⟩
 refine ⟨rfl,?_⟩
 have:=h2 l
 cases hg:getT fn l with
 | none=>rw [hg] at this;simp only [Option.map_none] at this;rw [this];rfl
 | some z=>rw [hg] at this;simp only [Option.map_some] at this;rw [this];rfl
theorem bne_cast (n:Nat):(((n:Nat):Int) != 0)=(n != 0):=by
 rw [Bool.eq_iff_iff];simp
theorem KS.to {e e':Er} (hk:KS s g cb m1 m2 gl fn { c with err:=e } h) (he:e=e'):KS s g cb m1 m2 gl fn { c with err:=e' } h:=he ▸ hk
theorem var_t (hk:KS s g cb m1 m2 gl fn c h) (hl:c.vis.length<=1000000) (nm:Bytes) (arr:Bool) (pos:Nat):
 Tri Tryz.prog 150 [vP cb 0,vS nm,vB arr,vI (place s pos).1,vI (place s pos).2] h fun v h'=>v=vT []/\KS s g cb m1 m2 gl fn { c with err:=varC gl c.vis nm arr pos c.err } h':=by
 refine T150 ?_
 unfold R150
 obtain ⟨a,k,hb,hv⟩:=hk.bl
 refine ⟨_,_,_,cell_of hb (0+2),?_⟩
 refine Tri.mono (contains_tri nm hv.str hl) ?_
 rintro _ h ⟨rfl,rfl⟩
 refine ⟨_,rfl,br_split (fun e=>?_) (fun e=>?_)⟩
 . have e:c.vis.contains nm=false:=by simpa using e
   refine ⟨_,cell_of hb 0,?_⟩
   refine Raw.mono (lookG hk.toKB rfl rfl 181) ?_
   rintro _ h ⟨rfl,_,_,_,_,rfl⟩
   refine ⟨_,_,_,_,_,_,rfl,?_⟩
   refine Tri.mono (fail_t hk _ (some pos) 37 (by decide)) ?_
   rintro _ h1 ⟨rfl,hk1⟩
   refine ⟨rfl,?_⟩
   refine Tri.mono (fail_t hk1 _ (some pos) 31 (by decide)) ?_
   rintro _ h2 ⟨rfl,hk2⟩
   refine ⟨rfl,rfl,KS.to hk2 ?_⟩
   simp only [varC,e,bne_cast]
   cases getT gl nm <;> rfl
 . have e:c.vis.contains nm=true:=by simpa using e
   refine Tri.mono (fail_t hk _ (some pos) 31 (by decide)) ?_
   rintro _ h1 ⟨rfl,hk1⟩
   refine ⟨rfl,rfl,KS.to hk1 ?_⟩
   simp only [varC,e];rfl
theorem ckEs_drop {vis:List Bytes} {es:List E} {j:Nat} (hj:j < es.length) (e:Er):ckEs gl fn vis (es.drop j) e=ckEs gl fn vis (es.drop (j+1)) (ckE gl fn vis es[j] e):=by rw [List.drop_eq_getElem_cons hj];rfl
def XE (s:Bytes) (g:PHeap) (cb m1 m2:Nat) (gl fn:Tab) (e:E):Prop:=∀ cs c h,RE (plP s) 8 g e cs->KS s g cb m1 m2 gl fn c h->c.vis.length<=1000000->
 Tri Tryz.prog 151 [vP cb 0,vA cs] h fun v h'=>v=vT []/\KS s g cb m1 m2 gl fn { c with err:=ckE gl fn c.vis e c.err } h'
theorem loopE {args:List E} (hih:∀ e∈args,XE s g cb m1 m2 gl fn e) (hlen:args.length<=1000000) {a:OA} (hA:At 8 (RE (plP s) 8) g a args) {Q:PHeap->Prop} {T:Prop} (hT:T) {e0:Er} (hQ:∀ h,KS s g cb m1 m2 gl fn { c with err:=ckEs gl fn c.vis args e0 } h->Q h)
 (hl:c.vis.length<=1000000) (hk:KS s g cb m1 m2 gl fn { c with err:=e0 } h):
 ∃ (I:Nat->Int->PHeap->Prop),(∃ (m2:Nat),I m2 (0:Int) h)/\∀ (m1:Nat) (i:Int) (h_2:PHeap),I m1 i h_2->
   br (decide (i < ((args.length:Nat):Int)))
    (∃ (b1 o2:Nat),a=some ⟨b1,o2,none⟩/\(0<=i/\i < args.length)/\
     ∃ (i6:Int) (l4 l5:Bs) (i7:Int) (l6:Bs) (a2:OA) (n2 k2:Nat) (i8 i9:Int),h_2.row b1 (o2+(i).toNat * 8) [vI i6,vS l4,vS l5,vI i7,vS l6,vL a2 n2 k2,vI i8,vI i9]/\
       Tri Tryz.prog 151 [vP cb 0,vA [vI i6,vS l4,vS l5,vI i7,vS l6,vL a2 n2 k2,vI i8,vI i9]] h_2 fun v_2 h_3=>v_2=vT []/\∃ (m3:Nat),m3 < m1/\I m3 (IntKind.i64.wrap (i+1)) h_3/\T/\True)
    (Q h_2):=by
 refine ⟨fun m i h'=>∃ (j:Nat) (e:Er),i=j/\j+m=args.length/\KS s g cb m1 m2 gl fn { c with err:=e } h'/\ckEs gl fn c.vis (args.drop j) e=ckEs gl fn c.vis args e0,⟨args.length,0,e0,rfl,by omega,hk,rfl⟩,?_⟩
 rintro m _ h1 ⟨j,e,rfl,hjm,hk1,he⟩
 refine br_split (fun e2=>?_) (fun e2=>?_)
 . have hj:j < args.length:=by
    have:=of_decide_eq_true e2
    omega
   obtain ⟨b,o,cs,rfl,hr,hrel⟩:=hA.get hj
   have ihj:=hih _ (List.getElem_mem hj) _ _ _ hrel hk1 hl
   have hr:=row_ext (fun ob=>hk1.ext b ob) hr
   rw [ckEs_drop hj] at he
   generalize args[j]=x at *
   match x,hrel with
   | .mk kd op nm vl tx args' pos,hrel=>
   obtain ⟨a1,c1,rfl,hA1⟩:=RE_iff.1 hrel
   refine ⟨b,o,rfl,⟨by omega,by omega⟩,_,_,_,_,_,_,_,_,_,_,hr,?_⟩
   refine Tri.mono ihj ?_
   rintro _ h2 ⟨rfl,hk2⟩
   refine ⟨rfl,m - 1,by omega,⟨j+1,_,?_,by omega,hk2,he⟩,hT,trivial⟩
   rw [wrap64 (by omega) (by omega)];rfl
 . have:args.length<=j:=by
    have:=of_decide_eq_false e2
    omega
   rw [List.drop_eq_nil_of_le this] at he
   exact hQ _ (KS.to hk1 he)
theorem expr_t:∀ k e,cntE e<=k->k<=1000000->XE s g cb m1 m2 gl fn e:=by
 intro k
 induction k with
 | zero=>intro e he;have:=cntE_pos e;omega
 | succ k ih=>
   intro e he hk5 cs c h hrel hk hl
   match e,he,hrel with
   | .mk kd op nm vl tx args pos,he,hrel=>
   obtain ⟨a1,c1,rfl,hA1⟩:=RE_iff.1 hrel
   simp only [cntE] at he
   have hlen:=cntEs_len args
   have hih:∀ e∈args,XE s g cb m1 m2 gl fn e:=fun e hm=>ih e (by have:=cntEs_mem hm;omega) (by omega)
   refine T151 ?_
   unfold R151
   have loop:=fun {T:Prop} (hT:T) {h1:PHeap} {e0:Er} (hk1:KS s g cb m1 m2 gl fn { c with err:=e0 } h1) (he0:e0=if kd=3∨kd=4 then varC gl c.vis nm (kd == 4) pos c.err else if kd=5 then callC fn nm args.length pos c.err else c.err)=>
    loopE (Q:=fun h=>vT []=vT []/\KS s g cb m1 m2 gl fn { c with err:=ckE gl fn c.vis (.mk kd op nm vl tx args pos) c.err } h) hih (by omega) hA1 hT (fun h hq=>⟨rfl,KS.to hq (by rw [ckE,he0])⟩) hl hk1
   refine br_split (fun e=>?_) (fun e3=>?_)
   . have e:kd=3:=by have:=beq_iff_eq.1 e;omega
     subst e
     refine Tri.mono (var_t hk hl nm _ pos) ?_
     rintro _ h1 ⟨rfl,hk1⟩
     exact ⟨rfl,loop rfl hk1 rfl⟩
   refine br_split (fun e=>?_) (fun e4=>?_)
   . have e:kd=4:=by have:=beq_iff_eq.1 e;omega
     subst e
     refine Tri.mono (var_t hk hl nm _ pos) ?_
     rintro _ h1 ⟨rfl,hk1⟩
     exact ⟨rfl,loop rfl hk1 rfl⟩
   have e3:kd≠3:=fun e=>by subst e;cases e3
   have e4:kd≠4:=fun e=>by subst e;cases e4
   rw [if_neg (by omega)] at loop
   refine br_split (fun e=>?_) (fun e5=>?_)
   . have e:kd=5:=by have:=beq_iff_eq.1 e;omega
     subst e
     rw [if_pos rfl] at loop
     refine Tri.mono (builtin_t nm h) ?_
     rintro _ h ⟨rfl,rfl⟩
     unfold callC at loop
     cases hbu:builtinS nm with
     | none=>
       rw [hbu] at loop
       refine ⟨_,_,_,rfl,br_pos rfl ?_⟩
       obtain ⟨a,k,hb,hv⟩:=hk.bl
       refine ⟨_,cell_of hb (0+1),?_⟩
       refine Raw.mono (lookF hk.toKB rfl rfl 117) ?_
       rintro _ h ⟨rfl,rfl⟩
       refine ⟨_,_,rfl,?_⟩
       refine Tri.mono (fail_t hk _ (some pos) 37 (by decide)) ?_
       rintro _ h1 ⟨rfl,hk1⟩
       refine ⟨rfl,br_split (fun e=>?_) (fun e=>?_)⟩
       . have e:args.length < (getT fn nm).getD 0:=by have:=of_decide_eq_true e;omega
         refine Tri.mono (fail_t hk1 _ (some pos) 31 (by decide)) ?_
         rintro _ h2 ⟨rfl,hk2⟩
         refine ⟨rfl,loop rfl hk2 ?_⟩
         simp only [e,decide_true,Bool.true_or]
         cases getT fn nm <;> rfl
       . have e:¬ args.length < (getT fn nm).getD 0:=by have:=of_decide_eq_false e;omega
         refine Tri.mono (fail_t hk1 _ (some pos) 31 (by decide)) ?_
         rintro _ h2 ⟨rfl,hk2⟩
         refine ⟨rfl,loop rfl hk2 ?_⟩
         simp only [e,decide_false,Bool.false_or]
         congr 1
         . simp
         . cases getT fn nm <;> rfl
     | some x=>
       obtain ⟨lo,hi⟩:=x
       rw [hbu] at loop
       refine ⟨_,_,_,rfl,br_neg rfl ?_⟩
       refine Tri.mono (fail_t hk _ (some pos) 37 (by decide)) ?_
       rintro _ h1 ⟨rfl,hk1⟩
       have hk1:=KS.to (e':=c.err) hk1 (by unfold failC;split <;> simp_all)
       refine ⟨rfl,br_split (fun e=>?_) (fun e=>?_)⟩
       . have e:args.length < lo:=by have:=of_decide_eq_true e;omega
         refine Tri.mono (fail_t hk1 _ (some pos) 31 (by decide)) ?_
         rintro _ h2 ⟨rfl,hk2⟩
         refine ⟨rfl,loop rfl hk2 ?_⟩
         simp only [e,decide_true,Bool.true_or]
       . have e:¬ args.length < lo:=by have:=of_decide_eq_false e;omega
         refine Tri.mono (fail_t hk1 _ (some pos) 31 (by decide)) ?_
         rintro _ h2 ⟨rfl,hk2⟩
         refine ⟨rfl,loop rfl hk2 ?_⟩
         simp only [e,decide_false,Bool.false_or]
         congr 1
         simp
   . have e5:kd≠5:=fun e=>by subst e;cases e5
     rw [if_neg e5] at loop
     exact loop rfl hk rfl
end
end Go.Proofs.D
namespace Go.Sx
def Gr (n:Nat) (c c':CS):Prop:=c.cnt<=c'.cnt/\c'.cnt<=c.cnt+n/\∃ t,c'.vis=c.vis++t
theorem Gr.refl (n:Nat) (c:CS):Gr n c c:=⟨Nat.le_refl _,Nat.le_add_right _ _,[],by simp⟩
theorem Gr.trans {n m:Nat} {c c' c'':CS} (h:Gr n c c') (h':Gr m c' c''):Gr (n+m) c c'':=by
 obtain ⟨h1,h2,t,h3⟩:=h
 obtain ⟨k1,k2,u,k3⟩:=h'
 exact ⟨by omega,by omega,t++u,by rw [k3,h3,List.append_assoc]⟩
theorem Gr.le {n m:Nat} {c c':CS} (h:Gr n c c') (hn:n<=m):Gr m c c':=⟨h.1,by have:=h.2.1;omega,h.2.2⟩
theorem Gr.list {n:Nat} {c c':CS} (h:Gr n c c'):Gr n c ⟨c'.err,c.vis,c'.cnt⟩:=⟨h.1,h.2.1,[],by simp⟩
theorem Gr.err {n:Nat} {c c':CS} {e:Er} (h:Gr n ⟨e,c.vis,c.cnt⟩ c'):Gr n c c':=h
mutual
theorem ckS_gr (gl fn:Tab):∀ (lp:Bool) (s:S) (c:CS),Gr (cntS s) c (ckS gl fn lp s c)
 | lp, .mk k nm args body els pos,c=>by
   simp only [ckS,cntS]
   generalize ckEs gl fn c.vis args _=e1
   split
   . exact ⟨by simp,by simp,[nm],rfl⟩
   . split
     . have h1:=ckSs_gr gl fn lp body ⟨e1,c.vis,c.cnt⟩
       have h2:=ckSs_gr gl fn lp els ⟨(ckSs gl fn lp body ⟨e1,c.vis,c.cnt⟩).err,c.vis,(ckSs gl fn lp body ⟨e1,c.vis,c.cnt⟩).cnt⟩
       exact (h1.list.trans h2.list).err.le (by omega)
     . split
       . exact (ckSs_gr gl fn true body ⟨e1,c.vis,c.cnt⟩).list.err.le (by omega)
       . exact Gr.refl _ _
theorem ckSs_gr (gl fn:Tab):∀ (lp:Bool) (l:List S) (c:CS),Gr (cntSs l) c (ckSs gl fn lp l c)
 | _,[],c=>Gr.refl _ c
 | lp,s::ss,c=>(ckS_gr gl fn lp s c).trans (ckSs_gr gl fn lp ss _)
end
end Go.Sx
namespace Go.Proofs.D
open Go Go.Den Go.Sx
set_option maxRecDepth 100000
attribute [local irreducible] IntKind.wrap Tri parseS
section
variable {s : Bytes} {g : PHeap} {cb m1 m2 : Nat} {gl fn : Tab} {c : CS} {h h' : PHeap}
theorem KB.of (hk:KB g cb m1 m2 gl fn h) (hx:Ext g h') (h1:h' m1=h m1) (h2:h' m2=h m2):KB g cb m1 m2 gl fn h' where
 ext:=hx
 f0:=hk.f0
 f1:=hk.f1
 f2:=hk.f2
 n1:=hk.n1
 n2:=hk.n2
 n3:=hk.n3
 mg:=let ⟨L,ck,g1,g2⟩:=hk.mg;⟨L,ck,by rw [h1];exact g1,g2⟩
 mf:=let ⟨L,ck,g1,g2⟩:=hk.mf;⟨L,ck,by rw [h2];exact g1,g2⟩
def XT (s:Bytes) (g:PHeap) (cb m1 m2:Nat) (gl fn:Tab) (e:S):Prop:=∀ cs c h lp,RS (plP s) 8 7 g e cs->KS s g cb m1 m2 gl fn c h->c.cnt+cntS e<=1000000->
 Tri Tryz.prog 103 [vP cb 0,vA cs,vB lp] h fun v h'=>v=vT []/\KS s g cb m1 m2 gl fn (ckS gl fn lp e c) h'
theorem ckSs_drop {lp:Bool} {es:List S} {j:Nat} (hj:j < es.length) (c:CS):ckSs gl fn lp (es.drop j) c=ckSs gl fn lp (es.drop (j+1)) (ckS gl fn lp es[j] c):=by rw [List.drop_eq_getElem_cons hj];rfl
theorem KV.cut {a a':OA} {k:Nat} {vis t:List Bytes} (hv:KV g cb m1 m2 h a k (vis++t)) (hs:SlA a a' 0 k 1):KV g cb m1 m2 h a' (k - 0) vis:=by
 obtain ⟨⟨h1,h2⟩,h3⟩:=hv
 rcases h2 with ⟨h2,h4⟩ | ⟨b,cap,rest,h2,h4,h5,h6⟩
 . injection h2 with e1 e2 e3
   have hv0:vis=[]:=List.eq_nil_of_length_eq_zero (by simp at h4;have:=h4.1;simp [this])
   subst hv0
   have:=hs.2 e1
   subst this;subst e3
   exact ⟨⟨by simp, .inl ⟨rfl,rfl⟩⟩,fun b hb=>by cases hb⟩
 . injection h2 with e1 e2 e3
   subst e3
   obtain ⟨o',e4,e5⟩:=hs.1 b 0 e1
   have:=e5 (.inr rfl)
   subst this;subst e4
   refine ⟨⟨by simp, .inr ⟨b,k,t.map (fun l=>vS l)++rest,rfl,?_,?_,?_⟩⟩,fun b' hb'=>h3 b' (e1.trans (by simpa using hb'))⟩
   . rw [h4];simp
   . simp only [List.length_append,List.length_map] at h5 h6 ⊢;omega
   . simp at h6;omega
theorem list_t {es:List S} (ih:∀ e∈es,XT s g cb m1 m2 gl fn e) {a:OA} {cc:Nat} (hA:At 7 (RS (plP s) 8 7) g a es) (lp:Bool) (hk:KS s g cb m1 m2 gl fn c h) (hc:c.cnt+cntSs es<=1000000):
 Tri Tryz.prog 61 [vP cb 0,vL a es.length cc,vB lp] h fun v h'=>v=vT []/\KS s g cb m1 m2 gl fn (ckL gl fn lp es c) h':=by
 refine T61 ?_
 unfold R61
 obtain ⟨a0,k0,hb0,hv0⟩:=hk.bl
 have hlen:=cntSs_len es
 refine ⟨_,_,_,cell_of hb0 (0+2),?_⟩
 refine ⟨fun m i h'=>∃ (j:Nat) (c':CS),i=j/\j+m=es.length/\KS s g cb m1 m2 gl fn c' h'/\c'.cnt+cntSs (es.drop j)<=1000000/\ckSs gl fn lp (es.drop j) c'=ckSs gl fn lp es c,⟨es.length,0,c,rfl,by omega,hk,hc,rfl⟩,?_⟩
 rintro m _ h1 ⟨j,c',rfl,hjm,hk1,hc1,he⟩
 refine br_split (fun e2=>?_) (fun e2=>?_)
 . have hj:j < es.length:=by
    have:=of_decide_eq_true e2
    omega
   obtain ⟨b,o,cs,rfl,hr,hrel⟩:=hA.get hj
   rw [cntSs_drop hj] at hc1
   have ihj:=ih _ (List.getElem_mem hj) _ _ _ lp hrel hk1 (by omega)
   have hr:=row_ext (fun ob=>hk1.ext b ob) hr
   have hgr:=(ckS_gr gl fn lp es[j] c').2.1
   rw [ckSs_drop hj] at he
   generalize es[j]=x at *
   match x,hrel with
   | .mk kd nm args body els pos,hrel=>
   obtain ⟨a1,c1,a2,c2,a3,c3,rfl,hA1,hA2,hA3⟩:=RS_iff.1 hrel
   refine ⟨b,o,rfl,⟨by omega,by omega⟩,_,_,_,_,_,_,_,_,_,_,_,_,_,hr,?_⟩
   refine Tri.mono ihj ?_
   rintro _ h2 ⟨rfl,hk2⟩
   refine ⟨rfl,m - 1,by omega,⟨j+1,_,?_,by omega,hk2,by omega,he⟩,trivial⟩
   rw [wrap64 (by omega) (by omega)];rfl
 . have:es.length<=j:=by
    have:=of_decide_eq_false e2
    omega
   rw [List.drop_eq_nil_of_le this] at he
   have he:c'=ckSs gl fn lp es c:=he
   obtain ⟨g1,g2,t,g3⟩:=ckSs_gr gl fn lp es c
   rw [←he] at g1 g2 g3
   obtain ⟨a4,k4,hb4,hv4⟩:=hk1.bl
   have hcap:c.vis.length<=k4/\okA a4 c'.vis.length k4:=by
    rcases hv4.1.2 with ⟨k1,k2⟩ | ⟨b,cap,rest,k1,k2,k3,k5⟩
    . injection k1 with k1 k3 k6
      have:c.vis.length=0:=by rw [g3] at k2;simp at k2;simp [k2.1]
      exact ⟨by omega, .inr ⟨k1,k2,k6⟩⟩
    . injection k1 with k1 k3 k6
      refine ⟨?_, .inl ⟨b,0,k1⟩⟩
      rw [g3,List.length_append] at k5;omega
   refine ⟨_,_,_,cell_of hb4 (0+2),⟨hcap.2,by omega,by omega,by omega⟩,?_⟩
   intro a7 ha7
   refine ⟨_,_,_,hb4,⟨by simp,Nat.zero_le _⟩,?_⟩
   intro h3 hh3
   have hx:=Put.chg hh3
   rw [g3] at hv4
   refine ⟨rfl,?_⟩
   rw [ckL,←he]
   exact ⟨hk1.toKB.chg hx,hk1.er,by have:=hk.len;show c.vis.length<=c'.cnt;omega,a7,k4 - 0,Put.at hh3,(hv4.cut ha7).chg hx⟩
theorem tail_t {kd:Nat} {nm:Bytes} {body els:List S} {pos:Nat} {e1:Er} (hih2:∀ e∈body,XT s g cb m1 m2 gl fn e) (hih3:∀ e∈els,XT s g cb m1 m2 gl fn e) {a2 a3:OA} {c2 c3:Nat} (hA2:At 7 (RS (plP s) 8 7) g a2 body) (hA3:At 7 (RS (plP s) 8 7) g a3 els) {lp:Bool}
 (hk:KS s g cb m1 m2 gl fn ⟨e1,c.vis,c.cnt⟩ h) (hc:c.cnt+(cntSs body+cntSs els+1)<=1000000) {Q:PHeap->Prop}
 (hQ:∀ h,KS s g cb m1 m2 gl fn (if kd=1 then ⟨failC (decide (32<=c.cnt)) (some pos) 9 (failC (c.vis.contains nm) (some pos) 7 e1),c.vis++[nm],c.cnt+1⟩
    else if kd=5 then ckL gl fn lp els (ckL gl fn lp body ⟨e1,c.vis,c.cnt⟩) else if kd=6 then ckL gl fn true body ⟨e1,c.vis,c.cnt⟩ else ⟨e1,c.vis,c.cnt⟩) h->Q h):
 br (((kd:Nat):Int) == 1)
  (∃ (a5:OA) (n5 k5:Nat),h.cell cb (0+2)=some (vL a5 n5 k5)/\
   Tri Tryz.prog 102 [vL a5 n5 k5,vS nm] h fun v_3 h_4=>∃ (c2:Bool),v_3=vB c2/\(tv [vI ((place s pos).2:Nat)])/\(tv [vI ((place s pos).1:Nat)])/\
    Tri Tryz.prog 59 [vP cb 0,vB c2,vI ((place s pos).1:Nat),vI ((place s pos).2:Nat),vI 7] h_4 fun v_4 h_5=>v_4=vT []/\∃ (i9:Int),h_5.cell cb (0+3)=some (vI i9)/\
     Tri Tryz.prog 59 [vP cb 0,vB (decide (i9≥32)),vI ((place s pos).1:Nat),vI ((place s pos).2:Nat),vI 9] h_5 fun v_5 h_6=>v_5=vT []/\(h_6.cell cb (0+3)=some (vI i9))/\
      ∃ (a6:OA) (n6 k6:Nat),h_6.cell cb (0+2)=some (vL a6 n6 k6)/\∀ (b2:Nat),h_6 b2=none->∀ (h_7:PHeap),h_7=h_6.put b2 (.cells ⟨[vS nm]⟩ 9)->(h_7.cell cb (0+2)=some (vL a6 n6 k6))/\
        Raw Tryz.prog (execOp (rho [(78,vL a6 n6 k6),(81,vL (ad b2 0) 1 1)]) (mkO o103_10 51)) h_7 fun v_6 h_8=>∃ (a7:OA) (n7 k7:Nat),v_6=vL a7 n7 k7/\
         ∃ (l5:List Value) (t1:TypeId) (z1:Nat×Nat),h_8 cb=some (.cells ⟨l5⟩ t1 z1)/\((0+2)+1<=l5.length/\z1.2<=(0+2))/\∀ (h_9:PHeap),h_9=h_8.put cb (.cells ⟨splice l5 (0+2) [vL a7 n7 k7]⟩ t1 z1)->
           ∃ (i10:Int),h_9.cell cb (0+3)=some (vI i10)/\∃ (l6:List Value) (t2:TypeId) (z2:Nat×Nat),h_9 cb=some (.cells ⟨l6⟩ t2 z2)/\((0+3)+1<=l6.length/\z2.2<=(0+3))/\
             ∀ (h_10:PHeap),h_10=h_9.put cb (.cells ⟨splice l6 (0+3) [vI (IntKind.i64.wrap (i10+1))]⟩ t2 z2)->Q h_10)
  (br (((kd:Nat):Int) == 5)
   (Tri Tryz.prog 61 [vP cb 0,vL a2 body.length c2,vB lp] h fun v_7 h_11=>v_7=vT []/\Tri Tryz.prog 61 [vP cb 0,vL a3 els.length c3,vB lp] h_11 fun v_8 h_12=>v_8=vT []/\Q h_12)
   (br (((kd:Nat):Int) == 6)
    (Tri Tryz.prog 61 [vP cb 0,vL a2 body.length c2,vB true] h fun v_9 h_13=>v_9=vT []/\Q h_13)
    (Q h))):=by
 refine br_split (fun e=>?_) (fun n1=>br_split (fun e=>?_) (fun n5=>br_split (fun e=>?_) (fun n6=>?_)))
 . have e:kd=1:=by have:=beq_iff_eq.1 e;omega
   subst e
   rw [if_pos rfl] at hQ
   obtain ⟨a,k,hb,hv⟩:=hk.bl
   have hl:c.vis.length<=c.cnt:=hk.len
   refine ⟨_,_,_,cell_of hb (0+2),?_⟩
   refine Tri.mono (contains_tri nm hv.str (by show c.vis.length<=_;omega)) ?_
   rintro _ h ⟨rfl,rfl⟩
   refine ⟨_,rfl,rfl,rfl,?_⟩
   refine Tri.mono (fail_t hk _ (some pos) 7 (by decide)) ?_
   rintro _ h1 ⟨rfl,hk1⟩
   obtain ⟨a1,k1,hb1,hv1⟩:=hk1.bl
   refine ⟨rfl,_,cell_of hb1 (0+3),?_⟩
   refine Tri.mono (fail_t hk1 _ (some pos) 9 (by decide)) ?_
   rintro _ h2 ⟨rfl,hk2⟩
   have hk2:=KS.to (c:=c) (e':=failC (decide (32<=c.cnt)) (some pos) 9 (failC (c.vis.contains nm) (some pos) 7 e1)) hk2 (by
    have:decide (((c.cnt:Nat):Int)≥32)=decide (32<=c.cnt):=by rw [Bool.eq_iff_iff];simp;omega
    rw [←this])
   generalize hE:failC (decide (32<=c.cnt)) (some pos) 9 (failC (c.vis.contains nm) (some pos) 7 e1)=e2 at *
   obtain ⟨a2,k2,hb2,hv2⟩:=hk2.bl
   refine ⟨rfl,cell_of hb2 (0+3),_,_,_,cell_of hb2 (0+2),?_⟩
   intro b3 hb3 h3 hh3
   have hx3:=Put.ext hh3 hb3
   refine ⟨cell_of (hx3 _ _ hb2) (0+2),?_⟩
   have ho:Own h3 9 1 (vL a2 c.vis.length k2) c.vis.length (c.vis.map fun l=>vS l):=Own.keep (fun b hb=>Put.chg hh3 b fun e=>by
    subst e
    rcases hv2.1.2 with ⟨q,_⟩ | ⟨b',cap,rest,q,q',_⟩
    . injection q with q;rw [hb] at q;cases q
    . injection q with q;rw [hb] at q;injection q with q;injection q with q;subst q;rw [hb3] at q';cases q') hv2.1
   refine Raw.mono (append_one und51 elem9 rfl rfl rfl rfl rfl ho (Put.at hh3) rfl rfl (by omega)) ?_
   rintro _ h4 ⟨b4,cap,rfl,ho4,hor,hx4⟩
   have hin:∀ {q o},h2 q=some o->h3 q=some o:=fun {q o} hq=>hx3 q o hq
   obtain ⟨L1,ck1,hm1,_⟩:=hk2.mg
   obtain ⟨L2,ck2,hm2,_⟩:=hk2.mf
   have hq4:b4≠cb/\b4≠m1/\b4≠m2/\g b4=none:=by
    rcases hor with hor | hor
    . refine ⟨fun e=>?_,fun e=>?_,fun e=>?_,?_⟩
      . subst e;rw [hin hb2] at hor;cases hor
      . subst e;rw [hin hm1] at hor;cases hor
      . subst e;rw [hin hm2] at hor;cases hor
      . cases hg:g b4 with
        | none=>rfl
        | some o=>rw [hin (hk2.ext _ _ hg)] at hor;cases hor
    . exact hv2.2 _ hor
   have hB4:KB g cb m1 m2 gl fn h4:=hk2.toKB.of (fun k o hk=>by
    rw [hx4 k (fun e=>by subst e;rw [hq4.2.2.2] at hk;cases hk)];exact hin (hk2.ext _ _ hk))
    (by rw [hx4 _ hq4.2.1.symm,hin hm1,hm1]) (by rw [hx4 _ hq4.2.2.1.symm,hin hm2,hm2])
   have hb4:=(hx4 _ hq4.1.symm).trans (hin hb2)
   refine ⟨_,_,_,rfl,_,_,_,hb4,⟨by simp,Nat.zero_le _⟩,?_⟩
   intro h5 hh5
   refine ⟨_,cell_of (Put.at hh5) (0+3),_,_,_,Put.at hh5,⟨by simp [splice],Nat.zero_le _⟩,?_⟩
   intro h6 hh6
   have hx:=(Put.chg hh5).trans (Put.chg hh6)
   refine hQ _ ⟨hB4.chg hx,hk2.er,by simp;omega,ad b4 0,cap,?_,KV.chg (h:=h4) ⟨?_,fun b hb=>?_⟩ hx⟩
   . have:=Put.at hh6
     rw [wrap64 (by show (-9223372036854775808:Int)<=(c.cnt:Int)+1;omega) (by show (c.cnt:Int)+1<=_;omega)] at this
     rw [this,List.length_append];rfl
   . rw [List.length_append,List.map_append];exact ho4
   . injection hb with hb;injection hb with hb;subst hb;exact hq4
 . have e:kd=5:=by have:=beq_iff_eq.1 e;omega
   subst e
   rw [if_neg (by decide),if_pos rfl] at hQ
   refine Tri.mono (list_t hih2 hA2 lp hk (by show c.cnt+_<=_;omega)) ?_
   rintro _ h1 ⟨rfl,hk1⟩
   have hg:=(ckSs_gr gl fn lp body ⟨e1,c.vis,c.cnt⟩).2.1
   refine ⟨rfl,?_⟩
   refine Tri.mono (list_t hih3 hA3 lp hk1 (by show (ckSs gl fn lp body ⟨e1,c.vis,c.cnt⟩).cnt+_<=_;simp only at hg;omega)) ?_
   rintro _ h2 ⟨rfl,hk2⟩
   exact ⟨rfl,hQ _ hk2⟩
 . have e:kd=6:=by have:=beq_iff_eq.1 e;omega
   subst e
   rw [if_neg (by decide),if_neg (by decide),if_pos rfl] at hQ
   refine Tri.mono (list_t hih2 hA2 true hk (by show c.cnt+_<=_;omega)) ?_
   rintro _ h1 ⟨rfl,hk1⟩
   exact ⟨rfl,hQ _ hk1⟩
 . have n1:kd≠1:=fun e=>by subst e;cases n1
   have n5:kd≠5:=fun e=>by subst e;cases n5
   have n6:kd≠6:=fun e=>by subst e;cases n6
   rw [if_neg n1,if_neg n5,if_neg n6] at hQ
   exact hQ _ hk
theorem stmt_t:∀ k e,cntS e<=k->XT s g cb m1 m2 gl fn e:=by
 intro k
 induction k with
 | zero=>intro e he;have:=cntS_pos e;omega
 | succ k ih=>
   intro e he cs c h lp hrel hk hc
   match e,he,hrel,hc with
   | .mk kd nm args body els pos,he,hrel,hc=>
   obtain ⟨a1,c1,a2,c2,a3,c3,rfl,hA1,hA2,hA3⟩:=RS_iff.1 hrel
   simp only [cntS] at he hc
   have hlen:=cntEs_len args
   have hvl:=hk.len
   have hih:∀ e∈args,XE s g cb m1 m2 gl fn e:=fun e hm=>expr_t _ e (Nat.le_refl _) (by have:=cntEs_mem hm;omega)
   have hih2:∀ e∈body,XT s g cb m1 m2 gl fn e:=fun e hm=>ih e (by have:=cntSs_mem hm;omega)
   have hih3:∀ e∈els,XT s g cb m1 m2 gl fn e:=fun e hm=>ih e (by have:=cntSs_mem hm;omega)
   refine T103 ?_
   unfold R103
   obtain ⟨pre,hpre⟩:∃ pre,pre=if kd=2∨kd=3 then varC gl c.vis nm (kd == 3) pos c.err else if kd=8∨kd=9 then failC (!lp) (some pos) 10 c.err else c.err:=⟨_,rfl⟩
   have hck:ckS gl fn lp (.mk kd nm args body els pos) c=if kd=1 then ⟨failC (decide (32<=c.cnt)) (some pos) 9 (failC (c.vis.contains nm) (some pos) 7 (ckEs gl fn c.vis args pre)),c.vis++[nm],c.cnt+1⟩
    else if kd=5 then ckL gl fn lp els (ckL gl fn lp body ⟨ckEs gl fn c.vis args pre,c.vis,c.cnt⟩) else if kd=6 then ckL gl fn true body ⟨ckEs gl fn c.vis args pre,c.vis,c.cnt⟩ else ⟨ckEs gl fn c.vis args pre,c.vis,c.cnt⟩:=by
    rw [hpre];rfl
   rw [hck]
   clear hck
   have hl:c.vis.length<=1000000:=by omega
   refine br_split (fun e=>?_) (fun n2=>br_split (fun e=>?_) (fun n3=>br_split (fun e=>?_) (fun n8=>br_split (fun e=>?_) (fun n9=>?_))))
   . have e:kd=2:=by have:=beq_iff_eq.1 e;omega
     refine Tri.mono (var_t hk hl nm _ pos) ?_
     rintro _ h1 ⟨rfl,hk1⟩
     refine ⟨rfl,loopE hih (by omega) hA1 rfl (fun h2 hq=>?_) hl (KS.to (e':=pre) hk1 (by rw [hpre,e];rfl))⟩
     exact tail_t hih2 hih3 hA2 hA3 hq (by omega) fun h hq=>⟨rfl,hq⟩
   . have e:kd=3:=by have:=beq_iff_eq.1 e;omega
     refine Tri.mono (var_t hk hl nm _ pos) ?_
     rintro _ h1 ⟨rfl,hk1⟩
     refine ⟨rfl,loopE hih (by omega) hA1 rfl (fun h2 hq=>?_) hl (KS.to (e':=pre) hk1 (by rw [hpre,e];rfl))⟩
     exact tail_t hih2 hih3 hA2 hA3 hq (by omega) fun h hq=>⟨rfl,hq⟩
   . have e:kd=8:=by have:=beq_iff_eq.1 e;omega
     refine Tri.mono (fail_t hk _ (some pos) 10 (by decide)) ?_
     rintro _ h1 ⟨rfl,hk1⟩
     refine ⟨rfl,loopE hih (by omega) hA1 rfl (fun h2 hq=>?_) hl (KS.to (e':=pre) hk1 (by rw [hpre,e];rfl))⟩
     exact tail_t hih2 hih3 hA2 hA3 hq (by omega) fun h hq=>⟨rfl,hq⟩
   . have e:kd=9:=by have:=beq_iff_eq.1 e;omega
     refine Tri.mono (fail_t hk _ (some pos) 10 (by decide)) ?_
     rintro _ h1 ⟨rfl,hk1⟩
     refine ⟨rfl,loopE hih (by omega) hA1 rfl (fun h2 hq=>?_) hl (KS.to (e':=pre) hk1 (by rw [hpre,e];rfl))⟩
     exact tail_t hih2 hih3 hA2 hA3 hq (by omega) fun h hq=>⟨rfl,hq⟩
   . have n2:kd≠2:=fun e=>by subst e;cases n2
     have n3:kd≠3:=fun e=>by subst e;cases n3
     have n8:kd≠8:=fun e=>by subst e;cases n8
     have n9:kd≠9:=fun e=>by subst e;cases n9
     refine loopE hih (by omega) hA1 rfl (fun h2 hq=>?_) hl (KS.to (e':=pre) hk (by rw [hpre,if_neg (by omega),if_neg (by omega)]))
     exact tail_t hih2 hih3 hA2 hA3 hq (by omega) fun h hq=>⟨rfl,hq⟩
end
end Go.Proofs.D
namespace Go.Proofs.D
open Go Go.Den Go.Sx
set_option maxRecDepth 100000
attribute [local irreducible] IntKind.wrap Tri parseS
section
variable {s : Bytes} {g : PHeap} {cb m1 m2 : Nat} {gl fn : Tab} {c : CS} {h h' : PHeap}
theorem KV.away {a:OA} {k q:Nat} {vis:List Bytes} (hk:KV g cb m1 m2 h a k vis) (hq:q=m1∨q=m2) (x:Chg q h h'):KV g cb m1 m2 h' a k vis:=
 ⟨Own.keep (fun b hb=>x b (by have:=hk.2 b hb;rcases hq with rfl | rfl;exact this.2.1;exact this.2.2.1)) hk.1,hk.2⟩
theorem updG (hk:KS s g cb m1 m2 gl fn c h) {ρ:Operand->Value} {m k v:Operand} {l nm:Bytes} {z:Nat} {i1 i2 i3:Int} (hm:ρ m=vM m1) (hl:ρ k=vS l) (hv:ρ v=vA [vS nm,vI z,vI i1,vI i2,vI i3]) (ty:TypeId):
 Raw Tryz.prog (execOp ρ (mkO (.mapUpdate 111 m k v) ty)) h fun v h'=>v=vT []/\KS s g cb m1 m2 ((l,z)::gl) fn c h':=by
 obtain ⟨L,ck,h1,h2⟩:=hk.mg
 refine Raw.mono (raw_updS (.inl rfl) und111 rfl hm hl hv h1) ?_
 rintro _ h' ⟨rfl,ck',rfl,_⟩
 have hx:=Chg.put m1 h (.map ⟨ents (mapSet l (vA [vS nm,vI z,vI i1,vI i2,vI i3]) ck L)⟩ ck')
 obtain ⟨a,k,hb,hv⟩:=hk.bl
 refine ⟨rfl,⟨⟨ext_away hk.f1 hk.ext hx.away,hk.f0,hk.f1,hk.f2,hk.n1,hk.n2,hk.n3,⟨_,_,put_same _ _ _,fun n=>?_⟩,?_⟩,hk.er,hk.len,a,k,?_,hv.away (.inl rfl) hx⟩⟩
 . simp only [getT,mapGet_set]
   have:=h2 n
   by_cases e:(n == l)=true
   . rw [if_pos e,if_pos e];exact ⟨_,_,_,_,rfl⟩
   . rw [if_neg e,if_neg e];exact this
 . obtain ⟨L2,ck2,g1,g2⟩:=hk.mf
   exact ⟨L2,ck2,by rw [hx _ hk.n3.symm];exact g1,g2⟩
 . rw [hx _ hk.n1.symm];exact hb
theorem updF (hk:KS s g cb m1 m2 gl fn c h) {ρ:Operand->Value} {m k v:Operand} {l:Bytes} {z:Nat} (hm:ρ m=vM m2) (hl:ρ k=vS l) (hv:ρ v=vI z) (ty:TypeId):
 Raw Tryz.prog (execOp ρ (mkO (.mapUpdate 112 m k v) ty)) h fun v h'=>v=vT []/\KS s g cb m1 m2 gl ((l,z)::fn) c h':=by
 obtain ⟨L,ck,h1,h2⟩:=hk.mf
 refine Raw.mono (raw_updS (.inl rfl) und112 rfl hm hl hv h1) ?_
 rintro _ h' ⟨rfl,ck',rfl,_⟩
 have hx:=Chg.put m2 h (.map ⟨ents (mapSet l (vI z) ck L)⟩ ck')
 obtain ⟨a,k,hb,hv⟩:=hk.bl
 refine ⟨rfl,⟨⟨ext_away hk.f2 hk.ext hx.away,hk.f0,hk.f1,hk.f2,hk.n1,hk.n2,hk.n3,?_,⟨_,_,put_same _ _ _,fun n=>?_⟩⟩,hk.er,hk.len,a,k,?_,hv.away (.inr rfl) hx⟩⟩
 . obtain ⟨L2,ck2,g1,g2⟩:=hk.mg
   exact ⟨L2,ck2,by rw [hx _ hk.n3];exact g1,g2⟩
 . simp only [getT,mapGet_set]
   have:=h2 n
   by_cases e:(n == l)=true
   . rw [if_pos e,if_pos e];rfl
   . rw [if_neg e,if_neg e];exact this
 . rw [hx _ hk.n2.symm];exact hb
theorem ge_cast (i n:Nat):decide (((i:Nat):Int)≥(n:Nat))=decide (n<=i):=by rw [Bool.eq_iff_iff];simp
theorem gt_cast (i n:Nat):decide (((i:Nat):Int) > (n:Nat))=decide (n < i):=by rw [Bool.eq_iff_iff];simp
theorem global_t (hk:KS s g cb m1 m2 gl fn c h) (i:Nat) (x:G):Tri Tryz.prog 57 [vP cb 0,vI i,vA [vS x.name,vI x.size,vI x.value,vI (place s x.pos).1,vI (place s x.pos).2]] h
 fun v h'=>v=vT []/\KS s g cb m1 m2 ((x.name,x.size)::gl) fn { c with err:=ckG i gl x c.err } h':=by
 refine T57 ?_
 unfold R57
 obtain ⟨a,k,hb,hv⟩:=hk.bl
 refine ⟨_,cell_of hb 0,?_,rfl,cell_of hb 0,?_⟩
 all_goals
  refine Raw.mono (lookG hk.toKB rfl rfl 181) ?_
  rintro _ h ⟨rfl,_,_,_,_,rfl⟩
  refine ⟨_,_,_,_,_,_,rfl,?_⟩
  refine Tri.mono (fail_t hk _ (some x.pos) 9 (by decide)) ?_
  rintro _ h1 ⟨rfl,hk1⟩
  refine ⟨rfl,br_split (fun e=>?_) (fun e=>?_)⟩
  . refine ⟨rfl,rfl,?_⟩
    refine Tri.mono (fail_t hk1 _ (some x.pos) 7 (by decide)) ?_
    rintro _ h2 ⟨rfl,hk2⟩
    refine ⟨rfl,br_neg (by simp) ?_⟩
    refine Tri.mono (fail_t hk2 _ (some x.pos) 2 (by decide)) ?_
    rintro _ h3 ⟨rfl,hk3⟩
    obtain ⟨a3,k3,hb3,hv3⟩:=hk3.bl
    refine ⟨rfl,_,cell_of hb3 0,?_⟩
    refine Raw.mono (updG hk3 rfl rfl rfl 0) ?_
    rintro _ h4 ⟨rfl,hk4⟩
    refine ⟨rfl,rfl,KS.to hk4 ?_⟩
    simp only [ckG,e,Bool.true_or]
    rw [←ge_cast,←gt_cast];rfl
  . refine Tri.mono (isBuiltin_t x.name h1) ?_
    rintro _ h1 ⟨rfl,rfl⟩
    refine ⟨_,rfl,rfl,rfl,?_⟩
    refine Tri.mono (fail_t hk1 _ (some x.pos) 7 (by decide)) ?_
    rintro _ h2 ⟨rfl,hk2⟩
    refine ⟨rfl,br_neg (by simp) ?_⟩
    refine Tri.mono (fail_t hk2 _ (some x.pos) 2 (by decide)) ?_
    rintro _ h3 ⟨rfl,hk3⟩
    obtain ⟨a3,k3,hb3,hv3⟩:=hk3.bl
    refine ⟨rfl,_,cell_of hb3 0,?_⟩
    refine Raw.mono (updG hk3 rfl rfl rfl 0) ?_
    rintro _ h4 ⟨rfl,hk4⟩
    refine ⟨rfl,rfl,KS.to hk4 ?_⟩
    simp only [ckG,e,Bool.false_or]
    rw [←ge_cast,←gt_cast];rfl
theorem loopP {ps:List Bytes} {a:OA} {ac pos:Nat} (hA:At 1 RStr g a ps) (hok:okN a ps.length ac) (hlen:ps.length<=1000000) {Q:PHeap->Prop} {T1 T2 T3 T4 T5:Prop} (t1:T1) (t2:T2) (t3:T3) (t4:T4) (t5:T5) {e0:Er}
 (hQ:∀ h,KS s g cb m1 m2 gl fn { c with err:=ckPs pos [] ps e0 } h->Q h) (hk:KS s g cb m1 m2 gl fn { c with err:=e0 } h):
 ∃ (I:Nat->Int->PHeap->Prop),(∃ (m2:Nat),I m2 (0:Int) h)/\∀ (m1:Nat) (i:Int) (h_6:PHeap),I m1 i h_6->
   br (decide (i < ((ps.length:Nat):Int)))
    (∃ (b1 o2:Nat),a=some ⟨b1,o2,none⟩/\(0<=i/\i < ps.length)/\∃ (l3:Bs),h_6.cell b1 (o2+(i).toNat * 1)=some (vS l3)/\
     (okA a ps.length ac/\0<=(0:Int)/\(0:Int)<=i/\i<=ac)/\∀ (a3:OA),SlA a a3 0 ac 1->
     Tri Tryz.prog 102 [vL a3 ((i).toNat - 0) (ac - 0),vS l3] h_6 fun v_6 h_7=>∃ (c3:Bool),v_6=vB c3/\T1/\T2/\T3/\
      Tri Tryz.prog 59 [vP cb 0,vB c3,vI ((place s pos).1:Nat),vI ((place s pos).2:Nat),vI 7] h_7 fun v_7 h_8=>v_7=vT []/\T3/\∃ (m5:Nat),m5 < m1/\I m5 (IntKind.i64.wrap (i+1)) h_8/\T4/\T5/\True)
    (Q h_6):=by
 refine ⟨fun m i h'=>∃ (j:Nat) (e:Er),i=j/\j+m=ps.length/\KS s g cb m1 m2 gl fn { c with err:=e } h'/\ckPs pos (ps.take j) (ps.drop j) e=ckPs pos [] ps e0,⟨ps.length,0,e0,rfl,by omega,hk,rfl⟩,?_⟩
 rintro m _ h1 ⟨j,e,rfl,hjm,hk1,he⟩
 refine br_split (fun e2=>?_) (fun e2=>?_)
 . have hj:j < ps.length:=by
    have:=of_decide_eq_true e2
    omega
   rcases hA with hA | ⟨b,o,rfl,hA⟩
   . subst hA;simp at hj
   have hcell:∀ q l,ps[q]? =some l->h1.cell b (o+q)=some (vS l):=fun q l hq=>by
    obtain ⟨cs,g1,g2⟩:=hA q l hq
    have g2:cs=[vS l]:=g2
    subst g2
    have:h1.cell b (o+q * 1)=some (vS l):=row_ext (fun ob=>hk1.ext b ob) g1
    rwa [Nat.mul_one] at this
   refine ⟨b,o,rfl,⟨by omega,by omega⟩,ps[j],?_,⟨.inl ⟨b,o,rfl⟩,by omega,by omega,by have:=hok.1;omega⟩,?_⟩
   . have:=hcell j _ (List.getElem?_eq_getElem hj)
     simpa using this
   intro a3 ha3
   obtain ⟨o',rfl,ho'⟩:=ha3.1 b o rfl
   have ho':=ho' (.inr rfl)
   have hstr:StrAt h1 (ad b o') (ps.take j):= .inr ⟨b,o',rfl,fun q l hq=>by
    have hq':q < j:=by
     have:=(List.getElem?_eq_some_iff.1 hq).1
     simp at this;omega
    rw [ho',Nat.zero_mul,Nat.add_zero]
    rw [List.getElem?_take_of_lt hq'] at hq
    exact hcell q l hq⟩
   have hct:=contains_tri (c:=ac - 0) ps[j] hstr (by simp;omega)
   rw [show (ps.take j).length=(((j:Nat):Int)).toNat - 0 by simp;omega] at hct
   refine Tri.mono hct ?_
   rintro _ h1 ⟨rfl,rfl⟩
   refine ⟨_,rfl,t1,t2,t3,?_⟩
   refine Tri.mono (fail_t hk1 _ (some pos) 7 (by decide)) ?_
   rintro _ h2 ⟨rfl,hk2⟩
   refine ⟨rfl,t3,m - 1,by omega,⟨j+1,_,?_,by omega,hk2,?_⟩,t4,t5,trivial⟩
   . rw [wrap64 (by omega) (by omega)];rfl
   . rw [←he,List.drop_eq_getElem_cons hj,ckPs,←List.take_append_getElem hj]
 . have:ps.length<=j:=by
    have:=of_decide_eq_false e2
    omega
   rw [List.drop_eq_nil_of_le this] at he
   exact hQ _ (KS.to hk1 he)
theorem function_t (hk:KS s g cb m1 m2 gl fn c h) (i:Nat) (x:F) {a a2:OA} {ac c2:Nat} (hA:At 1 RStr g a x.params) (hok:okN a x.params.length ac) (hlen:x.params.length<=1000000):
 Tri Tryz.prog 58 [vP cb 0,vI i,vA [vS x.name,vL a x.params.length ac,vL a2 x.body.length c2,vI (place s x.pos).1,vI (place s x.pos).2]] h
 fun v h'=>v=vT []/\KS s g cb m1 m2 gl ((x.name,x.params.length)::fn) { c with err:=ckF i gl fn x c.err } h':=by
 refine T58 ?_
 unfold R58
 obtain ⟨a0,k0,hb,hv⟩:=hk.bl
 have fin:∀ {h:PHeap},KS s g cb m1 m2 gl fn { c with err:=ckF i gl fn x c.err } h->∃ (m6:Nat),h.cell cb (0+1)=some (vM m6)/\
  Raw Tryz.prog (execOp (rho [(89,vM m6),(91,vS x.name),(94,vI ((x.params.length:Nat):Int))]) (mkO o58_10 0)) h fun v_8 h_9=>v_8=vT []/\vT []=vT []/\KS s g cb m1 m2 gl ((x.name,x.params.length)::fn) { c with err:=ckF i gl fn x c.err } h_9:=fun {h} hk=>by
  obtain ⟨a3,k3,hb3,hv3⟩:=hk.bl
  refine ⟨_,cell_of hb3 (0+1),?_⟩
  refine Raw.mono (updF hk rfl rfl rfl 0) ?_
  rintro _ h4 ⟨rfl,hk4⟩
  exact ⟨rfl,rfl,hk4⟩
 refine ⟨_,cell_of hb 0,?_,rfl,cell_of hb 0,?_⟩
 all_goals
  refine Raw.mono (lookG hk.toKB rfl rfl 181) ?_
  rintro _ h ⟨rfl,_,_,_,_,rfl⟩
  refine ⟨_,_,_,_,_,_,rfl,_,cell_of hb (0+1),?_⟩
  refine Raw.mono (lookF hk.toKB rfl rfl 117) ?_
  rintro _ h ⟨rfl,rfl⟩
  refine ⟨_,_,rfl,?_⟩
  refine Tri.mono (fail_t hk _ (some x.pos) 9 (by decide)) ?_
  rintro _ h1 ⟨rfl,hk1⟩
  refine ⟨rfl,br_split (fun e=>?_) (fun e=>br_split (fun e'=>?_) (fun e'=>?_))⟩
  . refine ⟨rfl,rfl,?_⟩
    refine Tri.mono (fail_t hk1 _ (some x.pos) 7 (by decide)) ?_
    rintro _ h2 ⟨rfl,hk2⟩
    refine ⟨rfl,?_⟩
    refine Tri.mono (fail_t hk2 _ (some x.pos) 9 (by decide)) ?_
    rintro _ h3 ⟨rfl,hk3⟩
    refine ⟨rfl,loopP (pos:=x.pos) hA hok hlen rfl rfl rfl rfl rfl (fun h hq=>fin (KS.to hq ?_)) hk3⟩
    simp only [ckF,e,Bool.true_or]
    rw [←ge_cast,←gt_cast];rfl
  . refine ⟨rfl,rfl,?_⟩
    refine Tri.mono (fail_t hk1 _ (some x.pos) 7 (by decide)) ?_
    rintro _ h2 ⟨rfl,hk2⟩
    refine ⟨rfl,?_⟩
    refine Tri.mono (fail_t hk2 _ (some x.pos) 9 (by decide)) ?_
    rintro _ h3 ⟨rfl,hk3⟩
    refine ⟨rfl,loopP (pos:=x.pos) hA hok hlen rfl rfl rfl rfl rfl (fun h hq=>fin (KS.to hq ?_)) hk3⟩
    simp only [ckF,e,e',Bool.true_or,Bool.or_true]
    rw [←ge_cast,←gt_cast];rfl
  . refine Tri.mono (isBuiltin_t x.name h1) ?_
    rintro _ h1 ⟨rfl,rfl⟩
    refine ⟨_,rfl,rfl,rfl,?_⟩
    refine Tri.mono (fail_t hk1 _ (some x.pos) 7 (by decide)) ?_
    rintro _ h2 ⟨rfl,hk2⟩
    refine ⟨rfl,?_⟩
    refine Tri.mono (fail_t hk2 _ (some x.pos) 9 (by decide)) ?_
    rintro _ h3 ⟨rfl,hk3⟩
    refine ⟨rfl,loopP (pos:=x.pos) hA hok hlen rfl rfl rfl rfl rfl (fun h hq=>fin (KS.to hq ?_)) hk3⟩
    simp only [ckF,e,e',Bool.false_or]
    rw [←ge_cast,←gt_cast];rfl
theorem clone_t {L:List Bytes} {a:OA} {ac:Nat} (hs:StrAt h a L) (hok:okN a L.length ac) (hl:L.length<=1000000):
 Tri Tryz.prog 60 [vL a L.length ac] h fun v h'=>∃ a' k',v=vL a' L.length k'/\Own h' 9 1 (vL a' L.length k') L.length (L.map fun l=>vS l)/\Ext h h'/\∀ b,a'=ad b 0->h b=none:=by
 by_cases h0:L.length=0
 . obtain ⟨rfl,rfl⟩:=hok.2 h0
   obtain rfl:=List.eq_nil_of_length_eq_zero h0
   refine T60n ?_
   unfold R60n
   exact ⟨none,0,rfl,⟨by simp, .inl ⟨rfl,rfl⟩⟩,Ext.refl _,fun b hb=>by cases hb⟩
 rcases hs with hs | ⟨b,o,rfl,hs⟩
 . subst hs;simp at h0
 refine T60p ?_
 unfold R60p
 intro b2 hb2 h1 hh1
 have hx1:=Put.ext hh1 hb2
 have hrow:h1.row b o (L.map fun l=>vS l):=Go.Den.row_of _ _ fun j v hj=>by
  rw [List.getElem?_map] at hj
  cases hL:L[j]? with
  | none=>rw [hL] at hj;cases hj
  | some l=>rw [hL] at hj;cases hj;exact cell_ext (fun ob=>hx1 b ob) (hs j l hL)
 have hone:allOne (L.map fun l=>vS l)=true:=by
  clear hs h0 hok hl hrow
  induction L with
  | nil=>rfl
  | cons x L ih=>exact ih
 refine Raw.mono (raw_append (i:=Tryz.t9) rfl rfl rfl und51 rfl rfl rfl rfl (n:=0) (xs:=[]) ⟨by simp, .inr ⟨b2,0,[],rfl,Put.at hh1,by simp,by omega⟩⟩ (SrcH.row und51 (by rw [List.length_map];show L.length=L.length * 1;omega) hrow hone) rfl (by omega) (by show (16 * (0+L.length)+16384) * 16<=_;omega) (by omega)) ?_
 rintro _ h2 ⟨b',cap,rest,rfl,rfl,hr,hcap,hb'⟩
 have hn:h b'=none:=by
  rcases hb' with hb' | ⟨_,hb'⟩
  . cases hh:h b' with
    | none=>rfl
    | some o=>rw [hx1 _ _ hh] at hb';cases hb'
  . injection hb' with hb';injection hb' with hb';injection hb' with hb';subst hb';exact hb2
 refine ⟨_,_,_,rfl,_,_,by rw [Nat.zero_add],⟨by simp, .inr ⟨b',cap,rest,rfl,by rw [put_same];rfl,?_,by omega⟩⟩,?_,fun q hq=>?_⟩
 . rw [hr,Nat.zero_add];rfl
 . intro k o hk
   rw [put_ne (fun e=>by subst e;rw [hn] at hk;cases hk)]
   exact hx1 _ _ hk
 . injection hq with hq;injection hq with hq;subst hq;exact hn
end
end Go.Proofs.D
namespace Go.Proofs.D
open Go Go.Den Go.Sx
set_option maxRecDepth 100000
attribute [local irreducible] IntKind.wrap Tri parseS
section
variable {s : Bytes} {g : PHeap} {cb m1 m2 : Nat} {gl fn : Tab} {c : CS} {h h' : PHeap}
theorem RStr_str {h:PHeap} {a:OA} {L:List Bytes} (hA:At 1 RStr h a L):StrAt h a L:=by
 rcases hA with hA | ⟨b,o,ha,hA⟩
 . exact .inl hA
 . refine .inr ⟨b,o,ha,fun j l hj=>?_⟩
   obtain ⟨cs,g1,g2⟩:=hA j l hj
   have g2:cs=[vS l]:=g2
   subst g2
   have:h.cell b (o+j * 1)=some (vS l):=g1
   rwa [Nat.mul_one] at this
theorem loopB {fs:List F} (hc:cntFs fs<=10000) {fa:OA} (hF:At 5 (RF (plP s) 8 7) g fa fs) {Q:PHeap->Prop} {T:Prop} (hT:T)
 (hk:KS s g cb m1 m2 gl fn c h) (hQ:∀ h c',KS s g cb m1 m2 gl fn c' h->c'.err=ckB gl fn fs c.err->Q h):
 ∃ (I_3:Nat->Int->PHeap->Prop),(∃ (m11:Nat),I_3 m11 (0:Int) h)/\∀ (m10:Nat) (i10:Int) (h_11:PHeap),I_3 m10 i10 h_11->
   br (decide (i10 < ((fs.length:Nat):Int)))
    (∃ (b4 o3:Nat),fa=some ⟨b4,o3,none⟩/\(0<=i10/\i10 < fs.length)/\
     ∃ (l3:Bs) (a5:OA) (n5 k5:Nat) (a6:OA) (n6 k6:Nat) (i11 i12:Int),h_11.row b4 (o3+(i10).toNat * 5) [vS l3,vL a5 n5 k5,vL a6 n6 k6,vI i11,vI i12]/\
     Tri Tryz.prog 60 [vL a5 n5 k5] h_11 fun v_8 h_12=>∃ (a7:OA) (n7 k7:Nat),v_8=vL a7 n7 k7/\
      ∃ (l4:List Value) (t1:TypeId) (z1:Nat×Nat),h_12 cb=some (.cells ⟨l4⟩ t1 z1)/\(2+1<=l4.length/\z1.2<=2)/\∀ (h_13:PHeap),h_13=h_12.put cb (.cells ⟨splice l4 2 [vL a7 n7 k7]⟩ t1 z1)->
        ∃ (l5:List Value) (t2:TypeId) (z2:Nat×Nat),h_13 cb=some (.cells ⟨l5⟩ t2 z2)/\(3+1<=l5.length/\z2.2<=3)/\∀ (h_14:PHeap),h_14=h_13.put cb (.cells ⟨splice l5 3 [vI ((n5:Nat):Int)]⟩ t2 z2)->
          Tri Tryz.prog 61 [vP cb 0,vL a6 n6 k6,vB false] h_14 fun v_9 h_15=>v_9=vT []/\∃ (m12:Nat),m12 < m10/\I_3 m12 (IntKind.i64.wrap (i10+1)) h_15/\T/\True)
    (Q h_11):=by
 have hlen:=cntFs_len fs
 refine ⟨fun m i h'=>∃ (j:Nat) (c':CS),i=j/\j+m=fs.length/\KS s g cb m1 m2 gl fn c' h'/\ckB gl fn (fs.drop j) c'.err=ckB gl fn fs c.err,⟨fs.length,0,c,rfl,by omega,hk,rfl⟩,?_⟩
 rintro m _ h1 ⟨j,c',rfl,hjm,hk1,he⟩
 refine br_split (fun e2=>?_) (fun e2=>?_)
 . have hj:j < fs.length:=by
    have:=of_decide_eq_true e2
    omega
   obtain ⟨b,o,cs,rfl,hr,hrel⟩:=hF.get hj
   have hcj:=cntFs_mem (List.getElem_mem hj)
   rw [List.drop_eq_getElem_cons hj,ckB] at he
   generalize fs[j]=x at *
   obtain ⟨a1,c1,a2,c2,rfl,hP,hB,hok⟩:=hrel
   simp only [cntF] at hcj
   refine ⟨b,o,rfl,⟨by omega,by omega⟩,_,_,_,_,_,_,_,_,_,row_ext (fun ob=>hk1.ext b ob) hr,?_⟩
   refine Tri.mono (clone_t ((RStr_str hP).ext hk1.ext) hok (by omega)) ?_
   rintro _ h2 ⟨a',k',rfl,ho2,hx2,hf2⟩
   obtain ⟨a0,k0,hb0,hv0⟩:=hk1.bl
   refine ⟨_,_,_,rfl,_,_,_,hx2 _ _ hb0,⟨by simp,Nat.zero_le _⟩,?_⟩
   intro h3 hh3
   refine ⟨_,_,_,Put.at hh3,⟨by simp [splice],Nat.zero_le _⟩,?_⟩
   intro h4 hh4
   have hx4:=(Put.chg hh3).trans (Put.chg hh4)
   obtain ⟨L1,ck1,hm1,_⟩:=hk1.mg
   obtain ⟨L2,ck2,hm2,_⟩:=hk1.mf
   have hB2:KB g cb m1 m2 gl fn h2:=hk1.toKB.of (hk1.ext.trans hx2) (by rw [hx2 _ _ hm1,hm1]) (by rw [hx2 _ _ hm2,hm2])
   have hv2:KV g cb m1 m2 h2 a' k' x.params:=⟨ho2,fun q hq=>by
    have hn:=hf2 q hq
    refine ⟨fun e=>?_,fun e=>?_,fun e=>?_,?_⟩
    . subst e;rw [hb0] at hn;cases hn
    . subst e;rw [hm1] at hn;cases hn
    . subst e;rw [hm2] at hn;cases hn
    . cases hg:g q with
      | none=>rfl
      | some o=>rw [hk1.ext _ _ hg] at hn;cases hn⟩
   have hk4:KS s g cb m1 m2 gl fn ⟨c'.err,x.params,x.params.length⟩ h4:=⟨hB2.chg hx4,hk1.er,Nat.le_refl _,a',k',Put.at hh4,hv2.chg hx4⟩
   refine Tri.mono (list_t (fun e _=>stmt_t _ e (Nat.le_refl _)) hB false hk4 (by show x.params.length+cntSs x.body<=_;omega)) ?_
   rintro _ h5 ⟨rfl,hk5⟩
   refine ⟨rfl,m - 1,by omega,⟨j+1,_,?_,by omega,hk5,he⟩,hT,trivial⟩
   rw [wrap64 (by omega) (by omega)];rfl
 . have:fs.length<=j:=by
    have:=of_decide_eq_false e2
    omega
   rw [List.drop_eq_nil_of_le this] at he
   exact hQ _ _ hk1 he
theorem check_tri {p:Pg} (hw:∀ f∈p.funcs,wfSs f.body) (hc:cntP p<=4097) {ga fa:OA} {gc fc:Nat} (hG:At 5 (RG (plP s)) h ga p.globals) (hF:At 5 (RF (plP s) 8 7) h fa p.funcs):
 Tri Tryz.prog 19 [vA [vL ga p.globals.length gc,vL fa p.funcs.length fc]] h fun v h'=>v=vT [vI (erp s (checkS p)).1,vI (erp s (checkS p)).2.1,vI (erp s (checkS p)).2.2]/\Ext h h':=by
 refine T19 ?_
 unfold R19
 refine Tri.mono (tree_tri hw hc hF) ?_
 rintro _ h1 ⟨rfl,hx1⟩
 have hG:=hG.ext (RG_mono _) hx1
 have hF:=hF.ext (RF_mono _ _ _) hx1
 refine ⟨_,rfl,br_neg rfl ?_⟩
 refine raw_makeMap fun m1 hm1=>⟨m1,rfl,?_⟩
 refine raw_makeMap fun m2 hm2=>⟨m2,rfl,?_⟩
 intro cb hcb h4 hh4
 simp only [cntP] at hc
 have hlen:=cntFs_len p.funcs
 have hn21:m2≠m1:=fun e=>by subst e;rw [put_same] at hm2;cases hm2
 have hm2':h1 m2=none:=by rwa [put_ne hn21] at hm2
 have hnc2:cb≠m2:=fun e=>by subst e;rw [put_same] at hcb;cases hcb
 rw [put_ne hnc2] at hcb
 have hnc1:cb≠m1:=fun e=>by subst e;rw [put_same] at hcb;cases hcb
 rw [put_ne hnc1] at hcb
 have hk4:KS s h1 cb m1 m2 [] [] ⟨none,[],0⟩ h4:=by
  refine ⟨⟨fun k o hk=>?_,hcb,hm1,hm2',hnc1.symm,hnc2.symm,hn21.symm,⟨[],0,?_,fun n=>rfl⟩,⟨[],0,?_,fun n=>rfl⟩⟩,(fun x hx=>by cases hx),Nat.le_refl _,none,0,Put.at hh4,⟨by simp, .inl ⟨rfl,rfl⟩⟩,fun b hb=>by cases hb⟩
  . rw [hh4,put_ne (fun e=>by subst e;rw [hcb] at hk;cases hk),put_ne (fun e=>by subst e;rw [hm2'] at hk;cases hk),put_ne (fun e=>by subst e;rw [hm1] at hk;cases hk)]
    exact hk
  . rw [hh4,put_ne hnc1.symm,put_ne hn21.symm,put_same];rfl
  . rw [hh4,put_ne hnc2.symm,put_same];rfl
 clear hh4 hcb hm1 hm2 hn21 hm2' hnc1 hnc2
 refine ⟨fun m i h'=>∃ (j:Nat) (gl:Tab) (e:Er),i=j/\j+m=p.globals.length/\KS s h1 cb m1 m2 gl [] ⟨e,[],0⟩ h'/\ckGs j (p.globals.drop j) gl e=ckGs 0 p.globals [] none,⟨p.globals.length,0,[],none,rfl,by omega,hk4,rfl⟩,?_⟩
 clear hk4
 rintro m _ h5 ⟨j,gl,e,rfl,hjm,hk5,he⟩
 refine br_split (fun e2=>?_) (fun e2=>?_)
 . have hj:j < p.globals.length:=by
    have:=of_decide_eq_true e2
    omega
   obtain ⟨b,o,cs,rfl,hr,hrel⟩:=hG.get hj
   rw [List.drop_eq_getElem_cons hj,ckGs] at he
   generalize p.globals[j]=x at *
   have hrel:cs=[vS x.name,vI x.size,vI x.value]++plP s x.pos:=hrel
   subst hrel
   refine ⟨b,o,rfl,⟨by omega,by omega⟩,_,_,_,_,_,row_ext (fun ob=>hk5.ext b ob) hr,?_⟩
   refine Tri.mono (global_t hk5 j x) ?_
   rintro _ h6 ⟨rfl,hk6⟩
   refine ⟨rfl,m - 1,by omega,⟨j+1,_,_,?_,by omega,hk6,he⟩,rfl,trivial⟩
   rw [wrap64 (by omega) (by omega)];rfl
 have:p.globals.length<=j:=by
  have:=of_decide_eq_false e2
  omega
 rw [List.drop_eq_nil_of_le this] at he
 have he1:gl=(ckGs 0 p.globals [] none).1:=(congrArg Prod.fst he)
 have he2:e=(ckGs 0 p.globals [] none).2:=(congrArg Prod.snd he)
 clear e2 this he hjm
 refine ⟨fun m i h'=>∃ (j:Nat) (fn:Tab) (e':Er),i=j/\j+m=p.funcs.length/\KS s h1 cb m1 m2 gl fn ⟨e',[],0⟩ h'/\ckFs gl j (p.funcs.drop j) fn e'=ckFs gl 0 p.funcs [] e,⟨p.funcs.length,0,[],e,rfl,by omega,hk5,rfl⟩,?_⟩
 rintro m _ h7 ⟨j,fn,e',rfl,hjm,hk7,he⟩
 refine br_split (fun e3=>?_) (fun e3=>?_)
 . have hj:j < p.funcs.length:=by
    have:=of_decide_eq_true e3
    omega
   obtain ⟨b,o,cs,rfl,hr,hrel⟩:=hF.get hj
   have hcj:=cntFs_mem (List.getElem_mem hj)
   rw [List.drop_eq_getElem_cons hj,ckFs] at he
   generalize p.funcs[j]=x at *
   obtain ⟨a1,c1,a2,c2,rfl,hP,hB,hok⟩:=hrel
   simp only [cntF] at hcj
   refine ⟨b,o,rfl,⟨by omega,by omega⟩,_,_,_,_,_,_,_,_,_,row_ext (fun ob=>hk7.ext b ob) hr,?_⟩
   refine Tri.mono (function_t hk7 j x hP hok (by omega)) ?_
   rintro _ h8 ⟨rfl,hk8⟩
   refine ⟨rfl,m - 1,by omega,⟨j+1,_,_,?_,by omega,hk8,he⟩,rfl,trivial⟩
   rw [wrap64 (by omega) (by omega)];rfl
 have:p.funcs.length<=j:=by
  have:=of_decide_eq_false e3
  omega
 rw [List.drop_eq_nil_of_le this] at he
 have he3:fn=(ckFs gl 0 p.funcs [] e).1:=(congrArg Prod.fst he)
 have he4:e'=(ckFs gl 0 p.funcs [] e).2:=(congrArg Prod.snd he)
 clear e3 this he hjm
 obtain ⟨a7,k7,hb7,hv7⟩:=hk7.bl
 refine ⟨_,cell_of hb7 1,?_⟩
 refine Raw.mono (lookF (l:=mainS) hk7.toKB rfl rfl 117) ?_
 rintro _ h7 ⟨rfl,rfl⟩
 have hck:checkS p=ckB gl fn p.funcs (failC ((getT fn mainS).isNone || ((getT fn mainS).getD 0 != 0)) none 8 e'):=by
  rw [checkS,he4,he3,he2,he1]
 have fin:∀ (h9:PHeap) (c':CS),KS s h1 cb m1 m2 gl fn c' h9->c'.err=ckB gl fn p.funcs (failC ((getT fn mainS).isNone || ((getT fn mainS).getD 0 != 0)) none 8 e')->
  ∃ (i13:Int),h9.cell cb 4=some (vI i13)/\∃ (i14:Int),h9.cell cb 5=some (vI i14)/\∃ (i15:Int),h9.cell cb 6=some (vI i15)/\
    vT [vI i13,vI i14,vI i15]=vT [vI (erp s (checkS p)).1,vI (erp s (checkS p)).2.1,vI (erp s (checkS p)).2.2]/\Ext h h9:=fun h9 c' hk9 he9=>by
  obtain ⟨a9,k9,hb9,hv9⟩:=hk9.bl
  refine ⟨_,cell_of hb9 4,_,cell_of hb9 5,_,cell_of hb9 6,?_,hx1.trans hk9.ext⟩
  rw [he9,←hck]
 refine ⟨_,_,rfl,br_split (fun e5=>?_) (fun e5=>?_)⟩
 . have e5:(getT fn mainS).isNone=true:=by cases hq:getT fn mainS with
    | none=>rfl
    | some x=>rw [hq] at e5;cases e5
   refine Tri.mono (fail_t hk7 _ none 8 (by decide)) ?_
   rintro _ h8 ⟨rfl,hk8⟩
   refine ⟨rfl,loopB (by omega) hF rfl hk8 fun h9 c' hk9 he9=>fin h9 c' hk9 ?_⟩
   rw [he9,e5,Bool.true_or]
 . have e5:(getT fn mainS).isNone=false:=by cases hq:getT fn mainS with
    | none=>rw [hq] at e5;cases e5
    | some x=>rfl
   refine Tri.mono (fail_t hk7 _ none 8 (by decide)) ?_
   rintro _ h8 ⟨rfl,hk8⟩
   refine ⟨rfl,loopB (by omega) hF rfl hk8 fun h9 c' hk9 he9=>fin h9 c' hk9 ?_⟩
   rw [he9,e5,Bool.false_or,bne_cast]
end
end Go.Proofs.D
namespace Go.Sx
def encl (b:Bool) (s:Bytes):Bytes:=if b then [40]++s++[41] else s
def kd:E->Nat
 | .mk k _ _ _ _ _ _=>k
def opE:E->Bytes
 | .mk _ op _ _ _ _ _=>op
mutual
def txE:E->Bytes
 | .mk k op nm v _ args _=>
   if k=1 then [UInt8.ofNat (48+v)]
   else if k=7 then
    let t:=txEs args
    encl (decide (kd (args.getD 0 (.mk 0 [] [] 0 [] [] 0))=7/\levelS (opE (args.getD 0 (.mk 0 [] [] 0 [] [] 0))) < levelS op)) (t.getD 0 [])++[32]++op++[32]++
     encl (decide (kd (args.getD 1 (.mk 0 [] [] 0 [] [] 0))=7/\levelS (opE (args.getD 1 (.mk 0 [] [] 0 [] [] 0)))<=levelS op)) (t.getD 1 [])
   else nm
def txEs:List E->List Bytes
 | []=>[]
 | e::es=>txE e::txEs es
end
mutual
def smE:E->Bool
 | .mk k _ _ v _ args _=>(k == 1 && decide (v < 10) && args.isEmpty || k == 3 && args.isEmpty || k == 7 && args.length == 2) && smEs args
def smEs:List E->Bool
 | []=>true
 | e::es=>smE e && smEs es
end
theorem encl_len (b:Bool) (s:Bytes):s.length<=(encl b s).length:=by unfold encl;split <;> simp;omega
end Go.Sx
namespace Go.Proofs.D
open Go Go.Den Go.Sx
set_option maxRecDepth 100000
attribute [local irreducible] IntKind.wrap Tri parseS
section
variable {s : Bytes} {h h' : PHeap}
theorem Own.str {a:OA} {n k:Nat} {L:List Bytes} (hn:n=L.length) (ho:Own h 9 1 (vL a n k) n (L.map fun l=>vS l)):StrAt h a L:=by
 subst hn
 rcases ho.2 with ⟨_,h1⟩ | ⟨b,cap,rest,h1,h2,_,_⟩
 . exact .inl (List.eq_nil_of_length_eq_zero h1)
 . injection h1 with h1 _ _
   refine .inr ⟨b,0,h1,fun j l hj=>?_⟩
   rw [cell_of h2]
   have:j < L.length:=(List.getElem?_eq_some_iff.1 hj).1
   rw [List.getElem?_append_left (by simpa using this)]
   simp [hj]
theorem encl_t (b:Bool) (l:Bytes) (hl:l.length<=1000000) (h:PHeap):Tri Tryz.prog 110 [vS l,vB b] h fun v h'=>v=vS (encl b l)/\h'=h:=by
 refine T110 ?_
 unfold R110
 refine br_split (fun e=>?_) (fun e=>?_)
 . subst e
   refine ⟨by simp;omega,by simp;omega,rfl,rfl⟩
 . subst e;exact ⟨rfl,rfl⟩
theorem itoa_t (v:Nat) (hv:v < 10) (h:PHeap):Tri Tryz.prog 80 [vI v] h fun r h'=>r=vS [UInt8.ofNat (48+v)]/\h'=h:=by
 refine T80 ?_
 unfold R80
 suffices hs:Tri Tryz.prog 126 [vI v] h fun r h'=>r=vS [UInt8.ofNat (48+v)]/\h'=h by
  refine Tri.mono hs ?_
  rintro _ h ⟨rfl,rfl⟩
  exact ⟨_,rfl,rfl,rfl⟩
 refine T126 ?_
 unfold R126
 suffices hs:Tri Tryz.prog 159 [vI v,vI 10] h fun r h'=>r=vS [UInt8.ofNat (48+v)]/\h'=h by
  refine Tri.mono hs ?_
  rintro _ h ⟨rfl,rfl⟩
  exact ⟨_,rfl,rfl,rfl⟩
 refine T159 ?_
 unfold R159
 refine br_pos rfl (br_pos (by simp) (br_pos (by simp;omega) ?_))
 suffices hs:Tri Tryz.prog 180 [vI v] h fun r h'=>r=vS [UInt8.ofNat (48+v)]/\h'=h by
  refine Tri.mono hs ?_
  rintro _ h ⟨rfl,rfl⟩
  exact ⟨_,rfl,rfl,rfl⟩
 refine T180 ?_
 unfold R180
 refine br_pos (by simp;omega) ?_
 rw [wrap64 (by omega) (by omega)]
 refine ⟨⟨by omega,by omega,by omega⟩,?_,rfl⟩
 rw [show (((v:Nat):Int)+1).toNat - ((v:Nat):Int).toNat=1 by omega,Int.toNat_natCast]
 have:∀ v,v < 10->((([48,49,50,51,52,53,54,55,56,57,97,98,99,100,101,102,103,104,105,106,107,108,109,110,111,112,113,114,115,116,117,118,119,120,121,122]:Bytes).drop v).take 1)=[UInt8.ofNat (48+v)]:=by decide
 rw [this v hv]
theorem flat_vS:∀ (l:List E),(l.map fun e=>[vS (txE e)]).flatten=(l.map txE).map fun l=>vS l
 | []=>rfl
 | x::l=>by rw [List.map_cons,List.flatten_cons,flat_vS l];rfl
theorem smEs_iff:∀ {l:List E},smEs l=true↔∀ e∈l,smE e=true
 | []=>by simp [smEs]
 | e::l=>by simp [smEs,smEs_iff (l:=l)]
theorem exp_t:∀ k e,cntE e<=k->k<=100000->smE e=true->(txE e).length<=1000000->∀ cs h,RE (plP s) 8 h e cs->Tri Tryz.prog 67 [vA cs] h fun v h'=>v=vS (txE e)/\Ext h h':=by
 intro k
 induction k with
 | zero=>intro e he;have:=cntE_pos e;omega
 | succ k ih=>
   intro e he hk5 hsm hle cs h hrel
   match e,he,hsm,hle,hrel with
   | .mk kd op nm vl tx args pos,he,hsm,hle,hrel=>
   obtain ⟨a1,c1,rfl,hA1⟩:=RE_iff.1 hrel
   simp only [cntE] at he
   have hlen:=cntEs_len args
   simp only [smE,Bool.and_eq_true] at hsm
   obtain ⟨hsm1,hsm2⟩:=hsm
   have hsub:∀ e∈args,(txE e).length<=1000000:=fun e hm=>by
    simp only [Bool.or_eq_true,Bool.and_eq_true,beq_iff_eq,decide_eq_true_eq] at hsm1
    rcases hsm1 with (⟨_,hn⟩ | ⟨_,hn⟩) | ⟨rfl,h2⟩
    . simp at hn;subst hn;cases hm
    . simp at hn;subst hn;cases hm
    . obtain ⟨x,y,rfl⟩:∃ x y,args=[x,y]:=match args,h2 with | [x,y],_=>⟨x,y,rfl⟩
      simp only [txE,txEs,List.getD_cons_zero,List.getD_cons_succ,if_neg (show ¬ (7:Nat)=1 by decide),if_true,List.length_append] at hle
      simp only [List.mem_cons,List.not_mem_nil,or_false] at hm
      rcases hm with rfl | rfl
      . have:=encl_len (decide (Go.Sx.kd e=7/\levelS (opE e) < levelS op)) (txE e);omega
      . have:=encl_len (decide (Go.Sx.kd e=7/\levelS (opE e)<=levelS op)) (txE e);omega
   refine T67 ?_
   unfold R67
   refine ⟨fun m a n k i h'=>∃ j:Nat,i=j/\j+m=args.length/\n=j/\Ext h h'/\LM 9 1 h h' a n k ((args.take j).map fun e=>[vS (txE e)]),⟨args.length,0,rfl,by omega,rfl,Ext.refl _,LM.nil⟩,?_⟩
   rintro m a2 n2 k2 _ h1 ⟨j,rfl,hjm,rfl,hx1,hM1⟩
   refine br_split (fun e2=>?_) (fun e2=>?_)
   . have hj:n2 < args.length:=by
      have:=of_decide_eq_true e2
      omega
     obtain ⟨b,o,cs,rfl,hr,hrel⟩:=hA1.get hj
     have hmem:=List.getElem_mem hj
     have ihj:=ih _ (by have:=cntEs_mem hmem;omega) (by omega) (smEs_iff.1 hsm2 _ hmem) (hsub _ hmem) cs h1 (hrel.ext hx1)
     have htake:=List.take_append_getElem hj
     generalize args[n2]=x at *
     match x,hrel with
     | .mk kd' op' nm' vl' tx' args' pos',hrel=>
     obtain ⟨a3,c3,rfl,hA3⟩:=RE_iff.1 hrel
     refine ⟨b,o,rfl,⟨by omega,by omega⟩,_,_,_,_,_,_,_,_,_,_,row_ext (fun ob=>hx1 b ob) hr,?_⟩
     refine Tri.mono ihj ?_
     rintro _ h2 ⟨rfl,hx2⟩
     refine ⟨_,rfl,?_⟩
     intro b2 hb2 h3 hh3
     refine Raw.mono (LM.append (h0:=h) (cs:=[vS _]) und51 elem9 rfl rfl rfl rfl rfl (hM1.ext hx2) hb2 hh3 rfl rfl (by omega) (hx1.trans hx2).dom) ?_
     rintro _ h4 ⟨b4,cap4,rfl,hk4,hd4,hn4,hq4,hM4,hR4⟩
     refine ⟨_,_,_,rfl,m - 1,by omega,⟨n2+1,?_,by omega,rfl,fun q o hq=>hk4 q o (ne_of hq) ((hx1.trans hx2) q o hq),?_⟩,rfl,trivial⟩
     . rw [wrap64 (by omega) (by omega)];rfl
     . rw [←htake,List.map_append];exact hM4
   have hjl:n2=args.length:=by
    have:=of_decide_eq_false e2
    omega
   subst hjl
   rw [List.take_length] at hM1
   have hstr:StrAt h1 a2 (args.map txE):=Own.str (n:=args.length) (by simp) (by have:=hM1.row;rwa [flat_vS] at this)
   simp only [Bool.or_eq_true,Bool.and_eq_true,beq_iff_eq,decide_eq_true_eq] at hsm1
   rcases hsm1 with (⟨⟨rfl,hv⟩,hn⟩ | ⟨rfl,hn⟩) | ⟨rfl,h2⟩
   . refine br_pos rfl ?_
     refine Tri.mono (itoa_t vl hv h1) ?_
     rintro _ h1 ⟨rfl,rfl⟩
     exact ⟨_,rfl,rfl,hx1⟩
   . (repeat refine br_neg rfl ?_)
     exact ⟨rfl,hx1⟩
   . obtain ⟨x,y,rfl⟩:∃ x y,args=[x,y]:=match args,h2 with | [x,y],_=>⟨x,y,rfl⟩
     iterate 5 refine br_neg rfl ?_
     refine br_pos rfl ?_
     rcases hstr with hstr | ⟨sb,so,rfl,hstr⟩
     . cases hstr
     rcases hA1 with hA1 | ⟨eb,eo,rfl,hA1⟩
     . cases hA1
     have hs0:=hstr 0 _ rfl
     have hs1:=hstr 1 _ rfl
     obtain ⟨cs0,hr0,hrel0⟩:=hA1 0 x rfl
     obtain ⟨cs1,hr1,hrel1⟩:=hA1 1 y rfl
     have hlx:=hsub x (by simp)
     have hly:=hsub y (by simp)
     have hex:txE (.mk 7 op nm vl tx [x,y] pos)=encl (decide (Go.Sx.kd x=7/\levelS (opE x) < levelS op)) (txE x)++[32]++op++[32]++encl (decide (Go.Sx.kd y=7/\levelS (opE y)<=levelS op)) (txE y):=rfl
     rw [hex] at hle ⊢
     simp only [List.length_append] at hle
     match x,y,hrel0,hrel1 with
     | .mk k0 op0 nm0 v0 tx0 args0 pos0, .mk k1 op1 nm1 v1 tx1 args1 pos1,hrel0,hrel1=>
     obtain ⟨a3,c3,rfl,hA3⟩:=RE_iff.1 hrel0
     obtain ⟨a4,c4,rfl,hA4⟩:=RE_iff.1 hrel1
     have hr0:=row_ext (fun ob=>hx1 eb ob) hr0
     have hr1:=row_ext (fun ob=>hx1 eb ob) hr1
     refine Tri.mono (level_tri op h1) ?_
     rintro _ h1 ⟨rfl,rfl⟩
     have hdl:decide (Go.Sx.kd (.mk k0 op0 nm0 v0 tx0 args0 pos0)=7/\levelS (opE (.mk k0 op0 nm0 v0 tx0 args0 pos0)) < levelS op)=(decide (k0=7) && decide (levelS op0 < levelS op)):=Bool.decide_and ..
     have hdr:decide (Go.Sx.kd (.mk k1 op1 nm1 v1 tx1 args1 pos1)=7/\levelS (opE (.mk k1 op1 nm1 v1 tx1 args1 pos1))<=levelS op)=(decide (k1=7) && decide (levelS op1<=levelS op)):=Bool.decide_and ..
     rw [hdl,hdr] at hle ⊢
     have hlt:decide (((levelS op0:Nat):Int) < ((levelS op:Nat):Int))=decide (levelS op0 < levelS op):=by rw [Bool.eq_iff_iff];simp
     have hlr:decide (((levelS op1:Nat):Int)<=((levelS op:Nat):Int))=decide (levelS op1<=levelS op):=by rw [Bool.eq_iff_iff];simp
     refine ⟨_,rfl,sb,so,rfl,⟨by decide,by simp⟩,_,hs0,eb,eo,rfl,⟨by decide,by simp⟩,_,hr0.1,br_split (fun e=>?_) (fun e=>?_)⟩
     . have e:k0=7:=by have:=beq_iff_eq.1 e;omega
       refine ⟨eb,eo,rfl,⟨by decide,by simp⟩,_,hr0.2.1,?_⟩
       refine Tri.mono (level_tri op0 h1) ?_
       rintro _ h1 ⟨rfl,rfl⟩
       refine ⟨_,rfl,rfl,hr0.1,rfl,hs0,?_⟩
       refine Tri.mono (encl_t _ _ hlx h1) ?_
       rintro _ h1 ⟨rfl,rfl⟩
       rw [hlt]
       have hdl2:(decide (k0=7) && decide (levelS op0 < levelS op))=decide (levelS op0 < levelS op):=by rw [e];rfl
       rw [hdl2] at hle ⊢
       refine ⟨_,rfl,rfl,hr0.1,rfl,sb,so,rfl,⟨by decide,by simp⟩,_,hs1,eb,eo,rfl,⟨by decide,by simp⟩,_,hr1.1,br_split (fun e'=>?_) (fun e'=>?_)⟩
       . have e':k1=7:=by have:=beq_iff_eq.1 e';omega
         refine ⟨eb,eo,rfl,⟨by decide,by simp⟩,_,hr1.2.1,?_⟩
         refine Tri.mono (level_tri op1 h1) ?_
         rintro _ h1 ⟨rfl,rfl⟩
         refine ⟨_,rfl,rfl,hr1.1,rfl,hs1,?_⟩
         refine Tri.mono (encl_t _ _ hly h1) ?_
         rintro _ h1 ⟨rfl,rfl⟩
         rw [hlr]
         have hdr2:(decide (k1=7) && decide (levelS op1<=levelS op))=decide (levelS op1<=levelS op):=by rw [e'];rfl
         rw [hdr2] at hle ⊢
         exact ⟨_,rfl,rfl,hr1.1,rfl,by omega,by simp only [List.length_append];omega,by simp only [List.length_append];omega,by simp only [List.length_append];omega,rfl,hx1⟩
       . have e':k1≠7:=fun q=>by subst q;cases e'
         refine ⟨hr1.1,rfl,hs1,?_⟩
         refine Tri.mono (encl_t _ _ hly h1) ?_
         rintro _ h1 ⟨rfl,rfl⟩
         have hdr2:(decide (k1=7) && decide (levelS op1<=levelS op))=false:=by rw [decide_eq_false e'];rfl
         rw [hdr2] at hle ⊢
         exact ⟨_,rfl,hr1.1,rfl,by omega,by simp only [List.length_append];omega,by simp only [List.length_append];omega,by simp only [List.length_append];omega,rfl,hx1⟩
     . have e:k0≠7:=fun q=>by subst q;cases e
       refine ⟨hr0.1,rfl,hs0,?_⟩
       refine Tri.mono (encl_t _ _ hlx h1) ?_
       rintro _ h1 ⟨rfl,rfl⟩
       have hdl2:(decide (k0=7) && decide (levelS op0 < levelS op))=false:=by rw [decide_eq_false e];rfl
       rw [hdl2] at hle ⊢
       refine ⟨_,rfl,hr0.1,rfl,sb,so,rfl,⟨by decide,by simp⟩,_,hs1,eb,eo,rfl,⟨by decide,by simp⟩,_,hr1.1,br_split (fun e'=>?_) (fun e'=>?_)⟩
       . have e':k1=7:=by have:=beq_iff_eq.1 e';omega
         refine ⟨eb,eo,rfl,⟨by decide,by simp⟩,_,hr1.2.1,?_⟩
         refine Tri.mono (level_tri op1 h1) ?_
         rintro _ h1 ⟨rfl,rfl⟩
         refine ⟨_,rfl,rfl,hr1.1,rfl,hs1,?_⟩
         refine Tri.mono (encl_t _ _ hly h1) ?_
         rintro _ h1 ⟨rfl,rfl⟩
         rw [hlr]
         have hdr2:(decide (k1=7) && decide (levelS op1<=levelS op))=decide (levelS op1<=levelS op):=by rw [e'];rfl
         rw [hdr2] at hle ⊢
         exact ⟨_,rfl,rfl,hr1.1,rfl,by omega,by simp only [List.length_append];omega,by simp only [List.length_append];omega,by simp only [List.length_append];omega,rfl,hx1⟩
       . have e':k1≠7:=fun q=>by subst q;cases e'
         refine ⟨hr1.1,rfl,hs1,?_⟩
         refine Tri.mono (encl_t _ _ hly h1) ?_
         rintro _ h1 ⟨rfl,rfl⟩
         have hdr2:(decide (k1=7) && decide (levelS op1<=levelS op))=false:=by rw [decide_eq_false e'];rfl
         rw [hdr2] at hle ⊢
         exact ⟨_,rfl,hr1.1,rfl,by omega,by simp only [List.length_append];omega,by simp only [List.length_append];omega,by simp only [List.length_append];omega,rfl,hx1⟩
def exT:Bytes:=[102,117,110,99,32,109,97,105,110,40,41,32,123,32,120,32,61,32,97,32,45,32,40,98,32,45,32,99,41,32,42,32,40,50,41,59,32,125]
def exE:E:= .mk 7 [45] [] 0 [] [.mk 3 [] [97] 0 [] [] 18, .mk 7 [42] [] 0 [] [.mk 7 [45] [] 0 [] [.mk 3 [] [98] 0 [] [] 23, .mk 3 [] [99] 0 [] [] 27] 25, .mk 1 [] [] 2 [] [] 33] 30] 20
def exP:Pg:=⟨[],[⟨[109,97,105,110],[],[.mk 2 [120] [exE] [] [] 14],5⟩]⟩
theorem ex_parse:parseS exT= .ok exP:=by kernel_rfl
theorem ex_check:(checkS exP).map (·.1)=some 37:=by decide+kernel
theorem ex_text:smE exE=true/\txE exE=[97,32,45,32,40,98,32,45,32,99,41,32,42,32,50]:=by decide+kernel
theorem known_ok:KnownOk:=by
 intro h ht
 refine T16 ?_
 unfold R16
 refine Tri.mono (parse_tri exT h ht) ?_
 rintro v h1 ⟨hx1,hv⟩
 rw [ex_parse] at hv
 obtain ⟨ga,gc,fa,fc,rfl,hG,hF⟩:=hv
 have hG:=hG.whole (RG_mono _) (Ext.refl _)
 have hF:=hF.whole (RF_mono _ _ _) (Ext.refl _)
 refine ⟨_,_,_,_,_,_,_,_,_,rfl,br_neg rfl (br_neg rfl ?_)⟩
 obtain ⟨b1,o1,cs,ha,hr,hrel⟩:=hF.get (n:=0) (by decide)
 obtain ⟨pa,pc,ba,bc,rfl,hP,hB,_⟩:=hrel
 obtain ⟨b2,o2,cs2,hb,hr2,hrel2⟩:=hB.get (n:=0) (by decide)
 obtain ⟨aa,ac,_,_,_,_,rfl,hE,_,_⟩:=RS_iff.1 hrel2
 obtain ⟨b3,o3,cs3,hc,hr3,hrel3⟩:=hE.get (n:=0) (by decide)
 have hw:=parseS_wf ex_parse
 have hcnt:=parseS_cnt ex_parse
 refine ⟨b1,o1,ha,⟨by decide,by decide⟩,_,_,_,hr.2.2.1,br_neg rfl ⟨b1,o1,ha,⟨by decide,by decide⟩,_,_,_,hr.2.2.1,b2,o2,hb,⟨by decide,by decide⟩,_,_,_,hr2.2.2.1,br_neg rfl ?_⟩⟩
 refine Tri.mono (check_tri hw hcnt hG hF) ?_
 rintro _ h2 ⟨rfl,hx2⟩
 have hr':=row_ext (fun ob=>hx2 b1 ob) hr
 have hr2':=row_ext (fun ob=>hx2 b2 ob) hr2
 have hr3':=row_ext (fun ob=>hx2 b3 ob) hr3
 refine ⟨_,_,_,rfl,b1,o1,ha,⟨by decide,by decide⟩,_,_,_,hr'.2.2.1,b2,o2,hb,⟨by decide,by decide⟩,_,_,_,hr2'.2.2.1,b3,o3,hc,⟨by decide,by decide⟩,?_⟩
 have hrel3:RE (plP exT) 8 h1 exE cs3:=hrel3
 obtain ⟨a8,c8,rfl,hA8⟩:=RE_iff.1 hrel3
 refine ⟨_,_,_,_,_,_,_,_,_,_,hr3',?_⟩
 have hwe:wfE exE:=by
  have:=wfSs_iff.1 (hw _ (List.mem_cons_self ..)) _ (List.mem_cons_self ..)
  exact (wfEs_iff.1 this.2.1 _ (List.mem_cons_self ..))
 have hout:Tri Tryz.prog 22 [vA ([vI (7:Nat),vS [45],vS [],vI (0:Nat),vS [],vL a8 2 c8]++plP exT 20)] h2 fun v h'=>v=vS (txE exE)/\Ext h2 h':=by
  refine T22 ?_
  unfold R22
  intro b4 hb4 h3 hh3
  have hx3:=Put.ext hh3 hb4
  refine Tri.mono (texpr (s:=exT) hb4 (cntE exE) exE (Nat.le_refl _) hwe _ (hrel3.ext hx2) h3 (4096 - cntE exE) hx3 ⟨by decide+kernel,Put.at hh3⟩) ?_
  rintro _ h4 ⟨rfl,ha4,hc4⟩
  have hx4:=ext_away hb4 hx3 ha4
  refine ⟨_,rfl,br_neg rfl ?_⟩
  refine Tri.mono (exp_t (s:=exT) _ exE (Nat.le_refl _) (by decide+kernel) ex_text.1 (by decide+kernel) _ h4 (hrel3.ext (hx2.trans hx4))) ?_
  rintro _ h5 ⟨rfl,hx5⟩
  exact ⟨_,rfl,rfl,hx4.trans hx5⟩
 refine Tri.mono hout ?_
 rintro _ h3 ⟨rfl,hx3⟩
 refine ⟨_,rfl,br_pos (by rw [ex_text.2];rfl) ⟨?_,(hx1.trans hx2).trans hx3⟩⟩
 have:(erp exT (checkS exP)).2.2=37:=by
  have h0:=ex_check
  cases hq:checkS exP with
  | none=>rw [hq] at h0;cases h0
  | some x=>
    rw [hq] at h0
    obtain ⟨c,p⟩:=x
    have h0:c=37:=by simpa using h0
    subst h0
    cases p <;> rfl
 rw [this];rfl
end
end Go.Proofs.D
namespace Go.Proofs.D
open Go Go.Den Go.Sx
set_option maxRecDepth 100000
attribute [local irreducible] IntKind.wrap Tri parseS
def plQ (p:Nat->Int×Int) (n:Nat):List Value:=[vI (p n).1,vI (p n).2]
section
variable {p : Nat → Int × Int} {g : PHeap} {cb : Nat}
end
theorem prEs_map:∀ (l:List E),prEs l=l.map prE
 | []=>rfl
 | e::l=>by rw [prEs,prEs_map l];rfl
theorem flat_vS2:∀ (l:List E),(l.map fun e=>[vS (prE e)]).flatten=(l.map prE).map fun l=>vS l
 | []=>rfl
 | x::l=>by rw [List.map_cons,List.flatten_cons,flat_vS2 l];rfl
theorem moreB_mem {x:Bytes}:∀ {l:List Bytes},x∈l->x.length<=(moreB l).length
 | y::l,h=>by
   rcases List.mem_cons.1 h with h | h
   . subst h;simp only [moreB,List.length_cons,List.length_append];omega
   . have:=moreB_mem h;simp only [moreB,List.length_cons,List.length_append];omega
theorem commaB_mem {x:Bytes} {l:List Bytes} (h:x∈l):x.length<=(commaB l).length:=by
 cases l with
 | nil=>cases h
 | cons y l=>
   rcases List.mem_cons.1 h with h | h
   . subst h;simp only [commaB,List.length_append];omega
   . have:=moreB_mem h;simp only [commaB,List.length_append];omega
def xaE:E->List E | .mk _ _ _ _ _ args _=>args
theorem prL_ge2 (lv:Nat) (e:E):(prE e).length<=(prL lv e).length:=by
 unfold prL encB;split
 . simp;omega
 . exact Nat.le_refl _
theorem sub_len {e:E} (h:OkE e):∀ x∈xaE e,(prE x).length<=(prE e).length:=by
 intro x hx
 cases h with
 | num _=>cases hx
 | str _=>cases hx
 | var _=>cases hx
 | elem hn he=>simp only [xaE,List.mem_singleton] at hx;subst hx;rw [pr_elem];simp only [List.length_append,List.length_cons];omega
 | @call n es p hn hes=>
   have hx:x∈es:=hx
   have:=commaB_mem (l:=prEs es) (by rw [prEs_map];exact List.mem_map_of_mem hx)
   rw [pr_call];simp only [List.length_append,List.length_cons];omega
 | un ho he=>simp only [xaE,List.mem_singleton] at hx;subst hx;rw [pr_un];have:=prL_ge2 11 x;simp only [List.length_append];omega
 | @bin op a b p ho ha hb=>
   rw [pr_bin]
   have h1:=prL_ge2 (levelS op) a
   have h2:=prL_ge2 (levelS op+1) b
   simp only [xaE,List.mem_cons,List.not_mem_nil,or_false] at hx
   simp only [List.length_append,List.length_cons]
   rcases hx with rfl | rfl <;> omega
theorem encl_eq (b:Bool) (l:Bytes):encl b l=encB b l:=by cases b <;> rfl
theorem low_mk (k:Nat) (op nm:Bytes) (v:Nat) (tx:Bytes) (args:List E) (p lv:Nat):low (.mk k op nm v tx args p) lv=(k == 7 && decide (levelS op < lv)):=rfl
theorem dec_le (a b:Nat):decide (((a:Nat):Int)<=((b:Nat):Int))=decide (a < b+1):=by rw [Bool.eq_iff_iff];simp;omega
theorem dec_lt2 (a b:Nat):decide (((a:Nat):Int) < ((b:Nat):Int))=decide (a < b):=by rw [Bool.eq_iff_iff];simp
theorem LM.live {e k:Nat} {h0 h:PHeap} {a:Option Addr} {n c:Nat} {css:List (List Value)} (hL:LM e k h0 h a n c css):∀ b o,a=ad b o->h b≠none:=by
 intro b o ha
 rcases hL.row.2 with ⟨h1,_⟩ | ⟨b',c',r,h1,h2,_⟩
 . injection h1 with h1;rw [ha] at h1;cases h1
 . injection h1 with h1;rw [ha] at h1;injection h1 with h1;injection h1 with h1;subst h1;rw [h2];exact fun e=>by cases e
theorem exp_q {p:Nat->Int×Int}:∀ k e,cntE e<=k->k<=100000->OkE e->(prE e).length<=1000000->∀ cs h,PowTab h->RE (plQ p) 8 h e cs->Tri Tryz.prog 67 [vA cs] h fun v h'=>v=vS (prE e)/\Ext h h':=by
 intro k
 induction k with
 | zero=>intro e he;have:=cntE_pos e;omega
 | succ k ih=>
   intro e he hk5 hok hle cs h hpt hrel
   have hsub:=sub_len hok
   match e,he,hok,hle,hrel,hsub with
   | .mk kd op nm vl tx args pos,he,hok,hle,hrel,hsub=>
   obtain ⟨a1,c1,rfl,hA1⟩:=RE_iff.1 hrel
   simp only [cntE] at he
   have hlen:=cntEs_len args
   have hoks:∀ e∈args,OkE e:=by
    cases hok with
    | num _=>intro e he;cases he
    | str _=>intro e he;cases he
    | var _=>intro e he;cases he
    | elem _ h=>intro e he;simp at he;subst he;exact h
    | call _ h=>exact h
    | un _ h=>intro e he;simp at he;subst he;exact h
    | bin _ h1 h2=>intro e he;simp at he;rcases he with rfl | rfl <;> assumption
   refine T67 ?_
   unfold R67
   refine ⟨fun m a n k i h'=>∃ j:Nat,i=j/\j+m=args.length/\n=j/\Ext h h'/\LM 9 1 h h' a n k ((args.take j).map fun e=>[vS (prE e)]),⟨args.length,0,rfl,by omega,rfl,Ext.refl _,LM.nil⟩,?_⟩
   rintro m a2 n2 k2 _ h1 ⟨j,rfl,hjm,rfl,hx1,hM1⟩
   refine br_split (fun e2=>?_) (fun e2=>?_)
   . have hj:n2 < args.length:=by
      have:=of_decide_eq_true e2
      omega
     obtain ⟨b,o,cs,rfl,hr,hrel⟩:=hA1.get hj
     have hmem:=List.getElem_mem hj
     have ihj:=ih _ (by have:=cntEs_mem hmem;omega) (by omega) (hoks _ hmem) (by have:(prE args[n2]).length<=_:=hsub _ hmem;omega) cs h1 (hpt.ext hx1) (hrel.ext hx1)
     have htake:=List.take_append_getElem hj
     generalize args[n2]=x at *
     match x,hrel with
     | .mk kd' op' nm' vl' tx' args' pos',hrel=>
     obtain ⟨a3,c3,rfl,hA3⟩:=RE_iff.1 hrel
     refine ⟨b,o,rfl,⟨by omega,by omega⟩,_,_,_,_,_,_,_,_,_,_,row_ext (fun ob=>hx1 b ob) hr,?_⟩
     refine Tri.mono ihj ?_
     rintro _ h2 ⟨rfl,hx2⟩
     refine ⟨_,rfl,?_⟩
     intro b2 hb2 h3 hh3
     refine Raw.mono (LM.append (h0:=h) (cs:=[vS _]) und51 elem9 rfl rfl rfl rfl rfl (hM1.ext hx2) hb2 hh3 rfl rfl (by omega) (hx1.trans hx2).dom) ?_
     rintro _ h4 ⟨b4,cap4,rfl,hk4,hd4,hn4,hq4,hM4,hR4⟩
     refine ⟨_,_,_,rfl,m - 1,by omega,⟨n2+1,?_,by omega,rfl,fun q o hq=>hk4 q o (ne_of hq) ((hx1.trans hx2) q o hq),?_⟩,rfl,trivial⟩
     . rw [wrap64 (by omega) (by omega)];rfl
     . rw [←htake,List.map_append];exact hM4
   have hjl:n2=args.length:=by
    have:=of_decide_eq_false e2
    omega
   subst hjl
   rw [List.take_length] at hM1
   have hstr:StrAt h1 a2 (args.map prE):=Own.str (n:=args.length) (by simp) (by have:=hM1.row;rwa [flat_vS2] at this)
   have hokn:=hM1.okN
   have hlive:=hM1.live
   cases hok with
   | num hv=>
     refine br_pos rfl ?_
     refine Tri.mono (itoa_t2 vl (by omega) (hpt.ext hx1)) ?_
     rintro _ h1 ⟨rfl,rfl⟩
     exact ⟨_,rfl,by rw [pr_num],hx1⟩
   | str hb=>
     refine br_neg rfl (br_pos rfl ?_)
     refine Tri.mono (quote_t tx hb h1) ?_
     rintro _ h2 ⟨rfl,hx2⟩
     exact ⟨_,_,rfl,by rw [pr_str],hx1.trans hx2⟩
   | var hn=>
     (repeat refine br_neg rfl ?_)
     exact ⟨by rw [pr_var],hx1⟩
   | @elem _ x _ hn hx=>
     rcases hstr with hstr | ⟨sb,so,rfl,hstr⟩
     . cases hstr
     have hs0:=hstr 0 _ rfl
     rw [pr_elem] at hle ⊢
     simp only [List.length_append,List.length_cons,List.length_nil] at hle
     refine br_neg rfl (br_neg rfl (br_pos rfl ⟨by simp;omega,sb,so,rfl,⟨by decide,by simp⟩,_,hs0,by simp only [List.length_append,List.length_cons,List.length_nil];omega,by simp only [List.length_append,List.length_cons,List.length_nil];omega,?_,hx1⟩))
     simp
   | @call _ es _ hn hes=>
     rw [pr_call,prEs_map] at hle ⊢
     simp only [List.length_append,List.length_cons,List.length_nil] at hle
     refine br_neg rfl (br_neg rfl (br_neg rfl (br_pos rfl ⟨by simp;omega,?_⟩)))
     have hj:=join_t (c:=k2) hstr (by rw [List.length_map];exact hokn.1) (by rw [List.length_map];omega) (by omega) (fun b o hb _=>hlive b o hb)
     rw [List.length_map] at hj
     refine Tri.mono hj ?_
     rintro _ h1 ⟨rfl,rfl⟩
     refine ⟨_,rfl,rfl,by simp only [List.length_append,List.length_cons,List.length_nil];omega,by simp only [List.length_append,List.length_cons,List.length_nil];omega,?_,hx1⟩
     simp
   | @un _ x _ ho hx=>
     rcases hstr with hstr | ⟨sb,so,rfl,hstr⟩
     . cases hstr
     rcases hA1 with hA1 | ⟨eb,eo,rfl,hA1⟩
     . cases hA1
     have hs0:=hstr 0 _ rfl
     obtain ⟨cs0,hr0,hrel0⟩:=hA1 0 x rfl
     rw [pr_un] at hle ⊢
     simp only [List.length_append] at hle
     have hpl:=prL_ge2 11 x
     match x,hrel0,hx,hle,hpl,hs0 with
     | .mk k0 op0 nm0 v0 tx0 args0 pos0,hrel0,hx,hle,hpl,hs0=>
     obtain ⟨a3,c3,rfl,hA3⟩:=RE_iff.1 hrel0
     have hr0:=row_ext (fun ob=>hx1 eb ob) hr0
     refine br_neg rfl (br_neg rfl (br_neg rfl (br_neg rfl (br_pos rfl ⟨sb,so,rfl,⟨by decide,by simp⟩,_,hs0,eb,eo,rfl,⟨by decide,by simp⟩,_,hr0.1,?_⟩))))
     refine Tri.mono (encl_t _ _ (by omega) h1) ?_
     rintro _ h1 ⟨rfl,rfl⟩
     have heq:encl ((k0:Int) == 7) (prE (.mk k0 op0 nm0 v0 tx0 args0 pos0))=prL 11 (.mk k0 op0 nm0 v0 tx0 args0 pos0):=by
      rw [encl_eq,prL,low_mk]
      congr 1
      have:decide (levelS op0 < 11)=true:=by have:=level_le op0;simp;omega
      rw [this,Bool.and_true,show (7:Int)=((7:Nat):Int) from rfl,Bool.eq_iff_iff,beq_iff_eq,beq_iff_eq]
      omega
     rw [heq]
     exact ⟨_,rfl,hr0.1,rfl,rfl,by omega,rfl,hx1⟩
   | @bin _ x y _ ho hx hy=>
     iterate 5 refine br_neg rfl ?_
     refine br_pos rfl ?_
     rcases hstr with hstr | ⟨sb,so,rfl,hstr⟩
     . cases hstr
     rcases hA1 with hA1 | ⟨eb,eo,rfl,hA1⟩
     . cases hA1
     have hs0:=hstr 0 _ rfl
     have hs1:=hstr 1 _ rfl
     obtain ⟨cs0,hr0,hrel0⟩:=hA1 0 x rfl
     obtain ⟨cs1,hr1,hrel1⟩:=hA1 1 y rfl
     rw [pr_bin] at hle ⊢
     simp only [List.length_append,List.length_cons] at hle
     have hlx:=prL_ge2 (levelS op) x
     have hly:=prL_ge2 (levelS op+1) y
     match x,y,hrel0,hrel1,hle,hlx,hly,hs0,hs1 with
     | .mk k0 op0 nm0 v0 tx0 args0 pos0, .mk k1 op1 nm1 v1 tx1 args1 pos1,hrel0,hrel1,hle,hlx,hly,hs0,hs1=>
     obtain ⟨a3,c3,rfl,hA3⟩:=RE_iff.1 hrel0
     obtain ⟨a4,c4,rfl,hA4⟩:=RE_iff.1 hrel1
     have hr0:=row_ext (fun ob=>hx1 eb ob) hr0
     have hr1:=row_ext (fun ob=>hx1 eb ob) hr1
     have fin:∀ l r:Bytes,l=prL (levelS op) (.mk k0 op0 nm0 v0 tx0 args0 pos0)->r=prL (levelS op+1) (.mk k1 op1 nm1 v1 tx1 args1 pos1)->
      (l.length+([32]:Bs).length<=9223372036854775807/\(l++([32]:Bs)).length+op.length<=9223372036854775807/\((l++([32]:Bs))++op).length+([32]:Bs).length<=9223372036854775807/\(((l++([32]:Bs))++op)++([32]:Bs)).length+r.length<=9223372036854775807/\
       vS ((((l++([32]:Bs))++op)++([32]:Bs))++r)=vS (prL (levelS op) (.mk k0 op0 nm0 v0 tx0 args0 pos0)++32::(op++32::prL (levelS op+1) (.mk k1 op1 nm1 v1 tx1 args1 pos1)))/\Ext h h1):=by
      rintro l r rfl rfl
      refine ⟨by simp only [List.length_cons,List.length_nil];omega,by simp only [List.length_append,List.length_cons,List.length_nil];omega,by simp only [List.length_append,List.length_cons,List.length_nil];omega,by simp only [List.length_append,List.length_cons,List.length_nil];omega,by simp,hx1⟩
     have hL:∀ b:Bool,(k0 == 7 && decide (levelS op0 < levelS op))=b->encl b (prE (.mk k0 op0 nm0 v0 tx0 args0 pos0))=prL (levelS op) (.mk k0 op0 nm0 v0 tx0 args0 pos0):=fun b hb=>by rw [encl_eq,prL,low_mk,hb]
     have hR:∀ b:Bool,(k1 == 7 && decide (levelS op1 < levelS op+1))=b->encl b (prE (.mk k1 op1 nm1 v1 tx1 args1 pos1))=prL (levelS op+1) (.mk k1 op1 nm1 v1 tx1 args1 pos1):=fun b hb=>by rw [encl_eq,prL,low_mk,hb]
     refine Tri.mono (level_tri op h1) ?_
     rintro _ h1 ⟨rfl,rfl⟩
     refine ⟨_,rfl,sb,so,rfl,⟨by decide,by simp⟩,_,hs0,eb,eo,rfl,⟨by decide,by simp⟩,_,hr0.1,br_split (fun e=>?_) (fun e=>?_)⟩
     . have e:k0=7:=by have:=beq_iff_eq.1 e;omega
       refine ⟨eb,eo,rfl,⟨by decide,by simp⟩,_,hr0.2.1,?_⟩
       refine Tri.mono (level_tri op0 h1) ?_
       rintro _ h1 ⟨rfl,rfl⟩
       refine ⟨_,rfl,rfl,hr0.1,rfl,hs0,?_⟩
       refine Tri.mono (encl_t _ _ (by omega) h1) ?_
       rintro _ h1 ⟨rfl,rfl⟩
       rw [dec_lt2,hL _ (by rw [e];rfl)]
       refine ⟨_,rfl,rfl,hr0.1,rfl,sb,so,rfl,⟨by decide,by simp⟩,_,hs1,eb,eo,rfl,⟨by decide,by simp⟩,_,hr1.1,br_split (fun e'=>?_) (fun e'=>?_)⟩
       . have e':k1=7:=by have:=beq_iff_eq.1 e';omega
         refine ⟨eb,eo,rfl,⟨by decide,by simp⟩,_,hr1.2.1,?_⟩
         refine Tri.mono (level_tri op1 h1) ?_
         rintro _ h1 ⟨rfl,rfl⟩
         refine ⟨_,rfl,rfl,hr1.1,rfl,hs1,?_⟩
         refine Tri.mono (encl_t _ _ (by omega) h1) ?_
         rintro _ h1 ⟨rfl,rfl⟩
         rw [dec_le,hR _ (by rw [e'];rfl)]
         exact ⟨_,rfl,rfl,hr1.1,rfl,fin _ _ rfl rfl⟩
       . have e':k1≠7:=fun q=>by subst q;cases e'
         refine ⟨hr1.1,rfl,hs1,?_⟩
         refine Tri.mono (encl_t _ _ (by omega) h1) ?_
         rintro _ h1 ⟨rfl,rfl⟩
         rw [hR false (by simp [e'])]
         exact ⟨_,rfl,hr1.1,rfl,fin _ _ rfl rfl⟩
     . have e:k0≠7:=fun q=>by subst q;cases e
       refine ⟨hr0.1,rfl,hs0,?_⟩
       refine Tri.mono (encl_t _ _ (by omega) h1) ?_
       rintro _ h1 ⟨rfl,rfl⟩
       rw [hL false (by simp [e])]
       refine ⟨_,rfl,hr0.1,rfl,sb,so,rfl,⟨by decide,by simp⟩,_,hs1,eb,eo,rfl,⟨by decide,by simp⟩,_,hr1.1,br_split (fun e'=>?_) (fun e'=>?_)⟩
       . have e':k1=7:=by have:=beq_iff_eq.1 e';omega
         refine ⟨eb,eo,rfl,⟨by decide,by simp⟩,_,hr1.2.1,?_⟩
         refine Tri.mono (level_tri op1 h1) ?_
         rintro _ h1 ⟨rfl,rfl⟩
         refine ⟨_,rfl,rfl,hr1.1,rfl,hs1,?_⟩
         refine Tri.mono (encl_t _ _ (by omega) h1) ?_
         rintro _ h1 ⟨rfl,rfl⟩
         rw [dec_le,hR _ (by rw [e'];rfl)]
         exact ⟨_,rfl,rfl,hr1.1,rfl,fin _ _ rfl rfl⟩
       . have e':k1≠7:=fun q=>by subst q;cases e'
         refine ⟨hr1.1,rfl,hs1,?_⟩
         refine Tri.mono (encl_t _ _ (by omega) h1) ?_
         rintro _ h1 ⟨rfl,rfl⟩
         rw [hR false (by simp [e'])]
         exact ⟨_,rfl,hr1.1,rfl,fin _ _ rfl rfl⟩
end Go.Proofs.D
namespace Go.Proofs.D
open Go Go.Den
noncomputable section
set_option maxRecDepth 100000
set_option maxHeartbeats 4000000
abbrev dvk1:List CK:=[qi, .str,qi, .str,qi]
abbrev o31_8:Op:= .call { callee:=(.builtin .append),args:=#[(.tmp 36),(.tmp 38)],argTypes:=#[65,65] }
abbrev o31_9:Op:= .call { callee:=(.builtin .append),args:=#[(.tmp 43),(.tmp 47)],argTypes:=#[65,65] }
def d31:DCode:=up ⟨[(15, .c (.one false [qi])),(27, .c (.tup [(true,dvk1),(false,[qi]),(false,[qi]),(false,[qi])])),(37, .l dvk1),(39, .c (.one false [.slice])),(42, .c (.one false [qi])),(48, .c (.one false [.slice]))],[],[(16,36,[(5, .slice),(6,qi)],[])]⟩ (lw nf Tryz.f31)
theorem low31:lw nf Tryz.f31=some (eC d31):=by kernel_rfl
def R31 (l1:Bs) (h:PHeap) (Q:Value->PHeap->Prop):Prop:=
 br (decide ((l1.length:Int) > 16384))
 (Q (vT [vL none 0 0,vI 0,vI 5]) h)
 (tp 70 [vS l1,vI 0] h fun v_1 h_1=>
 ∃ i1,v_1=vI i1/\
 ∃ (I_1:Nat->OA->Nat->Nat->Int->PHeap->Prop),(∃ m2,I_1 m2 none 0 0 i1 h_1)/\
 ∀ m1 a1 n1 dvk1 i2 h_2,I_1 m1 a1 n1 dvk1 i2 h_2->
 br (decide (i2 < (l1.length:Int)))
 (br ((n1:Int) == 4096)
 (Q (vT [vL none 0 0,vI i2,vI 9]) h_2)
 (tp 71 [vS l1,vI i2] h_2 fun v_2 h_3=>
 ∃ i3 l2 i4 l3 i5 i6 i7 i8,v_2=vT [vA [vI i3,vS l2,vI i4,vS l3,vI i5],vI i6,vI i7,vI i8]/\
 br (i7 != 0)
 (Q (vT [vL none 0 0,vI i8,vI i7]) h_3)
 (alc h_3 [vI i3,vS l2,vI i4,vS l3,vI i5] 69 fun b1 h_4=>
 rq [(36,vL a1 n1 dvk1),(38,vL (ad b1 0) 1 1)] o31_8 65 h_4 fun v_3 h_5=>
 ∃ a2 n2 k2,v_3=vL a2 n2 k2/\
 tp 70 [vS l1,vI i6] h_5 fun v_4 h_6=>
 ∃ i9,v_4=vI i9/\
 ∃ m3,m3 < m1/\I_1 m3 a2 n2 k2 i9 h_6/\
 True)))
 (alc h_2 [vI 0,vS [],vI 0,vS [],vI (l1.length:Int)] 69 fun b2 h_7=>
 rq [(43,vL a1 n1 dvk1),(47,vL (ad b2 0) 1 1)] o31_9 65 h_7 fun v_5 h_8=>
 ∃ a3 n3 k3,v_5=vL a3 n3 k3/\
 Q (vT [vL a3 n3 k3,vI 0,vI 0]) h_8))
theorem T31 {l1 h Q} (hR:R31 l1 h Q):Tri Tryz.prog 31 [vS l1] h Q:=
 tri_of_dn mixed Tryz.func31 rfl (by kernel_rfl) low31 (rs:=[.tmp 2, .tmp 3, .tmp 4]) (by kernel_rfl) rfl (Eq.mpr (by kernel_rfl) hR)
def d70:DCode:=up ⟨[],[],[(5,57,[(1,qi)],[]),(48,13,[(1,qi)],[])]⟩ (lw nf Tryz.f70)
theorem low70:lw nf Tryz.f70=some (eC d70):=by kernel_rfl
def R70 (l1:Bs) (i1:Int) (h:PHeap) (Q:Value->PHeap->Prop):Prop:=
 ∃ (I_1:Nat->Int->PHeap->Prop),(∃ m2,I_1 m2 i1 h)/\
 ∀ m1 i2 h_1,I_1 m1 i2 h_1->
 br (decide (i2 < (l1.length:Int)))
 (0<=i2/\∃ c1,(l1)[(i2).toNat]? =some c1/\
 br ((c1.toNat:Int) == 32)
 (∃ m3,m3 < m1/\I_1 m3 (IntKind.i64.wrap (i2+1)) h_1/\
 True)
 (0<=i2/\∃ c2,(l1)[(i2).toNat]? =some c2/\
 br ((c2.toNat:Int) == 9)
 (∃ m4,m4 < m1/\I_1 m4 (IntKind.i64.wrap (i2+1)) h_1/\
 True)
 (0<=i2/\∃ c3,(l1)[(i2).toNat]? =some c3/\
 br ((c3.toNat:Int) == 10)
 (∃ m5,m5 < m1/\I_1 m5 (IntKind.i64.wrap (i2+1)) h_1/\
 True)
 (0<=i2/\∃ c4,(l1)[(i2).toNat]? =some c4/\
 br ((c4.toNat:Int) == 47)
 (br (decide ((IntKind.i64.wrap (i2+1)) < (l1.length:Int)))
 (0<=(IntKind.i64.wrap (i2+1))/\∃ c5,(l1)[(IntKind.i64.wrap (i2+1)).toNat]? =some c5/\
 br ((c5.toNat:Int) == 47)
 (∃ (I_2:Nat->Int->PHeap->Prop),(∃ m7,I_2 m7 i2 h_1)/\
 ∀ m6 i3 h_2,I_2 m6 i3 h_2->
 br (decide (i3 < (l1.length:Int)))
 (0<=i3/\∃ c6,(l1)[(i3).toNat]? =some c6/\
 br ((c6.toNat:Int) != 10)
 (∃ m8,m8 < m6/\I_2 m8 (IntKind.i64.wrap (i3+1)) h_2/\
 True)
 (∃ m9,m9 < m1/\I_1 m9 i3 h_2/\
 True))
 (∃ m10,m10 < m1/\I_1 m10 i3 h_2/\
 True))
 (Q (vI i2) h_1))
 (Q (vI i2) h_1))
 (Q (vI i2) h_1)))))
 (Q (vI i2) h_1)
theorem T70 {l1 i1 h Q} (hR:R70 l1 i1 h Q):Tri Tryz.prog 70 [vS l1,vI i1] h Q:=
 tri_of_dn mixed Tryz.func70 rfl (by kernel_rfl) low70 (rs:=[.tmp 4]) (by kernel_rfl) rfl (Eq.mpr (by kernel_rfl) hR)
def d71:DCode:=up ⟨[(20, .c (.one false [.bool])),(23, .c (.one false [qi])),(34, .c (.one false [.slice])),(36, .c (.one false [.bool])),(47, .c (.one false [.bool])),(50, .c (.one false [qi])),(56, .c (.tup [(false,[qi]),(false,[qi])])),(82, .c (.tup [(true,dvk1),(false,[qi]),(false,[qi]),(false,[qi])])),(98, .c (.one false [.slice])),(105, .c (.one false [.bool]))],[],[(87,35,[(14,qi)],[(4,dvk1)])]⟩ (lw nf Tryz.f71)
theorem low71:lw nf Tryz.f71=some (eC d71):=by kernel_rfl
def R71 (l1:Bs) (i1:Int) (h:PHeap) (Q:Value->PHeap->Prop):Prop:=
 0<=i1/\∃ c1,(l1)[(i1).toNat]? =some c1/\
 tp 113 [vU (c1.toNat:Int)] h fun v_1 h_1=>
 ∃ c2,v_1=vB c2/\
 br c2
 (tp 114 [vS l1,vI i1] h_1 fun v_2 h_2=>
 ∃ i2,v_2=vI i2/\
 (0<=i1/\i1<=i2/\i2<=(l1.length:Int))/\
 br (decide (((((l1.drop (i1).toNat).take ((i2).toNat - (i1).toNat))).length:Int) > 32))
 (Q (vT [vA [vI 0,vS [],vI 0,vS [],vI 0],vI i1,vI 5,vI i1]) h_2)
 (tp 116 [] h_2 fun v_3 h_3=>
 ∃ a1 n1 dvk1,v_3=vL a1 n1 dvk1/\
 tp 115 [vL a1 n1 dvk1,vS ((l1.drop (i1).toNat).take ((i2).toNat - (i1).toNat))] h_3 fun v_4 h_4=>
 ∃ c3,v_4=vB c3/\
 br c3
 (Q (vT [vA [vI 4,vS ((l1.drop (i1).toNat).take ((i2).toNat - (i1).toNat)),vI 0,vS [],vI i1],vI i2,vI 0,vI 0]) h_4)
 (Q (vT [vA [vI 1,vS ((l1.drop (i1).toNat).take ((i2).toNat - (i1).toNat)),vI 0,vS [],vI i1],vI i2,vI 0,vI 0]) h_4)))
 (tp 117 [vU (c1.toNat:Int)] h_1 fun v_5 h_5=>
 ∃ c4,v_5=vB c4/\
 br c4
 (tp 114 [vS l1,vI i1] h_5 fun v_6 h_6=>
 ∃ i3,v_6=vI i3/\
 (0<=i1/\i1<=i3/\i3<=(l1.length:Int))/\
 tp 118 [vS ((l1.drop (i1).toNat).take ((i3).toNat - (i1).toNat))] h_6 fun v_7 h_7=>
 ∃ i4 i5,v_7=vT [vI i4,vI i5]/\
 br (i5 != 0)
 (Q (vT [vA [vI 0,vS [],vI 0,vS [],vI 0],vI i1,vI i5,vI i1]) h_7)
 ((0<=i1/\i1<=i3/\i3<=(l1.length:Int))/\
 Q (vT [vA [vI 2,vS ((l1.drop (i1).toNat).take ((i3).toNat - (i1).toNat)),vI i4,vS [],vI i1],vI i3,vI 0,vI 0]) h_7))
 (br ((c1.toNat:Int) == 39)
 (tp 119 [vS l1,vI i1] h_5 fun v_8 h_8=>
 ∃ i6 l2 i7 l3 i8 i9 i10 i11,v_8=vT [vA [vI i6,vS l2,vI i7,vS l3,vI i8],vI i9,vI i10,vI i11]/\
 Q (vT [vA [vI i6,vS l2,vI i7,vS l3,vI i8],vI i9,vI i10,vI i11]) h_8)
 (br ((c1.toNat:Int) == 34)
 (tp 119 [vS l1,vI i1] h_5 fun v_9 h_9=>
 ∃ i12 l4 i13 l5 i14 i15 i16 i17,v_9=vT [vA [vI i12,vS l4,vI i13,vS l5,vI i14],vI i15,vI i16,vI i17]/\
 Q (vT [vA [vI i12,vS l4,vI i13,vS l5,vI i14],vI i15,vI i16,vI i17]) h_9)
 (∃ (I_1:Nat->Int->Int->Bs->Int->Bs->Int->PHeap->Prop),(∃ m2,I_1 m2 (2:Int) (0:Int) [] (0:Int) [] (0:Int) h_5)/\
 ∀ m1 i18 i19 l6 i20 l7 i21 h_10,I_1 m1 i18 i19 l6 i20 l7 i21 h_10->
 br (decide (i18 > 0))
 (br (decide ((IntKind.i64.wrap (i1+i18))<=(l1.length:Int)))
 ((0<=i1/\i1<=(IntKind.i64.wrap (i1+i18))/\(IntKind.i64.wrap (i1+i18))<=(l1.length:Int))/\
 tp 120 [] h_10 fun v_10 h_11=>
 ∃ a2 n2 k2,v_10=vL a2 n2 k2/\
 tp 115 [vL a2 n2 k2,vS ((l1.drop (i1).toNat).take ((IntKind.i64.wrap (i1+i18)).toNat - (i1).toNat))] h_11 fun v_11 h_12=>
 ∃ c5,v_11=vB c5/\
 br c5
 ((0<=i1/\i1<=(IntKind.i64.wrap (i1+i18))/\(IntKind.i64.wrap (i1+i18))<=(l1.length:Int))/\
 Q (vT [vA [vI 5,vS ((l1.drop (i1).toNat).take ((IntKind.i64.wrap (i1+i18)).toNat - (i1).toNat)),vI 0,vS [],vI i1],vI (IntKind.i64.wrap (i1+i18)),vI 0,vI 0]) h_12)
 (∃ m3,m3 < m1/\I_1 m3 (IntKind.i64.wrap (i18 - 1)) i19 l6 i20 l7 i21 h_12/\
 True))
 (∃ m4,m4 < m1/\I_1 m4 (IntKind.i64.wrap (i18 - 1)) i19 l6 i20 l7 i21 h_10/\
 True))
 (Q (vT [vA [vI 0,vS [],vI 0,vS [],vI 0],vI i1,vI 6,vI i1]) h_10)))))
theorem T71 {l1 i1 h Q} (hR:R71 l1 i1 h Q):Tri Tryz.prog 71 [vS l1,vI i1] h Q:=
 tri_of_dn mixed Tryz.func71 rfl (by kernel_rfl) low71 (rs:=[.cell 4 true 5, .tmp 5, .tmp 6, .tmp 7]) (by kernel_rfl) rfl (Eq.mpr (by kernel_rfl) hR)
def d113:DCode:=up ⟨[],[],[]⟩ (lw nf Tryz.f113)
theorem low113:lw nf Tryz.f113=some (eC d113):=by kernel_rfl
def R113 (i1:Int) (h:PHeap) (Q:Value->PHeap->Prop):Prop:=
 br (decide (i1≥97))
 (br (decide (i1<=122))
 (Q (vB true) h)
 (br (decide (i1≥65))
 (br (decide (i1<=90))
 (Q (vB true) h)
 (Q (vB (i1 == 95)) h))
 (Q (vB (i1 == 95)) h)))
 (br (decide (i1≥65))
 (br (decide (i1<=90))
 (Q (vB true) h)
 (Q (vB (i1 == 95)) h))
 (Q (vB (i1 == 95)) h))
theorem T113 {i1 h Q} (hR:R113 i1 h Q):Tri Tryz.prog 113 [vU i1] h Q:=
 tri_of_dn mixed Tryz.func113 rfl (by kernel_rfl) low113 (rs:=[.tmp 2]) (by kernel_rfl) rfl (Eq.mpr (by kernel_rfl) hR)
def d114:DCode:=up ⟨[(13, .c (.one false [.bool])),(18, .c (.one false [.bool]))],[],[(5,19,[(1,qi)],[])]⟩ (lw nf Tryz.f114)
theorem low114:lw nf Tryz.f114=some (eC d114):=by kernel_rfl
def R114 (l1:Bs) (i1:Int) (h:PHeap) (Q:Value->PHeap->Prop):Prop:=
 ∃ (I_1:Nat->Int->PHeap->Prop),(∃ m2,I_1 m2 i1 h)/\
 ∀ m1 i2 h_1,I_1 m1 i2 h_1->
 br (decide (i2 < (l1.length:Int)))
 (0<=i2/\∃ c1,(l1)[(i2).toNat]? =some c1/\
 tp 113 [vU (c1.toNat:Int)] h_1 fun v_1 h_2=>
 ∃ c2,v_1=vB c2/\
 br c2
 (∃ m3,m3 < m1/\I_1 m3 (IntKind.i64.wrap (i2+1)) h_2/\
 True)
 (0<=i2/\∃ c3,(l1)[(i2).toNat]? =some c3/\
 tp 117 [vU (c3.toNat:Int)] h_2 fun v_2 h_3=>
 ∃ c4,v_2=vB c4/\
 br c4
 (∃ m4,m4 < m1/\I_1 m4 (IntKind.i64.wrap (i2+1)) h_3/\
 True)
 (Q (vI i2) h_3)))
 (Q (vI i2) h_1)
theorem T114 {l1 i1 h Q} (hR:R114 l1 i1 h Q):Tri Tryz.prog 114 [vS l1,vI i1] h Q:=
 tri_of_dn mixed Tryz.func114 rfl (by kernel_rfl) low114 (rs:=[.tmp 4]) (by kernel_rfl) rfl (Eq.mpr (by kernel_rfl) hR)
def d115:DCode:=up ⟨[(15, .l [.str])],[],[(6,14,[(5,qi)],[])]⟩ (lw nf Tryz.f115)
theorem low115:lw nf Tryz.f115=some (eC d115):=by kernel_rfl
def R115 (a1:OA) (n1 dvk1:Nat) (l1:Bs) (h:PHeap) (Q:Value->PHeap->Prop):Prop:=
 ∃ (I_1:Nat->Int->PHeap->Prop),(∃ m2,I_1 m2 0 h)/\
 ∀ m1 i1 h_1,I_1 m1 i1 h_1->
 br (decide (i1 < (n1:Int)))
 (slt a1 i1 n1 fun b1 o1=>
 ∃ l2,h_1.cell b1 (o1+(i1).toNat * 1)=some (vS l2)/\
 br (l2 == l1)
 (Q (vB true) h_1)
 (∃ m3,m3 < m1/\I_1 m3 (IntKind.i64.wrap (i1+1)) h_1/\
 True))
 (Q (vB false) h_1)
theorem T115 {a1 n1 dvk1 l1 h Q} (hR:R115 a1 n1 dvk1 l1 h Q):Tri Tryz.prog 115 [vL a1 n1 dvk1,vS l1] h Q:=
 tri_of_dn mixed Tryz.func115 rfl (by kernel_rfl) low115 (rs:=[.tmp 4]) (by kernel_rfl) rfl (Eq.mpr (by kernel_rfl) hR)
def d116:DCode:=up ⟨[],[],[]⟩ (lw nf Tryz.f116)
theorem low116:lw nf Tryz.f116=some (eC d116):=by kernel_rfl
def R116 (h:PHeap) (Q:Value->PHeap->Prop):Prop:=
 alc h [vS [98,114,101,97,107],vS [99,111,110,116,105,110,117,101],vS [101,108,115,101],vS [102,117,110,99],vS [105,102],vS [114,101,116,117,114,110],vS [118,97,114],vS [119,104,105,108,101]] 9 fun b1 h_1=>
 Q (vL (ad b1 0) 8 8) h_1
theorem T116 {h Q} (hR:R116  h Q):Tri Tryz.prog 116 [] h Q:=
 tri_of_dn mixed Tryz.func116 rfl (by kernel_rfl) low116 (rs:=[.tmp 0]) (by kernel_rfl) rfl (Eq.mpr (by kernel_rfl) hR)
def d117:DCode:=up ⟨[],[],[]⟩ (lw nf Tryz.f117)
theorem low117:lw nf Tryz.f117=some (eC d117):=by kernel_rfl
def R117 (i1:Int) (h:PHeap) (Q:Value->PHeap->Prop):Prop:=
 br (decide (i1≥48))
 (Q (vB (decide (i1<=57))) h)
 (Q (vB false) h)
theorem T117 {i1 h Q} (hR:R117 i1 h Q):Tri Tryz.prog 117 [vU i1] h Q:=
 tri_of_dn mixed Tryz.func117 rfl (by kernel_rfl) low117 (rs:=[.tmp 2]) (by kernel_rfl) rfl (Eq.mpr (by kernel_rfl) hR)
def d118:DCode:=up ⟨[(26, .c (.one false [qi])),(37, .c (.one false [qi])),(49, .c (.one false [.bool]))],[],[(17,26,[(4,qi),(5,qi)],[]),(40,40,[(6,qi),(7, .bool),(8,qi)],[])]⟩ (lw nf Tryz.f118)
theorem low118:lw nf Tryz.f118=some (eC d118):=by kernel_rfl
abbrev K118_1 (c3:Bool) (i6:Int) (l1:Bs) (m4:Nat) (I_2:Nat->Int->Bool->Int->PHeap->Prop) (i5:Int) (h_5:PHeap)  :Prop:=
 br (!c3)
 (0<=i6/\∃ c7,(l1)[(i6).toNat]? =some c7/\
 br c3
 (∃ m6,m6 < m4/\I_2 m6 (IntKind.i64.wrap ((IntKind.i64.wrap (10 * i5))+(IntKind.i64.wrap ((IntKind.u8.wrap ((c7.toNat:Int) - 48)))))) true (IntKind.i64.wrap (i6+1)) h_5/\
 True)
 (∃ m7,m7 < m4/\I_2 m7 (IntKind.i64.wrap ((IntKind.i64.wrap (10 * i5))+(IntKind.i64.wrap ((IntKind.u8.wrap ((c7.toNat:Int) - 48)))))) (decide ((IntKind.i64.wrap ((IntKind.i64.wrap (10 * i5))+(IntKind.i64.wrap ((IntKind.u8.wrap ((c7.toNat:Int) - 48)))))) > 4294967295)) (IntKind.i64.wrap (i6+1)) h_5/\
 True))
 (br c3
 (∃ m8,m8 < m4/\I_2 m8 i5 true (IntKind.i64.wrap (i6+1)) h_5/\
 True)
 (∃ m9,m9 < m4/\I_2 m9 i5 (decide (i5 > 4294967295)) (IntKind.i64.wrap (i6+1)) h_5/\
 True))
abbrev K118_2 (h:PHeap) (l1:Bs) (Q:Value->PHeap->Prop):Prop:=
 ∃ (I_2:Nat->Int->Bool->Int->PHeap->Prop),(∃ m5,I_2 m5 0 false (0:Int) h)/\
 ∀ m4 i5 c3 i6 h_4,I_2 m4 i5 c3 i6 h_4->
 br (decide (i6 < (l1.length:Int)))
 (0<=i6/\∃ c4,(l1)[(i6).toNat]? =some c4/\
 tp 117 [vU (c4.toNat:Int)] h_4 fun v_3 h_5=>
 ∃ c5,v_3=vB c5/\
 br (!c5)
 (Q (vT [vI 0,vI 3]) h_5)
 (br (i6 == 1)
 (0<=(0:Int)/\∃ c6,(l1)[0]? =some c6/\
 br ((c6.toNat:Int) == 48)
 (Q (vT [vI 0,vI 3]) h_5)
 (K118_1 c3 i6 l1 m4 I_2 i5 h_5))
 (K118_1 c3 i6 l1 m4 I_2 i5 h_5)))
 (br c3
 (Q (vT [vI 0,vI 2]) h_4)
 (Q (vT [vI i5,vI 0]) h_4))
def R118 (l1:Bs) (h:PHeap) (Q:Value->PHeap->Prop):Prop:=
 br (decide ((l1.length:Int) > 2))
 ((0<=(0:Int)/\(0:Int)<=2/\2<=(l1.length:Int))/\
 br (((l1.drop 0).take (2 - 0)) == [48,120])
 (∃ (I_1:Nat->Int->Int->PHeap->Prop),(∃ m2,I_1 m2 0 (2:Int) h)/\
 ∀ m1 i1 i2 h_1,I_1 m1 i1 i2 h_1->
 br (decide (i2 < (l1.length:Int)))
 (0<=i2/\∃ c1,(l1)[(i2).toNat]? =some c1/\
 tp 154 [vU (c1.toNat:Int)] h_1 fun v_1 h_2=>
 ∃ i3,v_1=vI i3/\
 br (decide (i3 < 0))
 (Q (vT [vI 0,vI 3]) h_2)
 (br (decide (i2≥10))
 (Q (vT [vI 0,vI 3]) h_2)
 (0<=i2/\∃ c2,(l1)[(i2).toNat]? =some c2/\
 tp 154 [vU (c2.toNat:Int)] h_2 fun v_2 h_3=>
 ∃ i4,v_2=vI i4/\
 ∃ m3,m3 < m1/\I_1 m3 (IntKind.i64.wrap ((IntKind.i64.wrap (16 * i1))+i4)) (IntKind.i64.wrap (i2+1)) h_3/\
 True)))
 (Q (vT [vI i1,vI 0]) h_1))
 (K118_2 h l1 Q))
 (K118_2 h l1 Q)
theorem T118 {l1 h Q} (hR:R118 l1 h Q):Tri Tryz.prog 118 [vS l1] h Q:=
 tri_of_dn mixed Tryz.func118 rfl (by kernel_rfl) low118 (rs:=[.tmp 2, .tmp 3]) (by kernel_rfl) rfl (Eq.mpr (by kernel_rfl) hR)
def d119:DCode:=up ⟨[(42, .c (.tup [(false,[.int .u8]),(false,[qi]),(false,[qi]),(false,[qi])])),(100, .c (.tup [(false,[.int .u8]),(false,[qi]),(false,[qi]),(false,[qi])]))],[],[(86,45,[(12, .str),(13,qi)],[(4,dvk1)])]⟩ (lw nf Tryz.f119)
theorem low119:lw nf Tryz.f119=some (eC d119):=by kernel_rfl
abbrev K119_1 (i4:Int) (Q:Value->PHeap->Prop) (i1:Int) (h_1:PHeap) (i5:Int) (i3:Int) (l1:Bs) (i2:Int):Prop:=
 br (i4 == 4)
 (Q (vT [vA [vI 0,vS [],vI 0,vS [],vI 0],vI i1,vI 4,vI i1]) h_1)
 (br (i4 != 0)
 (Q (vT [vA [vI 0,vS [],vI 0,vS [],vI 0],vI i1,vI i4,vI i5]) h_1)
 (0<=i3/\∃ c3,(l1)[(i3).toNat]? =some c3/\
 br ((c3.toNat:Int) != 39)
 (Q (vT [vA [vI 0,vS [],vI 0,vS [],vI 0],vI i1,vI 6,vI i3]) h_1)
 ((0<=i1/\i1<=(IntKind.i64.wrap (i3+1))/\(IntKind.i64.wrap (i3+1))<=(l1.length:Int))/\
 Q (vT [vA [vI 2,vS ((l1.drop (i1).toNat).take ((IntKind.i64.wrap (i3+1)).toNat - (i1).toNat)),vI (IntKind.i64.wrap (i2)),vS [],vI i1],vI (IntKind.i64.wrap (i3+1)),vI 0,vI 0]) h_1)))
def R119 (l1:Bs) (i1:Int) (h:PHeap) (Q:Value->PHeap->Prop):Prop:=
 0<=i1/\∃ c1,(l1)[(i1).toNat]? =some c1/\
 br ((c1.toNat:Int) == 39)
 (br (decide ((IntKind.i64.wrap (i1+1)) < (l1.length:Int)))
 (0<=(IntKind.i64.wrap (i1+1))/\∃ c2,(l1)[(IntKind.i64.wrap (i1+1)).toNat]? =some c2/\
 br ((c2.toNat:Int) == 39)
 (Q (vT [vA [vI 0,vS [],vI 0,vS [],vI 0],vI i1,vI 6,vI (IntKind.i64.wrap (i1+1))]) h)
 (tp 155 [vS l1,vI (IntKind.i64.wrap (i1+1))] h fun v_1 h_1=>
 ∃ i2 i3 i4 i5,v_1=vT [vU i2,vI i3,vI i4,vI i5]/\
 br (i4 == 0)
 (br (decide (i3≥(l1.length:Int)))
 (Q (vT [vA [vI 0,vS [],vI 0,vS [],vI 0],vI i1,vI 4,vI i1]) h_1)
 (K119_1 i4 Q i1 h_1 i5 i3 l1 i2))
 (K119_1 i4 Q i1 h_1 i5 i3 l1 i2)))
 (tp 155 [vS l1,vI (IntKind.i64.wrap (i1+1))] h fun v_2 h_2=>
 ∃ i6 i7 i8 i9,v_2=vT [vU i6,vI i7,vI i8,vI i9]/\
 br (i8 == 0)
 (br (decide (i7≥(l1.length:Int)))
 (Q (vT [vA [vI 0,vS [],vI 0,vS [],vI 0],vI i1,vI 4,vI i1]) h_2)
 (K119_1 i8 Q i1 h_2 i9 i7 l1 i6))
 (K119_1 i8 Q i1 h_2 i9 i7 l1 i6)))
 (∃ (I_1:Nat->Bs->Int->Int->Bs->Int->Bs->Int->PHeap->Prop),(∃ m2,I_1 m2 [] (IntKind.i64.wrap (i1+1)) (0:Int) [] (0:Int) [] (0:Int) h)/\
 ∀ m1 l2 i10 i11 l3 i12 l4 i13 h_3,I_1 m1 l2 i10 i11 l3 i12 l4 i13 h_3->
 br (decide (i10≥(l1.length:Int)))
 (Q (vT [vA [vI 0,vS [],vI 0,vS [],vI 0],vI i1,vI 4,vI i1]) h_3)
 (0<=i10/\∃ c7,(l1)[(i10).toNat]? =some c7/\
 br ((c7.toNat:Int) == 34)
 (br (decide ((l2.length:Int) > 200))
 (Q (vT [vA [vI 0,vS [],vI 0,vS [],vI 0],vI i1,vI 5,vI i1]) h_3)
 ((0<=i1/\i1<=(IntKind.i64.wrap (i10+1))/\(IntKind.i64.wrap (i10+1))<=(l1.length:Int))/\
 Q (vT [vA [vI 3,vS ((l1.drop (i1).toNat).take ((IntKind.i64.wrap (i10+1)).toNat - (i1).toNat)),vI 0,vS l2,vI i1],vI (IntKind.i64.wrap (i10+1)),vI 0,vI 0]) h_3))
 (tp 155 [vS l1,vI i10] h_3 fun v_3 h_4=>
 ∃ i14 i15 i16 i17,v_3=vT [vU i14,vI i15,vI i16,vI i17]/\
 br (i16 == 4)
 (Q (vT [vA [vI 0,vS [],vI 0,vS [],vI 0],vI i1,vI 4,vI i1]) h_4)
 (br (i16 != 0)
 (Q (vT [vA [vI 0,vS [],vI 0,vS [],vI 0],vI i1,vI i16,vI i17]) h_4)
 (alc h_4 [vU i14] 5 fun b1 h_5=>
 ∃ l5,BytesAt h_5 (ad b1 0) 1 l5/\
 l2.length+l5.length<=9223372036854775807/\
 ∃ m3,m3 < m1/\I_1 m3 (l2++l5) i15 i11 l3 i12 l4 i13 h_5/\
 True)))))
theorem T119 {l1 i1 h Q} (hR:R119 l1 i1 h Q):Tri Tryz.prog 119 [vS l1,vI i1] h Q:=
 tri_of_dn mixed Tryz.func119 rfl (by kernel_rfl) low119 (rs:=[.cell 4 true 5, .tmp 5, .tmp 6, .tmp 7]) (by kernel_rfl) rfl (Eq.mpr (by kernel_rfl) hR)
def d120:DCode:=up ⟨[],[],[]⟩ (lw nf Tryz.f120)
theorem low120:lw nf Tryz.f120=some (eC d120):=by kernel_rfl
def R120 (h:PHeap) (Q:Value->PHeap->Prop):Prop:=
 alc h [vS [33],vS [33,61],vS [37],vS [38],vS [38,38],vS [40],vS [41],vS [42],vS [43],vS [44],vS [45],vS [47],vS [59],vS [60],vS [60,60],vS [60,61],vS [61],vS [61,61],vS [62],vS [62,61],vS [62,62],vS [91],vS [93],vS [94],vS [123],vS [124],vS [124,124],vS [125],vS [126]] 9 fun b1 h_1=>
 Q (vL (ad b1 0) 29 29) h_1
theorem T120 {h Q} (hR:R120  h Q):Tri Tryz.prog 120 [] h Q:=
 tri_of_dn mixed Tryz.func120 rfl (by kernel_rfl) low120 (rs:=[.tmp 0]) (by kernel_rfl) rfl (Eq.mpr (by kernel_rfl) hR)
def d154:DCode:=up ⟨[(5, .c (.one false [.bool]))],[],[]⟩ (lw nf Tryz.f154)
theorem low154:lw nf Tryz.f154=some (eC d154):=by kernel_rfl
def R154 (i1:Int) (h:PHeap) (Q:Value->PHeap->Prop):Prop:=
 tp 117 [vU i1] h fun v_1 h_1=>
 ∃ c1,v_1=vB c1/\
 br c1
 (Q (vI (IntKind.i64.wrap ((IntKind.u8.wrap (i1 - 48))))) h_1)
 (br (decide (i1≥97))
 (br (decide (i1<=102))
 (Q (vI (IntKind.i64.wrap ((IntKind.i64.wrap ((IntKind.u8.wrap (i1 - 97))))+10))) h_1)
 (Q (vI (-1)) h_1))
 (Q (vI (-1)) h_1))
theorem T154 {i1 h Q} (hR:R154 i1 h Q):Tri Tryz.prog 154 [vU i1] h Q:=
 tri_of_dn mixed Tryz.func154 rfl (by kernel_rfl) low154 (rs:=[.tmp 2]) (by kernel_rfl) rfl (Eq.mpr (by kernel_rfl) hR)
def d155:DCode:=up ⟨[(89, .c (.one false [qi])),(98, .c (.one false [qi]))],[],[(74,32,[(8,qi),(9,qi)],[])]⟩ (lw nf Tryz.f155)
theorem low155:lw nf Tryz.f155=some (eC d155):=by kernel_rfl
def R155 (l1:Bs) (i1:Int) (h:PHeap) (Q:Value->PHeap->Prop):Prop:=
 br (decide (i1≥(l1.length:Int)))
 (Q (vT [vU 0,vI i1,vI 4,vI i1]) h)
 (0<=i1/\∃ c1,(l1)[(i1).toNat]? =some c1/\
 br (decide ((c1.toNat:Int) < 32))
 (Q (vT [vU 0,vI i1,vI 6,vI i1]) h)
 (0<=i1/\∃ c2,(l1)[(i1).toNat]? =some c2/\
 br (decide ((c2.toNat:Int) > 126))
 (Q (vT [vU 0,vI i1,vI 6,vI i1]) h)
 (0<=i1/\∃ c3,(l1)[(i1).toNat]? =some c3/\
 br ((c3.toNat:Int) != 92)
 (0<=i1/\∃ c4,(l1)[(i1).toNat]? =some c4/\
 Q (vT [vU (c4.toNat:Int),vI (IntKind.i64.wrap (i1+1)),vI 0,vI 0]) h)
 (br (decide ((IntKind.i64.wrap (i1+1))≥(l1.length:Int)))
 (Q (vT [vU 0,vI i1,vI 4,vI i1]) h)
 (0<=(IntKind.i64.wrap (i1+1))/\∃ c5,(l1)[(IntKind.i64.wrap (i1+1)).toNat]? =some c5/\
 br ((c5.toNat:Int) == 110)
 (Q (vT [vU 10,vI (IntKind.i64.wrap (i1+2)),vI 0,vI 0]) h)
 (br ((c5.toNat:Int) == 116)
 (Q (vT [vU 9,vI (IntKind.i64.wrap (i1+2)),vI 0,vI 0]) h)
 (br ((c5.toNat:Int) == 48)
 (Q (vT [vU 0,vI (IntKind.i64.wrap (i1+2)),vI 0,vI 0]) h)
 (br ((c5.toNat:Int) == 92)
 (0<=(IntKind.i64.wrap (i1+1))/\∃ c6,(l1)[(IntKind.i64.wrap (i1+1)).toNat]? =some c6/\
 Q (vT [vU (c6.toNat:Int),vI (IntKind.i64.wrap (i1+2)),vI 0,vI 0]) h)
 (br ((c5.toNat:Int) == 39)
 (0<=(IntKind.i64.wrap (i1+1))/\∃ c7,(l1)[(IntKind.i64.wrap (i1+1)).toNat]? =some c7/\
 Q (vT [vU (c7.toNat:Int),vI (IntKind.i64.wrap (i1+2)),vI 0,vI 0]) h)
 (br ((c5.toNat:Int) == 34)
 (0<=(IntKind.i64.wrap (i1+1))/\∃ c8,(l1)[(IntKind.i64.wrap (i1+1)).toNat]? =some c8/\
 Q (vT [vU (c8.toNat:Int),vI (IntKind.i64.wrap (i1+2)),vI 0,vI 0]) h)
 (br ((c5.toNat:Int) == 120)
 (∃ (I_1:Nat->Int->Int->PHeap->Prop),(∃ m2,I_1 m2 0 (IntKind.i64.wrap (i1+2)) h)/\
 ∀ m1 i2 i3 h_1,I_1 m1 i2 i3 h_1->
 br (decide (i3 < (IntKind.i64.wrap (i1+4))))
 (br (decide (i3≥(l1.length:Int)))
 (Q (vT [vU 0,vI i1,vI 4,vI i1]) h_1)
 (0<=i3/\∃ c9,(l1)[(i3).toNat]? =some c9/\
 tp 154 [vU (c9.toNat:Int)] h_1 fun v_1 h_2=>
 ∃ i4,v_1=vI i4/\
 br (decide (i4 < 0))
 (Q (vT [vU 0,vI i1,vI 6,vI i3]) h_2)
 (0<=i3/\∃ c10,(l1)[(i3).toNat]? =some c10/\
 tp 154 [vU (c10.toNat:Int)] h_2 fun v_2 h_3=>
 ∃ i5,v_2=vI i5/\
 ∃ m3,m3 < m1/\I_1 m3 (IntKind.i64.wrap ((IntKind.i64.wrap (16 * i2))+i5)) (IntKind.i64.wrap (i3+1)) h_3/\
 True)))
 (Q (vT [vU (IntKind.u8.wrap (i2)),vI (IntKind.i64.wrap (i1+4)),vI 0,vI 0]) h_1))
 (Q (vT [vU 0,vI i1,vI 6,vI (IntKind.i64.wrap (i1+1))]) h))))))))))))
theorem T155 {l1 i1 h Q} (hR:R155 l1 i1 h Q):Tri Tryz.prog 155 [vS l1,vI i1] h Q:=
 tri_of_dn mixed Tryz.func155 rfl (by kernel_rfl) low155 (rs:=[.tmp 4, .tmp 5, .tmp 6, .tmp 7]) (by kernel_rfl) rfl (Eq.mpr (by kernel_rfl) hR)
end
end Go.Proofs.D
namespace Go.Proofs.D
open Go Go.Den Go.Sx
set_option maxRecDepth 100000
attribute [local irreducible] IntKind.wrap Tri marks words oneS
theorem vB_of {a b:Bool} {h:PHeap} (e:a=b):vB a=vB b/\h=h:=⟨by rw [e],rfl⟩
theorem letter_r (c:UInt8) (h:PHeap):Tri Tryz.prog 113 [vU (c.toNat:Int)] h fun v h'=>v=vB (isLetter c)/\h'=h:=by
 refine T113 ?_
 unfold R113
 refine br_split (fun e1=>br_split (fun e2=>vB_of ?_) (fun e2=>br_split (fun e3=>br_split (fun e4=>vB_of ?_) (fun e4=>vB_of ?_)) (fun e3=>vB_of ?_))) (fun e1=>br_split (fun e3=>br_split (fun e4=>vB_of ?_) (fun e4=>vB_of ?_)) (fun e3=>vB_of ?_)) <;>
  (simp only [decide_eq_true_eq,decide_eq_false_iff_not] at *;rw [Bool.eq_iff_iff];simp [isLetter];omega)
theorem digit_r (c:UInt8) (h:PHeap):Tri Tryz.prog 117 [vU (c.toNat:Int)] h fun v h'=>v=vB (isDigit c)/\h'=h:=by
 refine T117 ?_
 unfold R117
 refine br_split (fun e1=>vB_of ?_) (fun e1=>vB_of ?_) <;>
  (simp only [decide_eq_true_eq,decide_eq_false_iff_not] at *;rw [Bool.eq_iff_iff];simp [isDigit];omega)
def hexI (c:UInt8):Int:=if isHex c then (hexV c:Nat) else -1
theorem isDigit_iff {c:UInt8}:isDigit c=true↔48<=c.toNat/\c.toNat<=57:=by simp [isDigit]
theorem isHex_iff {c:UInt8}:isHex c=true↔(48<=c.toNat/\c.toNat<=57)∨(97<=c.toNat/\c.toNat<=102):=by simp [isHex,isDigit]
theorem hexV_lt {c:UInt8} (h:isHex c=true):hexV c < 16:=by
 rw [isHex_iff] at h
 unfold hexV
 split
 . rename_i hd;rw [isDigit_iff] at hd;omega
 . rename_i hd;rw [isDigit_iff] at hd;omega
theorem hex_r (c:UInt8) (h:PHeap):Tri Tryz.prog 154 [vU (c.toNat:Int)] h fun v h'=>v=vI (hexI c)/\h'=h:=by
 refine T154 ?_
 unfold R154
 refine Tri.mono (digit_r c h) ?_
 rintro _ h ⟨rfl,rfl⟩
 refine ⟨_,rfl,br_split (fun e1=>?_) (fun e1=>?_)⟩
 . have h1:=isDigit_iff.1 e1
   rw [L.wrap8 (by omega) (by omega),wrap64 (by omega) (by omega)]
   refine ⟨?_,rfl⟩
   rw [hexI,if_pos (isHex_iff.2 (.inl h1)),hexV,if_pos e1]
   congr 1;omega
 . have h1:¬ (48<=c.toNat/\c.toNat<=57):=fun h=>by rw [isDigit_iff.2 h] at e1;cases e1
   refine br_split (fun e2=>br_split (fun e3=>?_) (fun e3=>?_)) (fun e2=>?_)
   . simp only [decide_eq_true_eq] at e2 e3
     have h2:97<=c.toNat/\c.toNat<=102:=by omega
     rw [L.wrap8 (by omega) (by omega),wrap64 (n:=(c.toNat:Int) - 97) (by omega) (by omega),wrap64 (by omega) (by omega)]
     refine ⟨?_,rfl⟩
     rw [hexI,if_pos (isHex_iff.2 (.inr h2)),hexV,if_neg (by rw [e1];decide)]
     congr 1;omega
   . simp only [decide_eq_true_eq,decide_eq_false_iff_not] at e2 e3
     refine ⟨?_,rfl⟩
     rw [hexI,if_neg (by rw [isHex_iff];omega)]
   . simp only [decide_eq_true_eq,decide_eq_false_iff_not] at e2
     refine ⟨?_,rfl⟩
     rw [hexI,if_neg (by rw [isHex_iff];omega)]
theorem contains_false {L:List Bytes} {s:Bytes} (hb:∀ j (hj:j < L.length),(L[j] == s)=false):L.contains s=false:=by
 cases h:L.contains s with
 | false=>rfl
 | true=>
   have:s∈L:=by simpa using h
   obtain ⟨j,hj,e⟩:=List.getElem_of_mem this
   have:=hb j hj
   rw [e] at this;simp at this
theorem contains_r {h:PHeap} {a:Option Addr} {L:List Bytes} {c:Nat} (s:Bytes) (hs:StrAt h a L) (hl:L.length<=1000000):Tri Tryz.prog 115 [vL a L.length c,vS s] h fun v h'=>v=vB (L.contains s)/\h'=h:=by
 refine T115 ?_
 unfold R115
 refine ⟨fun m i h'=>h'=h/\∃ n:Nat,i=n/\n+m=L.length/\∀ j (hj:j < n) (hj':j < L.length),(L[j] == s)=false,⟨L.length,rfl,0,rfl,by omega,fun j hj=>by omega⟩,?_⟩
 rintro m _ _ ⟨rfl,n,rfl,hnm,hb⟩
 refine br_split (fun e=>?_) (fun e=>?_)
 . have hn:n < L.length:=by simpa using e
   obtain ⟨b,o,ha,hc⟩:=hs.get hn
   refine ⟨b,o,ha,⟨by omega,by omega⟩,_,hc,br_split (fun e2=>?_) (fun e2=>?_)⟩
   . have e2:L[n]=s:=by simpa using e2
     have:L.contains s=true:=by rw [←e2];simp
     rw [this];exact ⟨rfl,rfl⟩
   . refine ⟨m - 1,by omega,⟨rfl,n+1,?_,by omega,fun j hj hj'=>?_⟩,trivial⟩
     . rw [wrap64 (by omega) (by omega)];rfl
     . by_cases e3:j=n
       . subst e3;exact e2
       . exact hb j (by omega) hj'
 . have hn:¬ n < L.length:=by simpa using e
   rw [contains_false fun j hj=>hb j (by omega) hj]
   exact ⟨rfl,rfl⟩
theorem StrAt_put {h h1:PHeap} {b:Nat} {L:List Bytes} {t:TypeId} (hh:h1=h.put b (.cells ⟨L.map fun l=>vS l⟩ t)):StrAt h1 (ad b 0) L:=
 .inr ⟨b,0,rfl,fun j l hj=>by
  rw [cell_of (Put.at hh),Nat.zero_add,List.getElem?_map,hj];rfl⟩
section
attribute [local semireducible] marks words
theorem words_len:words.length=8:=rfl
theorem marks_len:marks.length=29:=rfl
theorem words_r (h:PHeap):Tri Tryz.prog 116 [] h fun v h'=>∃ b,v=vL (ad b 0) words.length 8/\Ext h h'/\StrAt h' (ad b 0) words:=by
 refine T116 ?_
 unfold R116
 intro b hb h1 hh1
 exact ⟨b,rfl,Put.ext hh1 hb,StrAt_put (t:=9) hh1⟩
theorem marks_r (h:PHeap):Tri Tryz.prog 120 [] h fun v h'=>∃ b,v=vL (ad b 0) marks.length 29/\Ext h h'/\StrAt h' (ad b 0) marks:=by
 refine T120 ?_
 unfold R120
 intro b hb h1 hh1
 exact ⟨b,rfl,Put.ext hh1 hb,StrAt_put (t:=9) hh1⟩
end
theorem get_of_lt {s:Bytes} {n:Nat} (h:n < s.length):∃ c r,s.drop n=c::r/\s[n]? =some c/\s.drop (n+1)=r:=by
 cases hd:s.drop n with
 | nil=>have:=congrArg List.length hd;simp at this;omega
 | cons c r=>exact ⟨c,r,rfl,drop_head hd,drop_tail hd⟩
theorem alnum_r {s:Bytes} {n:Nat} (h:PHeap) (hn:n<=s.length) (hl:s.length<=1000000):Tri Tryz.prog 114 [vS s,vI n] h fun v h'=>v=vI ((n+lead isAl (s.drop n):Nat):Int)/\h'=h:=by
 refine T114 ?_
 unfold R114
 refine ⟨fun m i h'=>h'=h/\∃ k:Nat,i=k/\k+m=s.length/\k+lead isAl (s.drop k)=n+lead isAl (s.drop n),⟨s.length - n,rfl,n,rfl,by omega,rfl⟩,?_⟩
 rintro m _ h ⟨rfl,k,rfl,hkm,hk⟩
 refine br_split (fun e=>?_) (fun e=>?_)
 . have hlt:k < s.length:=by
    have:(k:Int) < s.length:=by simpa using e
    omega
   obtain ⟨c,r,hd,hg,ht⟩:=get_of_lt hlt
   have next:isAl c=true->∃ m3,m3 < m/\(h=h/\∃ k':Nat,IntKind.i64.wrap ((k:Int)+1)=k'/\k'+m3=s.length/\k'+lead isAl (s.drop k')=n+lead isAl (s.drop n))/\True:=fun ha=>by
    refine ⟨m - 1,by omega,⟨rfl,k+1,?_,by omega,?_⟩,trivial⟩
    . rw [wrap64 (by omega) (by omega)];rfl
    . rw [←hk,ht,hd];simp only [lead,ha,if_true];omega
   refine ⟨by omega,c,by simpa using hg,?_⟩
   refine Tri.mono (letter_r c _) ?_
   rintro _ h1 ⟨rfl,rfl⟩
   refine ⟨_,rfl,br_split (fun e1=>next (by simp [isAl,e1])) (fun e1=>?_)⟩
   refine ⟨by omega,c,by simpa using hg,?_⟩
   refine Tri.mono (digit_r c _) ?_
   rintro _ h1 ⟨rfl,rfl⟩
   refine ⟨_,rfl,br_split (fun e2=>next (by simp [isAl,e2])) (fun e2=>?_)⟩
   have:isAl c=false:=by simp [isAl,e1,e2]
   rw [←hk,hd];simp [lead,this]
 . have:k=s.length:=by
    have:¬ (k:Int) < s.length:=by simpa using e
    omega
   rw [←hk,List.drop_eq_nil_of_le (by omega)];simp [lead]
theorem skip_r {s:Bytes} {n:Nat} (h:PHeap) (hn:n<=s.length) (hl:s.length<=1000000):Tri Tryz.prog 70 [vS s,vI n] h fun v h'=>v=vI ((n+skipN false (s.drop n):Nat):Int)/\h'=h:=by
 refine T70 ?_
 unfold R70
 refine ⟨fun m i h'=>h'=h/\∃ k:Nat,i=k/\k+m=s.length/\k+skipN false (s.drop k)=n+skipN false (s.drop n),⟨s.length - n,rfl,n,rfl,by omega,rfl⟩,?_⟩
 rintro m _ h ⟨rfl,k,rfl,hkm,hk⟩
 refine br_split (fun e=>?_) (fun e=>?_)
 . have hlt:k < s.length:=by
    have:(k:Int) < s.length:=by simpa using e
    omega
   obtain ⟨c,r,hd,hg,ht⟩:=get_of_lt hlt
   have hg':s[((k:Int)).toNat]? =some c:=by simpa using hg
   have hw:IntKind.i64.wrap ((k:Int)+1)=((k+1:Nat):Int):=by rw [wrap64 (by omega) (by omega)];rfl
   rw [hw]
   have next:skipN false (c::r)=skipN false r+1->∃ m3,m3 < m/\(h=h/\∃ k':Nat,((k+1:Nat):Int)=k'/\k'+m3=s.length/\k'+skipN false (s.drop k')=n+skipN false (s.drop n))/\True:=fun ha=>
    ⟨m - 1,by omega,⟨rfl,k+1,rfl,by omega,by rw [←hk,ht,hd,ha];omega⟩,trivial⟩
   have stop:skipN false (c::r)=0->vI (k:Int)=vI ((n+skipN false (s.drop n):Nat):Int)/\h=h:=fun h0=>by
    rw [←hk,hd,h0];exact ⟨rfl,rfl⟩
   refine ⟨by omega,c,hg',br_split (fun e1=>next (skipN_sp _ (.inl (u8_eq e1)))) (fun e1=>?_)⟩
   refine ⟨by omega,c,hg',br_split (fun e2=>next (skipN_sp _ (.inr (u8_eq e2)))) (fun e2=>?_)⟩
   refine ⟨by omega,c,hg',br_split (fun e3=>next ?_) (fun e3=>?_)⟩
   . have:c=10:=u8_eq e3
     subst this;exact skipN_nl r
   refine ⟨by omega,c,hg',br_split (fun e4=>?_) (fun e4=>?_)⟩
   . have h47:c=47:=u8_eq e4
     refine br_split (fun e5=>?_) (fun e5=>?_)
     . have hlt2:k+1 < s.length:=by
        have:((k+1:Nat):Int) < s.length:=by simpa using e5
        omega
       obtain ⟨c2,r2,hd2,hg2,ht2⟩:=get_of_lt hlt2
       rw [ht] at hd2
       refine ⟨by omega,c2,by simpa using hg2,br_split (fun e6=>?_) (fun e6=>?_)⟩
       . have h47':c2=47:=u8_eq e6
         have hcom:skipN false (c::r)=lead (fun c=> !(c == 10)) (c::r)+skipN false ((c::r).drop (lead (fun c=> !(c == 10)) (c::r))):=by
          rw [h47,hd2,h47'];exact skipN_com r2
         have hl2:1<=lead (fun c=> !(c == 10)) (c::r):=by rw [h47];show 1<=lead _ r+1;omega
         have hle:=L.lead_le (fun c=> !(c == 10)) (c::r)
         have hrl:(c::r).length+k=s.length:=by rw [←hd,List.length_drop];omega
         have fin:∀ {j:Nat},j=k+lead (fun c=> !(c == 10)) (c::r)->∃ m3,m3 < m/\(h=h/\∃ k':Nat,(j:Int)=k'/\k'+m3=s.length/\k'+skipN false (s.drop k')=n+skipN false (s.drop n))/\True:=by
          rintro j rfl
          refine ⟨m - lead (fun c=> !(c == 10)) (c::r),by omega,⟨rfl,_,rfl,by omega,?_⟩,trivial⟩
          rw [←hk,←List.drop_drop,hd,hcom];omega
         refine ⟨fun m' i' h'=>h'=h/\∃ j:Nat,i'=j/\j+m'=s.length/\k<=j/\j+lead (fun c=> !(c == 10)) (s.drop j)=k+lead (fun c=> !(c == 10)) (c::r),⟨s.length - k,rfl,k,rfl,by omega,Nat.le_refl _,by rw [hd]⟩,?_⟩
         rintro m' _ h ⟨rfl,j,rfl,hjm,hkj,hj⟩
         refine br_split (fun e7=>?_) (fun e7=>?_)
         . have hltj:j < s.length:=by
            have:(j:Int) < s.length:=by simpa using e7
            omega
           obtain ⟨c3,r3,hd3,hg3,ht3⟩:=get_of_lt hltj
           refine ⟨by omega,c3,by simpa using hg3,br_split (fun e8=>?_) (fun e8=>?_)⟩
           . have h10:(c3 == 10)=false:=by
              have:¬ c3=10:=fun e=>by subst e;simp at e8
              simpa using this
             refine ⟨m' - 1,by omega,⟨rfl,j+1,?_,by omega,by omega,?_⟩,trivial⟩
             . rw [wrap64 (by omega) (by omega)];rfl
             . rw [←hj,ht3,hd3];simp only [lead,h10,Bool.not_false,if_true];omega
           . have h10:c3=10:=by
              have e8:((c3.toNat:Int) == ((10:UInt8).toNat:Int))=true:=by
               cases hh:((c3.toNat:Int) == ((10:UInt8).toNat:Int)) with
               | true=>rfl
               | false=>
                 have:((c3.toNat:Int) != 10)=true:=by
                  show (!((c3.toNat:Int) == ((10:UInt8).toNat:Int)))=true
                  rw [hh];rfl
                 rw [this] at e8;cases e8
              exact u8_eq e8
             refine fin ?_
             rw [←hj,hd3,h10];simp [lead]
         . have:j=s.length:=by
            have:¬ (j:Int) < s.length:=by simpa using e7
            omega
           refine fin ?_
           rw [←hj,List.drop_eq_nil_of_le (by omega)];simp [lead]
       . refine stop (skipN_no (u8_ne e3) (u8_ne e1) (u8_ne e2) ?_)
         rw [h47,hd2]
         have:c2≠47:=u8_ne e6
         simp [List.isPrefixOf,this.symm]
     . have:k+1=s.length:=by
        have:¬ ((k+1:Nat):Int) < s.length:=by simpa using e5
        omega
       have hr:r=[]:=by rw [←ht];exact List.drop_eq_nil_of_le (by omega)
       refine stop (skipN_no (u8_ne e3) (u8_ne e1) (u8_ne e2) ?_)
       rw [hr];simp [List.isPrefixOf]
   . refine stop (skipN_no (u8_ne e3) (u8_ne e1) (u8_ne e2) ?_)
     have:c≠47:=u8_ne e4
     simp [List.isPrefixOf,this.symm]
 . have:k=s.length:=by
    have:¬ (k:Int) < s.length:=by simpa using e
    omega
   rw [←hk,List.drop_eq_nil_of_le (by omega)];simp [skipN]
end Go.Proofs.D
namespace Go.Proofs.D
open Go Go.Den Go.Sx
set_option maxRecDepth 100000
attribute [local irreducible] IntKind.wrap Tri marks words oneS
def numD (w:Bytes):Except Nat Nat:=if !w.all isDigit || (1 < w.length && w.head? == some 48) then .error 3 else if 4294967295 < decNum w then .error 2 else .ok (decNum w)
def decL (w:Bytes) (h:PHeap) (Q:Value->PHeap->Prop):Prop:=
 ∃ (I_3:Nat->Int->Bool->Int->PHeap->Prop),(∃ (m15:Nat),I_3 m15 (0:Int) false (0:Int) h)/\
   ∀ (m14:Nat) (i7:Int) (c9:Bool) (i8:Int) (h_6:PHeap),I_3 m14 i7 c9 i8 h_6->
   br (decide (i8 < (w.length:Int)))
   (0<=i8/\∃ (c10:UInt8),(w)[(i8).toNat]? =some c10/\
    Tri Tryz.prog 117 [vU (c10.toNat:Int)] h_6 fun v_4 h_7=>
    ∃ (c11:Bool),v_4=vB c11/\
    br (!c11)
    (Q (vT [vI 0,vI 3]) h_7)
    (br (i8 == 1)
     (0<=(0:Int)/\∃ (c12:UInt8),(w)[0]? =some c12/\
      br ((c12.toNat:Int) == 48)
      (Q (vT [vI 0,vI 3]) h_7)
      (br (!c9)
       (0<=i8/\∃ (c13:UInt8),(w)[(i8).toNat]? =some c13/\
        br c9
        (∃ (m16:Nat),m16 < m14/\I_3 m16 (IntKind.i64.wrap ((IntKind.i64.wrap (10 * i7))+(IntKind.i64.wrap ((IntKind.u8.wrap ((c13.toNat:Int) - 48)))))) true (IntKind.i64.wrap (i8+1)) h_7/\
         True)
        (∃ (m17:Nat),m17 < m14/\I_3 m17 (IntKind.i64.wrap ((IntKind.i64.wrap (10 * i7))+(IntKind.i64.wrap ((IntKind.u8.wrap ((c13.toNat:Int) - 48)))))) (decide ((IntKind.i64.wrap ((IntKind.i64.wrap (10 * i7))+(IntKind.i64.wrap ((IntKind.u8.wrap ((c13.toNat:Int) - 48)))))) > 4294967295)) (IntKind.i64.wrap (i8+1)) h_7/\
         True))
       (br c9
        (∃ (m18:Nat),m18 < m14/\I_3 m18 i7 true (IntKind.i64.wrap (i8+1)) h_7/\
         True)
        (∃ (m19:Nat),m19 < m14/\I_3 m19 i7 (decide (i7 > 4294967295)) (IntKind.i64.wrap (i8+1)) h_7/\
         True))))
     (br (!c9)
      (0<=i8/\∃ (c14:UInt8),(w)[(i8).toNat]? =some c14/\
       br c9
       (∃ (m20:Nat),m20 < m14/\I_3 m20 (IntKind.i64.wrap ((IntKind.i64.wrap (10 * i7))+(IntKind.i64.wrap ((IntKind.u8.wrap ((c14.toNat:Int) - 48)))))) true (IntKind.i64.wrap (i8+1)) h_7/\
        True)
       (∃ (m21:Nat),m21 < m14/\I_3 m21 (IntKind.i64.wrap ((IntKind.i64.wrap (10 * i7))+(IntKind.i64.wrap ((IntKind.u8.wrap ((c14.toNat:Int) - 48)))))) (decide ((IntKind.i64.wrap ((IntKind.i64.wrap (10 * i7))+(IntKind.i64.wrap ((IntKind.u8.wrap ((c14.toNat:Int) - 48)))))) > 4294967295)) (IntKind.i64.wrap (i8+1)) h_7/\
        True))
      (br c9
       (∃ (m22:Nat),m22 < m14/\I_3 m22 i7 true (IntKind.i64.wrap (i8+1)) h_7/\
        True)
       (∃ (m23:Nat),m23 < m14/\I_3 m23 i7 (decide (i7 > 4294967295)) (IntKind.i64.wrap (i8+1)) h_7/\
        True)))))
   (br c9
    (Q (vT [vI 0,vI 2]) h_6)
    (Q (vT [vI i7,vI 0]) h_6))
theorem decL_ok (w:Bytes) (h:PHeap) (hl:w.length<=1000000):decL w h fun v h'=>v=L.numV (numD w)/\h'=h:=by
 unfold decL
 refine ⟨fun m n ov i h'=>h'=h/\∃ k:Nat,i=k/\k+m=w.length/\(∀ j (hj:j < w.length),j < k->isDigit w[j]=true)/\(2<=k->w.head?≠some 48)/\((ov=false/\n=(decNum (w.take k):Nat)/\decNum (w.take k)<=4294967295)∨(ov=true/\4294967295 < decNum (w.take k))),
  ⟨w.length,rfl,0,rfl,by omega,fun j hj h0=>by omega,fun h0=>by omega, .inl ⟨rfl,by simp [decNum],by simp [decNum]⟩⟩,?_⟩
 rintro m n ov _ h ⟨rfl,k,rfl,hkm,hdig,hz,hst⟩
 refine br_split (fun e=>?_) (fun e=>?_)
 . have hlt:k < w.length:=by
    have:(k:Int) < w.length:=by simpa using e
    omega
   have hg:w[((k:Int)).toNat]? =some w[k]:=by simp [hlt]
   refine ⟨by omega,w[k],hg,?_⟩
   refine Tri.mono (digit_r w[k] h) ?_
   rintro _ h ⟨rfl,rfl⟩
   refine ⟨_,rfl,br_split (fun e1=>?_) (fun e1=>?_)⟩
   . have e1:isDigit w[k]=false:=by simpa using e1
     refine ⟨?_,rfl⟩
     have:w.all isDigit=false:=by
      cases hh:w.all isDigit with
      | false=>rfl
      | true=>
        rw [List.all_eq_true] at hh
        have:=hh w[k] (List.getElem_mem hlt)
        rw [e1] at this;cases this
     simp [numD,this,L.numV,L.n0,L.n1]
   . have e1:isDigit w[k]=true:=by simpa using e1
     have hd:=isDigit_iff.1 e1
     have hw:IntKind.i64.wrap ((k:Int)+1)=((k+1:Nat):Int):=by rw [wrap64 (by omega) (by omega)];rfl
     rw [hw]
     have hdig':∀ j (hj:j < w.length),j < k+1->isDigit w[j]=true:=fun j hj hjk=>by
      by_cases hh:j=k
      . subst hh;exact e1
      . exact hdig j hj (by omega)
     have hsn:decNum (w.take (k+1))=10 * decNum (w.take k)+(w[k].toNat - 48):=by
      rw [List.take_succ_eq_append_getElem hlt,L.decNum_snoc]
     have step:(2<=k+1->w.head?≠some 48)->
      (br (!ov)
       (0<=(k:Int)/\∃ (c14:UInt8),(w)[((k:Int)).toNat]? =some c14/\
        br ov
        (∃ (m20:Nat),m20 < m/\(h=h/\∃ k':Nat,((k+1:Nat):Int)=k'/\k'+m20=w.length/\(∀ j (hj:j < w.length),j < k'->isDigit w[j]=true)/\(2<=k'->w.head?≠some 48)/\(((true:Bool)=false/\(IntKind.i64.wrap ((IntKind.i64.wrap (10 * n))+(IntKind.i64.wrap ((IntKind.u8.wrap ((c14.toNat:Int) - 48))))))=(decNum (w.take k'):Nat)/\decNum (w.take k')<=4294967295)∨((true:Bool)=true/\4294967295 < decNum (w.take k'))))/\
         True)
        (∃ (m21:Nat),m21 < m/\(h=h/\∃ k':Nat,((k+1:Nat):Int)=k'/\k'+m21=w.length/\(∀ j (hj:j < w.length),j < k'->isDigit w[j]=true)/\(2<=k'->w.head?≠some 48)/\(((decide ((IntKind.i64.wrap ((IntKind.i64.wrap (10 * n))+(IntKind.i64.wrap ((IntKind.u8.wrap ((c14.toNat:Int) - 48)))))) > 4294967295))=false/\(IntKind.i64.wrap ((IntKind.i64.wrap (10 * n))+(IntKind.i64.wrap ((IntKind.u8.wrap ((c14.toNat:Int) - 48))))))=(decNum (w.take k'):Nat)/\decNum (w.take k')<=4294967295)∨((decide ((IntKind.i64.wrap ((IntKind.i64.wrap (10 * n))+(IntKind.i64.wrap ((IntKind.u8.wrap ((c14.toNat:Int) - 48)))))) > 4294967295))=true/\4294967295 < decNum (w.take k'))))/\
         True))
       (br ov
        (∃ (m22:Nat),m22 < m/\(h=h/\∃ k':Nat,((k+1:Nat):Int)=k'/\k'+m22=w.length/\(∀ j (hj:j < w.length),j < k'->isDigit w[j]=true)/\(2<=k'->w.head?≠some 48)/\(((true:Bool)=false/\n=(decNum (w.take k'):Nat)/\decNum (w.take k')<=4294967295)∨((true:Bool)=true/\4294967295 < decNum (w.take k'))))/\
         True)
        (∃ (m23:Nat),m23 < m/\(h=h/\∃ k':Nat,((k+1:Nat):Int)=k'/\k'+m23=w.length/\(∀ j (hj:j < w.length),j < k'->isDigit w[j]=true)/\(2<=k'->w.head?≠some 48)/\(((decide (n > 4294967295))=false/\n=(decNum (w.take k'):Nat)/\decNum (w.take k')<=4294967295)∨((decide (n > 4294967295))=true/\4294967295 < decNum (w.take k'))))/\
         True))):=fun hz'=>by
      rcases hst with ⟨rfl,hn,hle⟩ | ⟨rfl,hgt⟩
      . refine br_pos rfl ⟨by omega,w[k],hg,br_neg rfl ?_⟩
        have hv:IntKind.i64.wrap ((IntKind.i64.wrap (10 * n))+(IntKind.i64.wrap ((IntKind.u8.wrap ((w[k].toNat:Int) - 48)))))=(decNum (w.take (k+1)):Nat):=by
         subst hn
         rw [L.wrap8 (by omega) (by omega),wrap64 (n:=(w[k].toNat:Int) - 48) (by omega) (by omega),wrap64 (n:=10 * ((decNum (w.take k):Nat):Int)) (by omega) (by omega),wrap64 (by omega) (by omega),hsn]
         omega
        rw [hv]
        refine ⟨m - 1,by omega,⟨rfl,k+1,rfl,by omega,hdig',hz',?_⟩,trivial⟩
        by_cases hc:4294967295 < decNum (w.take (k+1))
        . exact .inr ⟨decide_eq_true (by omega),hc⟩
        . exact .inl ⟨decide_eq_false (by omega),rfl,by omega⟩
      . refine br_neg rfl (br_pos rfl ⟨m - 1,by omega,⟨rfl,k+1,rfl,by omega,hdig',hz', .inr ⟨rfl,by omega⟩⟩,trivial⟩)
     refine br_split (fun e2=>?_) (fun e2=>?_)
     . have hk1:k=1:=by
        have:(k:Int)=1:=by simpa using e2
        omega
       have h0:0 < w.length:=by omega
       refine ⟨Int.le_refl _,w[0],by simp [h0],br_split (fun e3=>?_) (fun e3=>?_)⟩
       . have:w[0]=48:=u8_eq e3
         have hh:w.head?=some 48:=by rw [List.head?_eq_getElem?,List.getElem?_eq_getElem h0,this]
         refine ⟨?_,rfl⟩
         have h1l:1 < w.length:=by omega
         simp [numD,hh,h1l,L.numV,L.n0,L.n1]
       . have:w[0]≠48:=u8_ne e3
         refine step fun _ hh=>this ?_
         rw [List.head?_eq_getElem?,List.getElem?_eq_getElem h0] at hh
         injection hh
     . have hk1:k≠1:=by
        have:¬ (k:Int)=1:=by simpa using e2
        omega
       exact step fun h2=>hz (by omega)
 . have hk:k=w.length:=by
    have:¬ (k:Int) < w.length:=by simpa using e
    omega
   have hall:w.all isDigit=true:=by
    rw [List.all_eq_true]
    intro x hx
    obtain ⟨j,hj,rfl⟩:=List.getElem_of_mem hx
    exact hdig j hj (by omega)
   have hc:(!w.all isDigit || (1 < w.length && w.head? == some 48))=false:=by
    rw [hall]
    by_cases h1:1 < w.length
    . have:=hz (by omega)
      have:(w.head? == some 48)=false:=by simpa using this
      simp [this]
    . simp [h1]
   rw [hk,List.take_length] at hst
   have hnd:numD w=if 4294967295 < decNum w then .error 2 else .ok (decNum w):=by simp only [numD,hc];rfl
   rcases hst with ⟨rfl,rfl,hle⟩ | ⟨rfl,hgt⟩
   . refine br_neg rfl ⟨?_,rfl⟩
     rw [hnd,if_neg (by omega)];rfl
   . refine br_pos rfl ⟨?_,rfl⟩
     rw [hnd,if_pos hgt];rfl
theorem number_r (w:Bytes) (h:PHeap) (hl:w.length<=1000000):Tri Tryz.prog 118 [vS w] h fun v h'=>v=L.numV (numS w)/\h'=h:=by
 refine T118 ?_
 unfold R118
 refine br_split (fun e=>?_) (fun e=>?_)
 . have h2:2 < w.length:=by
    have:(w.length:Int) > 2:=by simpa using e
    omega
   refine ⟨⟨by omega,by omega,by omega⟩,br_split (fun e1=>?_) (fun e1=>?_)⟩
   . have e1:w.take 2=[48,120]:=by simpa using e1
     obtain ⟨l,rfl⟩:∃ l,w=48::120::l:=by
      match w,h2,e1 with
      | a::b::l,_,e1=>simp at e1;exact ⟨l,by rw [e1.1,e1.2]⟩
     have hll:1<=l.length:=by simp at h2;omega
     have hnum:numS (48::120::l)=if l.length=0 || 8 < l.length || !l.all isHex then .error 3 else .ok (hexNum l):=rfl
     simp only [List.length_cons] at hl ⊢
     refine ⟨fun m n i h'=>h'=h/\∃ k:Nat,i=(k+2:Nat)/\k+m=l.length/\k<=8/\(∀ j (hj:j < l.length),j < k->isHex l[j]=true)/\n=(hexNum (l.take k):Nat),⟨l.length,rfl,0,rfl,by omega,by omega,fun j hj h0=>by omega,by simp [hexNum]⟩,?_⟩
     rintro m _ _ h ⟨rfl,k,rfl,hkm,hk8,hhex,rfl⟩
     have htk:(l.take k).all isHex=true:=by
      rw [List.all_eq_true]
      intro x hx
      obtain ⟨j,hj,rfl⟩:=List.getElem_of_mem hx
      rw [List.getElem_take]
      rw [List.length_take] at hj
      exact hhex j (by omega) (by omega)
     have hb:hexNum (l.take k) < 4294967296:=by
      have:=L.hexNum_lt (l.take k).length (l.take k) rfl htk
      have h16:16 ^ (l.take k).length<=16 ^ 8:=Nat.pow_le_pow_right (by decide) (by rw [List.length_take];omega)
      have:(16:Nat) ^ 8=4294967296:=by decide
      omega
     refine br_split (fun e2=>?_) (fun e2=>?_)
     . have hlt:k < l.length:=by
        have:=of_decide_eq_true e2
        omega
       have hg:(48::120::l)[(((k+2:Nat):Int)).toNat]? =some l[k]:=by
        rw [Int.toNat_natCast];simp [hlt]
       refine ⟨by omega,l[k],hg,?_⟩
       refine Tri.mono (hex_r l[k] h) ?_
       rintro _ h ⟨rfl,rfl⟩
       refine ⟨_,rfl,br_split (fun e3=>?_) (fun e3=>?_)⟩
       . have hx:isHex l[k]=false:=by
          cases hh:isHex l[k] with
          | false=>rfl
          | true=>
            have:=of_decide_eq_true e3
            rw [hexI,if_pos hh] at this;omega
         have:l.all isHex=false:=by
          cases hh:l.all isHex with
          | false=>rfl
          | true=>
            rw [List.all_eq_true] at hh
            have:=hh l[k] (List.getElem_mem hlt)
            rw [hx] at this;cases this
         refine ⟨?_,rfl⟩
         rw [hnum];simp [this,L.numV,L.n0,L.n1]
       . have hx:isHex l[k]=true:=by
          cases hh:isHex l[k] with
          | true=>rfl
          | false=>
            have:=of_decide_eq_false e3
            rw [hexI,if_neg (by rw [hh];decide)] at this;omega
         have hx16:=hexV_lt hx
         refine br_split (fun e4=>?_) (fun e4=>?_)
         . have:8<=k:=by
            have:=of_decide_eq_true e4
            omega
           have:8 < l.length:=by omega
           refine ⟨?_,rfl⟩
           rw [hnum];simp [this,L.numV,L.n0,L.n1]
         . have hk7:k < 8:=by
            have:=of_decide_eq_false e4
            omega
           refine ⟨by omega,l[k],hg,?_⟩
           refine Tri.mono (hex_r l[k] h) ?_
           rintro _ h ⟨rfl,rfl⟩
           refine ⟨_,rfl,m - 1,by omega,⟨rfl,k+1,?_,by omega,by omega,fun j hj hjk=>?_,?_⟩,trivial⟩
           . rw [wrap64 (by omega) (by omega)];omega
           . by_cases hh:j=k
             . subst hh;exact hx
             . exact hhex j hj (by omega)
           . rw [hexI,if_pos hx,wrap64 (n:=16 * ((hexNum (l.take k):Nat):Int)) (by omega) (by omega),wrap64 (by omega) (by omega),List.take_succ_eq_append_getElem hlt,L.hexNum_snoc]
             omega
     . have hk:k=l.length:=by
        have:=of_decide_eq_false e2
        omega
       have hall:l.all isHex=true:=by rw [hk,List.take_length] at htk;exact htk
       refine ⟨?_,rfl⟩
       have h0:¬ l.length=0:=by omega
       have h8:¬ 8 < l.length:=by omega
       rw [hk,List.take_length,hnum];simp [hall,h0,h8,L.numV,L.n0,L.n1]
   . have hp:¬ (([48,120]:Bytes).isPrefixOf w)=true:=fun hp=>by
      match w,h2,e1,hp with
      | a::b::l,_,e1,hp=>
        simp [List.isPrefixOf] at hp
        simp [←hp.1,←hp.2] at e1
     have:numS w=numD w:=L.numS_dec hp
     rw [this]
     exact decL_ok w h hl
 . have h2:w.length<=2:=by
    have:¬ (w.length:Int) > 2:=by simpa using e
    omega
   have:numS w=numD w:=by
    by_cases hp:(([48,120]:Bytes).isPrefixOf w)=true
    . match w,h2,hp with
      | [a,b],_,hp=>
        simp [List.isPrefixOf] at hp
        rw [←hp.1,←hp.2];rfl
      | [a],_,hp=>simp [List.isPrefixOf] at hp
      | [],_,hp=>simp [List.isPrefixOf] at hp
    . exact L.numS_dec hp
   rw [this]
   exact decL_ok w h hl
def chV (n:Nat):Except (Nat×Nat) (UInt8×Nat)->Value
 | .ok (b,k)=>vT [vU (b.toNat:Int),vI ((n+k:Nat):Int),vI 0,vI 0]
 | .error (e,k)=>vT [vU 0,vI n,vI e,vI ((n+k:Nat):Int)]
theorem u8_byte (a b:UInt8) (ha:isHex a=true) (hb:isHex b=true):IntKind.u8.wrap ((16 * hexV a+hexV b:Nat):Int)=((UInt8.ofNat (16 * hexV a+hexV b)).toNat:Int):=by
 have:=hexV_lt ha
 have:=hexV_lt hb
 rw [L.wrap8 (by omega) (by omega)]
 have:(UInt8.ofNat (16 * hexV a+hexV b)).toNat=16 * hexV a+hexV b:=by
  rw [UInt8.toNat_ofNat'];exact Nat.mod_eq_of_lt (by omega)
 rw [this]
theorem char_r {s:Bytes} {n:Nat} (h:PHeap) (hn:n<=s.length) (hl:s.length<=1000000):Tri Tryz.prog 155 [vS s,vI n] h fun v h'=>v=chV n (charS (s.drop n))/\h'=h:=by
 refine T155 ?_
 unfold R155
 have w1:IntKind.i64.wrap ((n:Int)+1)=((n+1:Nat):Int):=by rw [wrap64 (by omega) (by omega)];rfl
 have w2:IntKind.i64.wrap ((n:Int)+2)=((n+2:Nat):Int):=by rw [wrap64 (by omega) (by omega)];rfl
 have w4:IntKind.i64.wrap ((n:Int)+4)=((n+4:Nat):Int):=by rw [wrap64 (by omega) (by omega)];rfl
 rw [w1,w2,w4]
 refine br_split (fun e=>?_) (fun e=>?_)
 . have:s.length<=n:=by
    have:=of_decide_eq_true e
    omega
   rw [List.drop_eq_nil_of_le this];exact ⟨rfl,rfl⟩
 have hlt:n < s.length:=by
  have:=of_decide_eq_false e
  omega
 obtain ⟨c,r,hd,hg,ht⟩:=get_of_lt hlt
 have hg':s[((n:Int)).toNat]? =some c:=by simpa using hg
 rw [hd]
 refine ⟨by omega,c,hg',br_split (fun e1=>?_) (fun e1=>?_)⟩
 . have h32:c.toNat < 32:=by
    have:=of_decide_eq_true e1
    omega
   have hc:c≠92:=fun e=>by subst e;exact absurd h32 (by decide)
   refine ⟨?_,rfl⟩
   rw [L.charS_plain hc,if_pos (by simp [h32])];rfl
 have h32:¬ c.toNat < 32:=by
  have:=of_decide_eq_false e1
  omega
 refine ⟨by omega,c,hg',br_split (fun e2=>?_) (fun e2=>?_)⟩
 . have h126:126 < c.toNat:=by
    have:=of_decide_eq_true e2
    omega
   have hc:c≠92:=fun e=>by subst e;exact absurd h126 (by decide)
   refine ⟨?_,rfl⟩
   rw [L.charS_plain hc,if_pos (by simp [h126])];rfl
 have h126:¬ 126 < c.toNat:=by
  have:=of_decide_eq_false e2
  omega
 refine ⟨by omega,c,hg',br_split (fun e3=>?_) (fun e3=>?_)⟩
 . have hc:c≠92:=fun e=>by subst e;simp at e3
   refine ⟨by omega,c,hg',?_,rfl⟩
   rw [L.charS_plain hc,if_neg (by simp [h32,h126])];rfl
 have hc:c=92:=by
  have:(c.toNat:Int)=92:=by simpa using e3
  exact UInt8.toNat_inj.1 (by show c.toNat=92;omega)
 subst hc
 refine br_split (fun e4=>?_) (fun e4=>?_)
 . have hr:r=[]:=by
    have:=of_decide_eq_true e4
    rw [←ht];exact List.drop_eq_nil_of_le (by omega)
   rw [hr];exact ⟨rfl,rfl⟩
 have hlt1:n+1 < s.length:=by
  have:=of_decide_eq_false e4
  omega
 obtain ⟨d,r2,hd2,hg2,ht2⟩:=get_of_lt hlt1
 rw [ht] at hd2
 have hg2':s[(((n+1:Nat):Int)).toNat]? =some d:=by simpa using hg2
 rw [hd2]
 have esc:∀ (x b:UInt8),d=x->x≠120->escS x=some b->chV n (charS (92::d::r2))=vT [vU (b.toNat:Int),vI ((n+2:Nat):Int),vI 0,vI 0]:=by
  rintro x b rfl h1 h2
  rw [L.charS_esc h1,h2];rfl
 refine ⟨by omega,d,hg2',br_split (fun e5=>?_) (fun e5=>?_)⟩
 . exact ⟨(esc 110 10 (u8_eq e5) (by decide) rfl).symm,rfl⟩
 refine br_split (fun e6=>?_) (fun e6=>?_)
 . exact ⟨(esc 116 9 (u8_eq e6) (by decide) rfl).symm,rfl⟩
 refine br_split (fun e7=>?_) (fun e7=>?_)
 . exact ⟨(esc 48 0 (u8_eq e7) (by decide) rfl).symm,rfl⟩
 refine br_split (fun e8=>?_) (fun e8=>?_)
 . refine ⟨by omega,d,hg2',?_,rfl⟩
   rw [esc 92 92 (u8_eq e8) (by decide) rfl,(u8_eq e8:d=92)]
 refine br_split (fun e9=>?_) (fun e9=>?_)
 . refine ⟨by omega,d,hg2',?_,rfl⟩
   rw [esc 39 39 (u8_eq e9) (by decide) rfl,(u8_eq e9:d=39)]
 refine br_split (fun e10=>?_) (fun e10=>?_)
 . refine ⟨by omega,d,hg2',?_,rfl⟩
   rw [esc 34 34 (u8_eq e10) (by decide) rfl,(u8_eq e10:d=34)]
 refine br_split (fun e11=>?_) (fun e11=>?_)
 . have hd120:d=120:=u8_eq e11
   subst hd120
   refine ⟨fun m i1 i2 h'=>h'=h/\((m=2/\i1=0/\i2=((n+2:Nat):Int))∨(m=1/\∃ a r3,r2=a::r3/\isHex a=true/\i1=(hexV a:Nat)/\i2=((n+3:Nat):Int))∨(m=0/\∃ a b r4,r2=a::b::r4/\isHex a=true/\isHex b=true/\i1=(16 * hexV a+hexV b:Nat)/\i2=((n+4:Nat):Int))),
    ⟨2,rfl, .inl ⟨rfl,rfl,rfl⟩⟩,?_⟩
   rintro m i1 i2 h ⟨rfl,hst⟩
   rcases hst with ⟨rfl,rfl,rfl⟩ | ⟨rfl,a,r3,rfl,ha,rfl,rfl⟩ | ⟨rfl,a,b,r4,rfl,ha,hb,rfl,rfl⟩
   . refine br_pos (decide_eq_true (by omega)) (br_split (fun f1=>?_) (fun f1=>?_))
     . have:s.length<=n+2:=by
        have:=of_decide_eq_true f1
        omega
       have:r2=[]:=by rw [←ht2];exact List.drop_eq_nil_of_le (by omega)
       rw [this];exact ⟨rfl,rfl⟩
     . have hlt2:n+2 < s.length:=by
        have:=of_decide_eq_false f1
        omega
       obtain ⟨a,r3,hd3,hg3,ht3⟩:=get_of_lt hlt2
       rw [show n+2=n+1+1 from rfl,ht2] at hd3
       subst hd3
       refine ⟨by omega,a,by rw [Int.toNat_natCast];exact hg3,?_⟩
       refine Tri.mono (hex_r a h) ?_
       rintro _ h ⟨rfl,rfl⟩
       refine ⟨_,rfl,br_split (fun f2=>?_) (fun f2=>?_)⟩
       . have hx:isHex a=false:=by
          cases hh:isHex a with
          | false=>rfl
          | true=>
            have:=of_decide_eq_true f2
            rw [hexI,if_pos hh] at this;omega
         refine ⟨?_,rfl⟩
         rw [show charS (92::120::a::r3)= .error (6,2) by simp [charS,hx]];rfl
       . have hx:isHex a=true:=by
          cases hh:isHex a with
          | true=>rfl
          | false=>
            have:=of_decide_eq_false f2
            rw [hexI,if_neg (by rw [hh];decide)] at this;omega
         refine ⟨by omega,a,by rw [Int.toNat_natCast];exact hg3,?_⟩
         refine Tri.mono (hex_r a h) ?_
         rintro _ h ⟨rfl,rfl⟩
         have:=hexV_lt hx
         refine ⟨_,rfl,1,by omega,⟨rfl, .inr (.inl ⟨rfl,a,r3,rfl,hx,?_,?_⟩)⟩,trivial⟩
         . rw [hexI,if_pos hx,wrap64 (n:=16 * 0) (by omega) (by omega),wrap64 (by omega) (by omega)];omega
         . rw [wrap64 (by omega) (by omega)];omega
   . refine br_pos (decide_eq_true (by omega)) (br_split (fun f1=>?_) (fun f1=>?_))
     . have:s.length<=n+3:=by
        have:=of_decide_eq_true f1
        omega
       have:r3=[]:=by
        have h3:s.drop (n+3)=r3:=drop_tail ht2
        rw [←h3];exact List.drop_eq_nil_of_le (by omega)
       refine ⟨?_,rfl⟩
       rw [this,show charS [92,120,a]= .error (4,0) by simp [charS,ha]];rfl
     . have hlt2:n+3 < s.length:=by
        have:=of_decide_eq_false f1
        omega
       obtain ⟨b,r4,hd3,hg3,ht3⟩:=get_of_lt hlt2
       have h3:s.drop (n+3)=r3:=drop_tail ht2
       rw [h3] at hd3
       subst hd3
       refine ⟨by omega,b,by rw [Int.toNat_natCast];exact hg3,?_⟩
       refine Tri.mono (hex_r b h) ?_
       rintro _ h ⟨rfl,rfl⟩
       refine ⟨_,rfl,br_split (fun f2=>?_) (fun f2=>?_)⟩
       . have hx:isHex b=false:=by
          cases hh:isHex b with
          | false=>rfl
          | true=>
            have:=of_decide_eq_true f2
            rw [hexI,if_pos hh] at this;omega
         refine ⟨?_,rfl⟩
         rw [show charS (92::120::a::b::r4)= .error (6,3) by simp [charS,ha,hx]];rfl
       . have hx:isHex b=true:=by
          cases hh:isHex b with
          | true=>rfl
          | false=>
            have:=of_decide_eq_false f2
            rw [hexI,if_neg (by rw [hh];decide)] at this;omega
         refine ⟨by omega,b,by rw [Int.toNat_natCast];exact hg3,?_⟩
         refine Tri.mono (hex_r b h) ?_
         rintro _ h ⟨rfl,rfl⟩
         have:=hexV_lt hx
         have:=hexV_lt ha
         refine ⟨_,rfl,0,by omega,⟨rfl, .inr (.inr ⟨rfl,a,b,r4,rfl,ha,hx,?_,?_⟩)⟩,trivial⟩
         . rw [hexI,if_pos hx,wrap64 (n:=16 * ((hexV a:Nat):Int)) (by omega) (by omega),wrap64 (by omega) (by omega)];omega
         . rw [wrap64 (by omega) (by omega)];omega
   . refine br_neg (decide_eq_false (by omega)) ⟨?_,rfl⟩
     rw [show charS (92::120::a::b::r4)= .ok (UInt8.ofNat (16 * hexV a+hexV b),4) by simp [charS,ha,hb]]
     rw [u8_byte a b ha hb];rfl
 . refine ⟨?_,rfl⟩
   have h120:d≠120:=u8_ne e11
   have hno:escS d=none:=by
    have f5:d≠110:=u8_ne e5
    have f6:d≠116:=u8_ne e6
    have f7:d≠48:=u8_ne e7
    have f8:d≠92:=u8_ne e8
    have f9:d≠39:=u8_ne e9
    have f10:d≠34:=u8_ne e10
    simp [escS,f5,f6,f7,f8,f9,f10]
   rw [L.charS_esc h120,hno];rfl
end Go.Proofs.D
