import Derived.Test.YtifjnoabmbckpaaGreatDoorPri8
import Derived.WalkKit
import Derived.ProofKit
import Derived.OpenShut
import Derived.Deep.DeepHandedRow
import Derived.ChangeSlices
namespace Go.Sx
def wt:List Tok->Nat
 | []=>0
 | t::l=>t.text.length+wt l
structure OkT (t:Tok):Prop where
 nm:t.kind=1->nameOk t.text
 num:t.kind=2->t.value < 4294967296/\(digs t.value).length<=t.text.length
 str:t.kind=3->t.bytes.length<=200/\(quoteS t.bytes).length<=t.text.length
 pos:t.kind≠0->1<=t.text.length
def BR2 {α:Type} (P:α->List Tok->Int->Prop) (r:R α):Prop:=∀ x ts d,r= .ok (x,ts,d)->TB OkT ts/\P x ts d
theorem BR2.bind {α β:Type} {P:α->List Tok->Int->Prop} {P':β->List Tok->Int->Prop} {r:R α} {g:α->List Tok->Int->R β} (h:BR2 P r) (hg:∀ x ts d,TB OkT ts->P x ts d->BR2 P' (g x ts d)):BR2 P' (bindR r g):=by
 match r,h with
 | .error e,h=>intro x ts d hx;cases hx
 | .ok (x,ts,d),h=>exact hg x ts d (h x ts d rfl).1 (h x ts d rfl).2
theorem BR2.ok {α:Type} {P:α->List Tok->Int->Prop} {x:α} {ts:List Tok} {d:Int} (h:TB OkT ts) (h':P x ts d):BR2 P (.ok (x,ts,d):R α):=fun y us e hy=>by cases hy;exact ⟨h,h'⟩
theorem BR2.err {α:Type} {P:α->List Tok->Int->Prop} {e:Nat×Nat}:BR2 P (.error e:R α):=fun y us d hy=>by cases hy
theorem BR2.mono {α:Type} {P P':α->List Tok->Int->Prop} {r:R α} (h:BR2 P r) (hp:∀ x ts d,P x ts d->P' x ts d):BR2 P' r:=fun x ts d hx=>⟨(h x ts d hx).1,hp x ts d (h x ts d hx).2⟩
theorem wt_hd (ts:List Tok):wt ts=(hd ts).text.length+wt ts.tail:=by cases ts <;> rfl
theorem isT_text {ts:List Tok} {t:Bytes} (h:isT ts t=true):(hd ts).text=t:=by
 simp only [isT,Bool.and_eq_true,beq_iff_eq] at h;exact h.2
theorem takeT_b {t:Bytes} {ts:List Tok} {d:Int} (h:TB OkT ts):BR2 (fun _ ts' d'=>ts'.length+1=ts.length/\wt ts'+t.length=wt ts/\((opens t=true/\d≠32/\d'=d+1)∨(opens t=false/\closes t=true/\d'=d - 1)∨(opens t=false/\closes t=false/\d'=d))) (takeT t ts d):=by
 unfold takeT
 split
 . exact BR2.err
 . rename_i hc
   have hc:isT ts t=true:=by simpa using hc
   have h1:=isT_ne hc
   have h2:=wt_hd ts
   rw [isT_text hc] at h2
   split
   . split
     . exact BR2.err
     . exact BR2.ok h.tail ⟨h1,by omega, .inl ⟨by assumption,by assumption,rfl⟩⟩
   . rename_i ho
     split
     . exact BR2.ok h.tail ⟨h1,by omega, .inr (.inl ⟨by simpa using ho,by assumption,rfl⟩)⟩
     . rename_i hcl
       exact BR2.ok h.tail ⟨h1,by omega, .inr (.inr ⟨by simpa using ho,by simpa using hcl,rfl⟩)⟩
theorem takeT_o {t:Bytes} {ts:List Tok} {d:Int} (h:TB OkT ts) (ht:opens t=true):BR2 (fun _ ts' d'=>ts'.length+1=ts.length/\wt ts'+t.length=wt ts/\d≠32/\d'=d+1) (takeT t ts d):=
 (takeT_b h).mono fun x ts' d' hx=>⟨hx.1,hx.2.1,by
  rcases hx.2.2 with h | h | h
  . exact h.2
  . rw [ht] at h;cases h.1
  . rw [ht] at h;cases h.1⟩
theorem takeT_c {t:Bytes} {ts:List Tok} {d:Int} (h:TB OkT ts) (ht:opens t=false) (hc:closes t=true):BR2 (fun _ ts' d'=>ts'.length+1=ts.length/\wt ts'+t.length=wt ts/\d'=d - 1) (takeT t ts d):=
 (takeT_b h).mono fun x ts' d' hx=>⟨hx.1,hx.2.1,by
  rcases hx.2.2 with h | h | h
  . rw [ht] at h;cases h.1
  . exact h.2.2
  . rw [hc] at h;cases h.2.1⟩
theorem takeT_p {t:Bytes} {ts:List Tok} {d:Int} (h:TB OkT ts) (ht:opens t=false) (hc:closes t=false):BR2 (fun _ ts' d'=>ts'.length+1=ts.length/\wt ts'+t.length=wt ts/\d'=d) (takeT t ts d):=
 (takeT_b h).mono fun x ts' d' hx=>⟨hx.1,hx.2.1,by
  rcases hx.2.2 with h | h | h
  . rw [ht] at h;cases h.1
  . rw [hc] at h;cases h.2.1
  . exact h.2.2⟩
theorem takeK_b {k:Nat} (hk:k≠0) {ts:List Tok} {d:Int} (h:TB OkT ts):BR2 (fun t ts' d'=>OkT t/\t.kind=k/\ts'.length+1=ts.length/\wt ts'+t.text.length=wt ts/\d'=d) (takeK k ts d):=by
 unfold takeK
 split
 . rename_i e
   have:=isK_ne hk e
   exact BR2.ok h.tail ⟨(h.hdK hk e).1,(h.hdK hk e).2,this,by have:=wt_hd ts;omega,rfl⟩
 . exact BR2.err
theorem encB_len (b:Bool) (x:Bytes):(encB b x).length=x.length+(if b then 2 else 0):=by cases b <;> simp [encB]
theorem encT_len (b:Bool) (x:List Tok):(encT b x).length=x.length+(if b then 2 else 0):=by cases b <;> simp [encT]
theorem encN_eq (b:Bool) (n:Nat):encN b n=n+(if b then 1 else 0):=by cases b <;> simp [encN]
def QE (lv:Nat) (d:Int) (N M:Nat) (e:E) (ts:List Tok) (d':Int):Prop:=d'=d/\d+nL lv e<=32/\(tkL lv e).length+ts.length<=N/\(prL lv e).length+1+2 * wt ts<=M
theorem low_mono {e:E} {lv:Nat} (h:low e lv=true):low e (lv+1)=true:=by
 simp only [low,Bool.and_eq_true,decide_eq_true_eq] at h ⊢;exact ⟨h.1,by omega⟩
theorem QE.lower {lv:Nat} {d:Int} {N M:Nat} {e:E} {ts:List Tok} {d':Int} (h:QE (lv+1) d N M e ts d'):QE lv d N M e ts d':=by
 obtain ⟨h1,h2,h3,h4⟩:=h
 unfold nL at h2;unfold tkL at h3;unfold prL at h4
 rw [encN_eq] at h2;rw [encT_len] at h3;rw [encB_len] at h4
 refine ⟨h1,?_,?_,?_⟩
 . unfold nL;rw [encN_eq]
   cases hl:low e lv with
   | true=>rw [low_mono hl] at h2;exact h2
   | false=>simp only [Bool.false_eq_true,if_false];omega
 . unfold tkL;rw [encT_len]
   cases hl:low e lv with
   | true=>rw [low_mono hl] at h3;exact h3
   | false=>simp only [Bool.false_eq_true,if_false];omega
 . unfold prL;rw [encB_len]
   cases hl:low e lv with
   | true=>rw [low_mono hl] at h4;exact h4
   | false=>simp only [Bool.false_eq_true,if_false];omega
theorem QE.base {lv:Nat} {d:Int} {N M:Nat} {e:E} {ts:List Tok} {d':Int} (h:QE lv d N M e ts d'):d'=d/\d+nE e<=32/\(tkE e).length+ts.length<=N/\(prE e).length+1+2 * wt ts<=M:=by
 obtain ⟨h1,h2,h3,h4⟩:=h
 unfold nL at h2;unfold tkL at h3;unfold prL at h4
 rw [encN_eq] at h2;rw [encT_len] at h3;rw [encB_len] at h4
 exact ⟨h1,by omega,by omega,by omega⟩
theorem QE.par {d:Int} {N M:Nat} {e:E} {ts:List Tok} {d':Int} (h1:d'=d) (h2:d+(nE e+1:Nat)<=32) (h3:(tkE e).length+2+ts.length<=N) (h4:(prE e).length+3+2 * wt ts<=M) (lv:Nat):QE lv d N M e ts d':=by
 unfold QE nL tkL prL
 rw [encN_eq,encT_len,encB_len]
 refine ⟨h1,?_,?_,?_⟩ <;> split <;> omega
theorem QE.top {d:Int} {N M:Nat} {e:E} {ts:List Tok} {d':Int} {lv:Nat} (hx:xk e≠7) (h:d'=d/\d+nE e<=32/\(tkE e).length+ts.length<=N/\(prE e).length+1+2 * wt ts<=M):QE lv d N M e ts d':=by
 have:low e lv=false:=by simp [low,hx]
 unfold QE nL tkL prL
 rw [this]
 exact h
def QL (d:Int) (N M:Nat) (l:List E) (ts:List Tok) (d':Int):Prop:=d'=d/\d+maxN (nEs l)<=32/\(commaT (tkEs l)).length+ts.length<=N/\(commaB (prEs l)).length+2 * wt ts<=M
theorem moreB_app (l:List E) (x:E):(moreB (prEs (l++[x]))).length=(moreB (prEs l)).length+2+(prE x).length:=by
 induction l with
 | nil=>simp [prEs,moreB];omega
 | cons y l ih=>simp only [List.cons_append,prEs,moreB,List.length_cons,List.length_append,ih];omega
theorem commaB_app (l:List E) (x:E):(commaB (prEs (l++[x]))).length<=(commaB (prEs l)).length+2+(prE x).length:=by
 cases l with
 | nil=>simp [prEs,commaB,moreB]
 | cons y l=>simp only [List.cons_append,prEs,commaB,List.length_append,moreB_app];omega
theorem moreT_app (l:List E) (x:E):(moreT (tkEs (l++[x]))).length=(moreT (tkEs l)).length+1+(tkE x).length:=by
 induction l with
 | nil=>simp [tkEs,moreT];omega
 | cons y l ih=>simp only [List.cons_append,tkEs,moreT,List.length_cons,List.length_append,ih];omega
theorem commaT_app (l:List E) (x:E):(commaT (tkEs (l++[x]))).length<=(commaT (tkEs l)).length+1+(tkE x).length:=by
 cases l with
 | nil=>simp [tkEs,commaT,moreT]
 | cons y l=>simp only [List.cons_append,tkEs,commaT,List.length_append,moreT_app];omega
theorem maxN_app (l:List E) (x:E):maxN (nEs (l++[x]))=max (maxN (nEs l)) (nE x):=by
 induction l with
 | nil=>simp [nEs,maxN]
 | cons y l ih=>simp only [List.cons_append,nEs,maxN,ih];omega
structure DX (f:Nat):Prop where
 bin:∀ lv ts d,1<=lv->lv<=11->d<=32->TB OkT ts->BR2 (QE lv d ts.length (2 * wt ts)) (pBin f lv ts d)
 loop:∀ lv e ts d N M,1<=lv->lv<=10->d<=32->TB OkT ts->QE lv d N M e ts d->BR2 (QE lv d N M) (pLoop f lv e ts d)
 un:∀ ts d,d<=32->TB OkT ts->BR2 (QE 11 d ts.length (2 * wt ts)) (pUn f ts d)
 prim:∀ ts d,d<=32->TB OkT ts->BR2 (QE 11 d ts.length (2 * wt ts)) (pPrim f ts d)
 name:∀ ts d,d<=32->TB OkT ts->isK ts 1=true->BR2 (QE 11 d ts.length (2 * wt ts)) (pName f ts d)
 call:∀ t ts d,d<=32->TB OkT ts->BR2 (fun e ts' d'=>∃ l,e= .mk 5 [] t.text 0 [] l t.pos/\d'=d/\d+(maxN (nEs l)+1:Nat)<=32/\(commaT (tkEs l)).length+2+ts'.length<=ts.length/\(commaB (prEs l)).length+4+2 * wt ts'<=2 * wt ts) (pCall f t ts d)
 args:∀ ts d,d<=32->TB OkT ts->BR2 (QL d ts.length (2 * wt ts)) (pArgs f ts d)
 more:∀ l ts d N M,d<=32->TB OkT ts->QL d N M l ts d->BR2 (QL d N M) (pMore f l ts d)
theorem dx:∀ f,DX f
 | 0=>by constructor <;> intros <;> (first | unfold pBin | unfold pLoop | unfold pUn | unfold pPrim | unfold pName | unfold pCall | unfold pArgs | unfold pMore) <;> exact BR2.err
 | f+1=>by
   have X:=dx f
   refine ⟨fun lv ts d h1 h11 hd h=>?_,fun lv e ts d N M h1 h10 hd h hq=>?_,fun ts d hd h=>?_,fun ts d hd h=>?_,fun ts d hd h hk=>?_,fun t ts d hd h=>?_,fun ts d hd h=>?_,fun l ts d N M hd h hq=>?_⟩
   . unfold pBin
     split
     . rename_i e;subst e;exact X.un ts d hd h
     . refine (X.bin (lv+1) ts d (by omega) (by omega) hd h).bind fun e ts1 d1 ht hq=>?_
       obtain rfl:=hq.1
       exact X.loop lv e ts1 d1 _ _ h1 (by omega) hd ht hq.lower
   . unfold pLoop
     split
     . rename_i hc
       simp only [Bool.and_eq_true,beq_iff_eq] at hc
       have hl:=isK_ne (by decide) hc.1
       have hw:=wt_hd ts
       have hp:=(h.hdK (by decide) hc.1).1.pos (by rw [(h.hdK (by decide) hc.1).2];decide)
       refine (X.bin (lv+1) ts.tail d (by omega) (by omega) hd h.tail).bind fun e' ts1 d1 ht hq'=>?_
       obtain ⟨rfl,a2,a3,a4⟩:=hq'
       obtain ⟨_,b2,b3,b4⟩:=hq
       refine X.loop lv _ ts1 d1 N M h1 h10 hd ht ?_
       have hlow:low (.mk 7 (Sx.hd ts).text [] 0 [] [e,e'] (Sx.hd ts).pos) lv=false:=by unfold low xk xo;simp only [hc.2];simp
       unfold QE nL tkL prL
       rw [hlow]
       simp only [encN,encT,encB,Bool.false_eq_true,if_false]
       rw [n_bin,tk_bin,pr_bin,hc.2]
       simp only [List.length_append,List.length_cons]
       exact ⟨by trivial,by omega,by omega,by omega⟩
     . exact BR2.ok h hq
   . unfold pUn
     split
     . rename_i hc
       have ht:isT ts [45]=true∨isT ts [33]=true∨isT ts [126]=true:=by
        simp only [Bool.or_eq_true] at hc;rcases hc with (hc | hc) | hc <;> simp [hc]
       have hl:ts.tail.length+1=ts.length:=by rcases ht with h | h | h <;> exact isT_ne h
       have ho:(Sx.hd ts).text.length=1:=by rcases ht with h | h | h <;> rw [isT_text h] <;> rfl
       have hw:=wt_hd ts
       refine (X.un ts.tail d hd h.tail).bind fun e ts1 d1 ht hq=>?_
       obtain ⟨rfl,a2,a3,a4⟩:=hq
       refine BR2.ok ht (QE.top (by simp [xk]) ?_)
       rw [n_un,tk_un,pr_un]
       simp only [List.length_append,List.length_cons]
       exact ⟨by trivial,by omega,by omega,by omega⟩
     . exact X.prim ts d hd h
   . unfold pPrim
     have hw:=wt_hd ts
     split
     . rename_i hc
       have hh:=h.hdK (by decide) hc
       have hl:=isK_ne (by decide) hc
       have:=(hh.1.num hh.2).2
       have:=hh.1.pos (by rw [hh.2];decide)
       refine BR2.ok h.tail (QE.top (by simp [xk]) ?_)
       rw [n_num,tk_num,pr_num]
       simp only [List.length_cons,List.length_nil]
       exact ⟨by trivial,by omega,by omega,by omega⟩
     split
     . rename_i hc
       have hh:=h.hdK (by decide) hc
       have hl:=isK_ne (by decide) hc
       have:=(hh.1.str hh.2).2
       have:=hh.1.pos (by rw [hh.2];decide)
       refine BR2.ok h.tail (QE.top (by simp [xk]) ?_)
       rw [n_str,tk_str,pr_str]
       simp only [List.length_cons,List.length_nil]
       exact ⟨by trivial,by omega,by omega,by omega⟩
     split
     . rename_i hc;exact X.name ts d hd h hc
     refine (takeT_o h rfl).bind fun _ ts1 d1 h1 q1=>?_
     obtain ⟨a1,a2,a3,rfl⟩:=q1
     refine (X.bin 1 ts1 (d+1) (by omega) (by omega) (by omega) h1).bind fun e ts2 d2 h2 q2=>?_
     obtain ⟨rfl,b2,b3,b4⟩:=q2.base
     refine (takeT_c h2 rfl rfl).bind fun _ ts3 d3 h3 q3=>?_
     obtain ⟨c1,c2,rfl⟩:=q3
     simp only [List.length_cons,List.length_nil] at a2 c2
     exact BR2.ok h3 (QE.par (by omega) (by omega) (by omega) (by omega) 11)
   . unfold pName
     have hw:=wt_hd ts
     have hh:=h.hdK (by decide) hk
     have hl:=isK_ne (by decide) hk
     have hp:=hh.1.pos (by rw [hh.2];decide)
     split
     . refine (X.call _ ts.tail d hd h.tail).mono fun e ts1 d1 hq=>?_
       obtain ⟨l,rfl,rfl,a2,a3,a4⟩:=hq
       refine QE.top (by simp [xk]) ?_
       rw [n_call,tk_call,pr_call]
       simp only [List.length_append,List.length_cons,List.length_nil]
       exact ⟨by trivial,a2,by omega,by omega⟩
     split
     . refine (takeT_o h.tail rfl).bind fun _ ts1 d1 h1 q1=>?_
       obtain ⟨a1,a2,a3,rfl⟩:=q1
       refine (X.bin 1 ts1 (d+1) (by omega) (by omega) (by omega) h1).bind fun e ts2 d2 h2 q2=>?_
       obtain ⟨rfl,b2,b3,b4⟩:=q2.base
       refine (takeT_c h2 rfl rfl).bind fun _ ts3 d3 h3 q3=>?_
       obtain ⟨c1,c2,rfl⟩:=q3
       simp only [List.length_cons,List.length_nil] at a2 c2
       refine BR2.ok h3 (QE.top (by simp [xk]) ?_)
       rw [n_elem,tk_elem,pr_elem]
       simp only [List.length_append,List.length_cons,List.length_nil]
       exact ⟨by omega,by omega,by omega,by omega⟩
     . refine BR2.ok h.tail (QE.top (by simp [xk]) ?_)
       rw [n_var,tk_var,pr_var]
       simp only [List.length_cons,List.length_nil]
       exact ⟨by trivial,by omega,by omega,by omega⟩
   . unfold pCall
     refine (takeT_o h rfl).bind fun _ ts1 d1 h1 q1=>?_
     obtain ⟨a1,a2,a3,rfl⟩:=q1
     refine (X.args ts1 (d+1) (by omega) h1).bind fun l ts2 d2 h2 q2=>?_
     obtain ⟨rfl,b2,b3,b4⟩:=q2
     refine (takeT_c h2 rfl rfl).bind fun _ ts3 d3 h3 q3=>?_
     obtain ⟨c1,c2,rfl⟩:=q3
     simp only [List.length_cons,List.length_nil] at a2 c2
     exact BR2.ok h3 ⟨l,rfl,by omega,by omega,by omega,by omega⟩
   . unfold pArgs
     split
     . exact BR2.ok h ⟨rfl,by simp [nEs,maxN,hd],by simp [tkEs,commaT],by simp [prEs,commaB]⟩
     . refine (X.bin 1 ts d (by omega) (by omega) hd h).bind fun e ts1 d1 ht hq=>?_
       obtain ⟨rfl,a2,a3,a4⟩:=hq.base
       refine X.more _ ts1 d1 _ _ hd ht ⟨rfl,by simpa [nEs,maxN] using a2,by simpa [tkEs,commaT,moreT] using a3,?_⟩
       simp only [prEs,commaB,moreB,List.append_nil]
       omega
   . unfold pMore
     split
     . refine (takeT_p h rfl rfl).bind fun _ ts1 d1 h1 q1=>?_
       obtain ⟨a1,a2,rfl⟩:=q1
       refine (X.bin 1 ts1 d1 (by omega) (by omega) hd h1).bind fun e ts2 d2 h2 q2=>?_
       obtain ⟨rfl,b2,b3,b4⟩:=q2.base
       obtain ⟨_,c2,c3,c4⟩:=hq
       have e1:=commaT_app l e
       have e2:=commaB_app l e
       have e3:=maxN_app l e
       simp only [List.length_cons,List.length_nil] at a2
       exact X.more _ ts2 d2 N M hd h2 ⟨rfl,by omega,by omega,by omega⟩
     . exact BR2.ok h hq
end Go.Sx
namespace Go.Sx
theorem tabB_len:∀ n,(tabB n).length=n
 | 0=>rfl
 | n+1=>by rw [tabB,List.length_cons,tabB_len n]
mutual
theorem prS_mono (n:Nat):∀ (s:S),(prS n s).length<=(prS (n+1) s).length
 | .mk k nm args body els pos=>by
   have h1:=prSs_mono (n+1) body
   have h2:=prSs_mono (n+1) els
   have h3:=prSl_mono n els
   simp only [prS]
   have t1:=tabB_len n
   have t2:=tabB_len (n+1)
   repeat' split
   all_goals simp only [List.length_append,List.length_cons,List.length_nil]
   all_goals omega
theorem prSs_mono (n:Nat):∀ (l:List S),(prSs n l).length<=(prSs (n+1) l).length
 | []=>Nat.le_refl _
 | s::l=>by
   have h1:=prS_mono n s
   have h2:=prSs_mono n l
   simp only [prSs,List.length_append,List.length_cons,tabB_len]
   omega
theorem prSl_mono (n:Nat):∀ (l:List S),((prSl n l).getD 0 []).length<=((prSl (n+1) l).getD 0 []).length
 | []=>Nat.le_refl _
 | s::l=>by
   have h1:=prS_mono n s
   simp only [prSl,List.getD_cons_zero]
   exact h1
end
theorem prSs_app (n:Nat) (l:List S) (s:S):(prSs n (l++[s])).length=(prSs n l).length+n+(prS n s).length+1:=by
 induction l with
 | nil=>simp [prSs,tabB_len];omega
 | cons y l ih=>simp only [List.cons_append,prSs,List.length_append,List.length_cons,ih];omega
theorem tkSs_app (l:List S) (s:S):(tkSs (l++[s])).length=(tkSs l).length+(tkS s).length:=by
 induction l with
 | nil=>simp [tkSs]
 | cons y l ih=>simp only [List.cons_append,tkSs,List.length_append,ih];omega
theorem nSs_app (l:List S) (s:S):nSs (l++[s])=max (nSs l) (nS s):=by
 induction l with
 | nil=>simp [nSs]
 | cons y l ih=>simp only [List.cons_append,nSs,ih];omega
def QS (n N M:Nat) (s:S) (ts:List Tok) (d:Int):Prop:=d=n/\n+nS s<=32/\(tkS s).length+ts.length<=N/\2 * (n+(prS n s).length+1)+21 * wt ts<=M
def QB (n N M:Nat) (l:List S) (ts:List Tok) (d:Int):Prop:=d=n/\n+(nSs l+1)<=32/\(tkSs l).length+2+ts.length<=N/\2 * (prSs (n+1) l).length+42+21 * wt ts<=M
theorem pCond_b (f:Nat) {ts:List Tok} {d:Int} (hd:d<=32) (h:TB OkT ts):BR2 (fun e ts' d'=>d'=d/\d+(nE e+1:Nat)<=32/\(tkE e).length+2+ts'.length<=ts.length/\(prE e).length+5+2 * wt ts'<=2 * wt ts) (pCond f ts d):=by
 unfold pCond
 refine (takeT_o h rfl).bind fun _ ts1 d1 h1 q1=>?_
 obtain ⟨a1,a2,a3,rfl⟩:=q1
 refine ((dx f).bin 1 ts1 (d+1) (by omega) (by omega) (by omega) h1).bind fun e ts2 d2 h2 q2=>?_
 obtain ⟨rfl,b2,b3,b4⟩:=q2.base
 refine (takeT_c h2 rfl rfl).bind fun _ ts3 d3 h3 q3=>?_
 obtain ⟨c1,c2,rfl⟩:=q3
 simp only [List.length_cons,List.length_nil] at a2 c2
 exact BR2.ok h3 ⟨by omega,by omega,by omega,by omega⟩
structure DS (f:Nat):Prop where
 block:∀ ts (n:Nat),n<=32->TB OkT ts->BR2 (QB n ts.length (21 * wt ts)) (pBlock f ts n)
 stmts:∀ l ts (n N M:Nat),n<=31->TB OkT ts->n+(nSs l+1)<=32->(tkSs l).length+ts.length<=N->2 * (prSs (n+1) l).length+21 * wt ts<=M->
  BR2 (fun l ts' d'=>d'=n/\n+(nSs l+1)<=32/\(tkSs l).length+1+ts'.length<=N/\2 * (prSs (n+1) l).length+21+21 * wt ts'<=M) (pStmts f l ts (n+1:Nat))
 stmt:∀ ts (n:Nat),n<=32->TB OkT ts->BR2 (QS n ts.length (21 * wt ts)) (pStmt f ts n)
 ifs:∀ ts (n:Nat),n<=32->TB OkT ts->isT ts kIf=true->BR2 (fun s ts' d'=>QS n ts.length (21 * wt ts) s ts' d'/\sk s=5) (pIf f ts n)
 named:∀ ts (n:Nat),n<=32->TB OkT ts->isK ts 1=true->BR2 (QS n ts.length (21 * wt ts)) (pNamed f ts n)
theorem ds:∀ f,DS f
 | 0=>by constructor <;> intros <;> (first | unfold pBlock | unfold pStmts | unfold pStmt | unfold pIf | rw [pNamed]) <;> exact BR2.err
 | f+1=>by
   have X:=ds f
   have Y:=dx f
   have kv:kVar.length=3:=rfl
   have ki:kIf.length=2:=rfl
   have ke:kElse.length=4:=rfl
   have kw:kWhile.length=5:=rfl
   have kr:kRet.length=6:=rfl
   have kb:kBrk.length=5:=rfl
   have kc:kCont.length=8:=rfl
   refine ⟨fun ts n hn h=>?_,fun l ts n N M hn h g1 g2 g3=>?_,fun ts n hn h=>?_,fun ts n hn h hk=>?_,fun ts n hn h hk=>?_⟩
   . unfold pBlock
     refine (takeT_o h rfl).bind fun _ ts1 d1 h1 q1=>?_
     obtain ⟨a1,a2,a3,rfl⟩:=q1
     simp only [List.length_cons,List.length_nil] at a2
     refine (X.stmts [] ts1 n (ts.length - 1) (21 * wt ts - 21) (by omega) h1 (by simp only [nSs];omega) (by simp only [tkSs,List.length_nil];omega) (by simp only [prSs,List.length_nil];omega)).mono fun l ts2 d2 q2=>?_
     obtain ⟨rfl,b2,b3,b4⟩:=q2
     exact ⟨rfl,b2,by omega,by omega⟩
   . unfold pStmts
     split
     . refine (takeT_c h rfl rfl).bind fun _ ts1 d1 h1 q1=>?_
       obtain ⟨a1,a2,rfl⟩:=q1
       simp only [List.length_cons,List.length_nil] at a2
       exact BR2.ok h1 ⟨by omega,g1,by omega,by omega⟩
     . refine (X.stmt ts (n+1) (by omega) h).bind fun s ts1 d1 h1 q1=>?_
       obtain ⟨rfl,a2,a3,a4⟩:=q1
       have e1:=prSs_app (n+1) l s
       have e2:=tkSs_app l s
       have e3:=nSs_app l s
       exact X.stmts _ ts1 n N M hn h1 (by omega) (by omega) (by omega)
   . unfold pStmt
     have hw:=wt_hd ts
     split
     . rename_i hc;exact X.named ts n hn h hc
     split
     . rename_i hc
       have hl:=isT_ne hc
       have ht:(hd ts).text.length=3:=by rw [isT_text hc];rfl
       refine (takeK_b (by decide) h.tail).bind fun t ts1 d1 h1 q1=>?_
       obtain ⟨o1,o2,a1,a2,rfl⟩:=q1
       have op:=o1.pos (by rw [o2];decide)
       split
       . refine (takeT_p h1 rfl rfl).bind fun _ ts2 d2 h2 q2=>?_
         obtain ⟨b1,b2,rfl⟩:=q2
         refine (Y.bin 1 ts2 n (by omega) (by omega) (by omega) h2).bind fun e ts3 d3 h3 q3=>?_
         obtain ⟨rfl,c2,c3,c4⟩:=q3.base
         refine (takeT_p h3 rfl rfl).bind fun _ ts4 d4 h4 q4=>?_
         obtain ⟨e1,e2,rfl⟩:=q4
         simp only [List.length_cons,List.length_nil] at b2 e2
         refine BR2.ok h4 ?_
         unfold QS
         rw [ns_decl1,ts_decl1,ps_decl1]
         simp only [List.length_append,List.length_cons,List.length_nil]
         exact ⟨by trivial,by omega,by omega,by omega⟩
       . refine (takeT_p h1 rfl rfl).bind fun _ ts2 d2 h2 q2=>?_
         obtain ⟨b1,b2,rfl⟩:=q2
         simp only [List.length_cons,List.length_nil] at b2
         refine BR2.ok h2 ?_
         unfold QS
         rw [ts_decl,ps_decl]
         simp only [List.length_append,List.length_cons,List.length_nil]
         exact ⟨by trivial,by simp [nS,nEs];omega,by omega,by omega⟩
     split
     . rename_i hc;exact (X.ifs ts n hn h hc).mono fun s ts1 d1 q=>q.1
     split
     . rename_i hc
       have hl:=isT_ne hc
       have ht:(hd ts).text.length=5:=by rw [isT_text hc];rfl
       refine (pCond_b f (d:=n) (by omega) h.tail).bind fun e ts1 d1 h1 q1=>?_
       obtain ⟨rfl,a2,a3,a4⟩:=q1
       refine (X.block ts1 n hn h1).bind fun b ts2 d2 h2 q2=>?_
       obtain ⟨rfl,b2,b3,b4⟩:=q2
       refine BR2.ok h2 ?_
       unfold QS
       rw [ns_while,ts_while,ps_while]
       simp only [List.length_append,List.length_cons,List.length_nil,tabB_len]
       exact ⟨by trivial,by omega,by omega,by omega⟩
     split
     . rename_i hc
       have hl:=isT_ne hc
       have ht:(hd ts).text.length=6:=by rw [isT_text hc];rfl
       split
       . refine (takeT_p h.tail rfl rfl).bind fun _ ts2 d2 h2 q2=>?_
         obtain ⟨b1,b2,rfl⟩:=q2
         simp only [List.length_cons,List.length_nil] at b2
         refine BR2.ok h2 ?_
         unfold QS
         rw [ts_ret,ps_ret]
         simp only [List.length_append,List.length_cons,List.length_nil]
         exact ⟨by trivial,by simp [nS,nEs];omega,by omega,by omega⟩
       . refine (Y.bin 1 ts.tail n (by omega) (by omega) (by omega) h.tail).bind fun e ts3 d3 h3 q3=>?_
         obtain ⟨rfl,c2,c3,c4⟩:=q3.base
         refine (takeT_p h3 rfl rfl).bind fun _ ts4 d4 h4 q4=>?_
         obtain ⟨e1,e2,rfl⟩:=q4
         simp only [List.length_cons,List.length_nil] at e2
         refine BR2.ok h4 ?_
         unfold QS
         rw [ns_ret1,ts_ret1,ps_ret1]
         simp only [List.length_append,List.length_cons,List.length_nil]
         exact ⟨by trivial,by omega,by omega,by omega⟩
     split
     . rename_i hc
       have hl:=isT_ne hc
       have ht:(hd ts).text.length=5:=by rw [isT_text hc];rfl
       refine (takeT_p h.tail rfl rfl).bind fun _ ts2 d2 h2 q2=>?_
       obtain ⟨b1,b2,rfl⟩:=q2
       simp only [List.length_cons,List.length_nil] at b2
       refine BR2.ok h2 ?_
       unfold QS
       rw [ts_brk,ps_brk]
       simp only [List.length_append,List.length_cons,List.length_nil]
       exact ⟨by trivial,by simp [nS,nEs];omega,by omega,by omega⟩
     split
     . rename_i hc
       have hl:=isT_ne hc
       have ht:(hd ts).text.length=8:=by rw [isT_text hc];rfl
       refine (takeT_p h.tail rfl rfl).bind fun _ ts2 d2 h2 q2=>?_
       obtain ⟨b1,b2,rfl⟩:=q2
       simp only [List.length_cons,List.length_nil] at b2
       refine BR2.ok h2 ?_
       unfold QS
       rw [ts_cont,ps_cont]
       simp only [List.length_append,List.length_cons,List.length_nil]
       exact ⟨by trivial,by simp [nS,nEs];omega,by omega,by omega⟩
     . exact BR2.err
   . unfold pIf
     have hw:=wt_hd ts
     have hl:=isT_ne hk
     have ht:(hd ts).text.length=2:=by rw [isT_text hk];rfl
     refine (pCond_b f (d:=n) (by omega) h.tail).bind fun e ts1 d1 h1 q1=>?_
     obtain ⟨rfl,a2,a3,a4⟩:=q1
     refine (X.block ts1 n hn h1).bind fun b ts2 d2 h2 q2=>?_
     obtain ⟨rfl,b2,b3,b4⟩:=q2
     split
     . rename_i hc
       have hw2:=wt_hd ts2
       have hl2:=isT_ne hc
       have ht2:(hd ts2).text.length=4:=by rw [isT_text hc];rfl
       split
       . rename_i hc2
         refine (X.ifs ts2.tail n hn h2.tail hc2).bind fun s ts3 d3 h3 q3=>?_
         obtain ⟨⟨rfl,c2,c3,c4⟩,c5⟩:=q3
         have hch:chain [s]=true:=by simp [chain,c5]
         have x1:elN [s]=nS s:=by simp [elN,hch,nSs]
         have x2:elT [s]=kwd kElse::tkS s:=by simp [elT,hch,tkSs]
         have x3:elB n [s]=32::(kElse++32::prS n s):=by simp [elB,hch,prSl]
         refine BR2.ok h3 ⟨?_,rfl⟩
         unfold QS
         rw [ns_if,ts_if,ps_if,x1,x2,x3]
         simp only [List.length_append,List.length_cons,List.length_nil,tabB_len]
         exact ⟨by trivial,by omega,by omega,by omega⟩
       . refine (X.block ts2.tail n hn h2.tail).bind fun c ts3 d3 h3 q3=>?_
         obtain ⟨rfl,c2,c3,c4⟩:=q3
         refine BR2.ok h3 ⟨?_,rfl⟩
         have hx:elN c<=nSs c+1/\(elT c).length<=(tkSs c).length+3/\(elB n c).length<=(prSs (n+1) c).length+n+9:=by
          unfold elN elT elB
          cases c with
          | nil=>simp
          | cons s0 c0=>
            cases hch:chain (s0::c0) with
            | true=>
              cases c0 with
              | cons _ _=>cases hch
              | nil=>
                have:=prS_mono n s0
                simp [prSl,prSs,tkSs,ke,tabB_len]
                omega
            | false=>simp [ke,tabB_len];omega
         unfold QS
         rw [ns_if,ts_if,ps_if]
         simp only [List.length_append,List.length_cons,List.length_nil,tabB_len]
         exact ⟨by trivial,by omega,by omega,by omega⟩
     . refine BR2.ok h2 ⟨?_,rfl⟩
       have x1:elN []=0:=rfl
       have x2:elT []=[]:=rfl
       have x3:elB n []=[]:=rfl
       unfold QS
       rw [ns_if,ts_if,ps_if,x1,x2,x3]
       simp only [List.length_append,List.length_cons,List.length_nil,tabB_len]
       exact ⟨by trivial,by omega,by omega,by omega⟩
   . rw [pNamed]
     have hw:=wt_hd ts
     have hh:=h.hdK (by decide) hk
     have hl:=isK_ne (by decide) hk
     have hp:=hh.1.pos (by rw [hh.2];decide)
     split
     . refine (takeT_p h.tail rfl rfl).bind fun _ ts2 d2 h2 q2=>?_
       obtain ⟨b1,b2,rfl⟩:=q2
       refine (Y.bin 1 ts2 n (by omega) (by omega) (by omega) h2).bind fun e ts3 d3 h3 q3=>?_
       obtain ⟨rfl,c2,c3,c4⟩:=q3.base
       refine (takeT_p h3 rfl rfl).bind fun _ ts4 d4 h4 q4=>?_
       obtain ⟨e1,e2,rfl⟩:=q4
       simp only [List.length_cons,List.length_nil] at b2 e2
       refine BR2.ok h4 ?_
       unfold QS
       rw [ns_asg,ts_asg,ps_asg]
       simp only [List.length_append,List.length_cons,List.length_nil]
       exact ⟨by trivial,by omega,by omega,by omega⟩
     split
     . refine (takeT_o h.tail rfl).bind fun _ ts2 d2 h2 q2=>?_
       obtain ⟨b1,b2,b3,rfl⟩:=q2
       refine (Y.bin 1 ts2 (n+1) (by omega) (by omega) (by omega) h2).bind fun i ts3 d3 h3 q3=>?_
       obtain ⟨rfl,c2,c3,c4⟩:=q3.base
       refine (takeT_c h3 rfl rfl).bind fun _ ts4 d4 h4 q4=>?_
       obtain ⟨e1,e2,rfl⟩:=q4
       refine (takeT_p h4 rfl rfl).bind fun _ ts5 d5 h5 q5=>?_
       obtain ⟨f1,f2,rfl⟩:=q5
       refine (Y.bin 1 ts5 _ (by omega) (by omega) (by omega) h5).bind fun e ts6 d6 h6 q6=>?_
       obtain ⟨rfl,i2,i3,i4⟩:=q6.base
       refine (takeT_p h6 rfl rfl).bind fun _ ts7 d7 h7 q7=>?_
       obtain ⟨j1,j2,rfl⟩:=q7
       simp only [List.length_cons,List.length_nil] at b2 e2 f2 j2
       refine BR2.ok h7 ?_
       unfold QS
       rw [ns_sto,ts_sto,ps_sto]
       simp only [List.length_append,List.length_cons,List.length_nil]
       exact ⟨by omega,by omega,by omega,by omega⟩
     . refine (Y.call _ ts.tail n (by omega) h.tail).bind fun e ts3 d3 h3 q3=>?_
       obtain ⟨l,rfl,rfl,c2,c3,c4⟩:=q3
       refine (takeT_p h3 rfl rfl).bind fun _ ts4 d4 h4 q4=>?_
       obtain ⟨e1,e2,rfl⟩:=q4
       simp only [List.length_cons,List.length_nil] at e2
       refine BR2.ok h4 ?_
       unfold QS
       rw [ns_call,ts_call,ps_call,pr_call]
       simp only [List.length_append,List.length_cons,List.length_nil]
       exact ⟨by trivial,by omega,by omega,by omega⟩
end Go.Sx
namespace Go.Sx
theorem digs_len:∀ (m n:Nat),n < 10 ^ (m+1)->(digs n).length<=m+1
 | 0,n,h=>by rw [digs,if_pos (by omega)];simp
 | m+1,n,h=>by
   rw [digs]
   split
   . simp
   . have:=digs_len m (n / 10) (by rw [Nat.pow_succ] at h;omega)
     rw [List.length_append,List.length_cons,List.length_nil]
     omega
theorem digs_le {m n:Nat} (hm:1<=m) (h:n < 10 ^ m):(digs n).length<=m:=by
 obtain ⟨k,rfl⟩:∃ k,m=k+1:=⟨m - 1,by omega⟩
 exact digs_len k n h
theorem dec_lt:∀ (l:Bytes) (n:Nat),l.all isDigit=true->l.foldl (fun n c=>10 * n+(c.toNat - 48)) n < (n+1) * 10 ^ l.length
 | [],n,_=>by simp
 | c::l,n,h=>by
   simp only [List.all_cons,Bool.and_eq_true] at h
   have ih:=dec_lt l (10 * n+(c.toNat - 48)) h.2
   have hc:c.toNat - 48<=9:=by have:=h.1;simp only [isDigit,Bool.and_eq_true,decide_eq_true_eq] at this;omega
   rw [List.foldl_cons,List.length_cons,Nat.pow_succ]
   refine Nat.lt_of_lt_of_le ih ?_
   have e:(n+1) * (10 ^ l.length * 10)=((n+1) * 10) * 10 ^ l.length:=by rw [Nat.mul_comm (10 ^ l.length) 10,Nat.mul_assoc]
   rw [e]
   exact Nat.mul_le_mul_right _ (by omega)
theorem decNum_lt {l:Bytes} (h:l.all isDigit=true):decNum l < 10 ^ l.length:=by have:=dec_lt l 0 h;simpa [decNum] using this
theorem hexV_lt {c:UInt8} (h:isHex c=true):hexV c<=15:=by
 unfold hexV
 split
 . rename_i hd
   simp only [isDigit,Bool.and_eq_true,decide_eq_true_eq] at hd;omega
 . rename_i hd
   have hd:isDigit c=false:=by simpa using hd
   simp only [isHex,hd,Bool.false_or,Bool.and_eq_true,decide_eq_true_eq] at h;omega
theorem hex_lt:∀ (l:Bytes) (n:Nat),l.all isHex=true->l.foldl (fun n c=>16 * n+hexV c) n < (n+1) * 16 ^ l.length
 | [],n,_=>by simp
 | c::l,n,h=>by
   simp only [List.all_cons,Bool.and_eq_true] at h
   have ih:=hex_lt l (16 * n+hexV c) h.2
   have hc:=hexV_lt h.1
   rw [List.foldl_cons,List.length_cons,Nat.pow_succ]
   refine Nat.lt_of_lt_of_le ih ?_
   have e:(n+1) * (16 ^ l.length * 16)=((n+1) * 16) * 16 ^ l.length:=by rw [Nat.mul_comm (16 ^ l.length) 16,Nat.mul_assoc]
   rw [e]
   exact Nat.mul_le_mul_right _ (by omega)
theorem hexNum_lt {l:Bytes} (h:l.all isHex=true):hexNum l < 16 ^ l.length:=by have:=hex_lt l 0 h;simpa [hexNum] using this
theorem pow_hex {k:Nat} (h1:1<=k) (h8:k<=8):16 ^ k<=10 ^ (k+2)/\16 ^ k<=4294967296:=by
 have:∀ k:Fin 9,1<=k.val->16 ^ k.val<=10 ^ (k.val+2)/\16 ^ k.val<=4294967296:=by decide
 exact this ⟨k,by omega⟩ h1
theorem numS_tok {w:Bytes} {v:Nat} (hw:1<=w.length) (h:numS w= .ok v):v < 4294967296/\(digs v).length<=w.length:=by
 unfold numS at h
 split at h
 . rename_i l
   split at h
   . cases h
   . rename_i hc
     simp only [Bool.or_eq_true,decide_eq_true_eq,Bool.not_eq_true',not_or] at hc
     have ha:l.all isHex=true:=by simpa using hc.2
     injection h with h
     subst h
     have h1:=hexNum_lt ha
     have h2:=pow_hex (k:=l.length) (by omega) (by omega)
     exact ⟨Nat.lt_of_lt_of_le h1 h2.2,digs_le (by simp) (Nat.lt_of_lt_of_le h1 (by simpa using h2.1))⟩
 . split at h
   . cases h
   . rename_i hc
     split at h
     . cases h
     . injection h with h
       subst h
       simp only [Bool.or_eq_true,Bool.not_eq_true',not_or] at hc
       have ha:w.all isDigit=true:=by simpa using hc.1
       exact ⟨by omega,digs_le hw (decNum_lt ha)⟩
theorem qc_le4 (c:UInt8):(qc c).length<=4:=by
 unfold qc
 repeat' split
 all_goals simp
theorem esc_qc {c b:UInt8} (h:escS c=some b):(qc b).length<=2:=by
 unfold escS at h
 repeat' split at h
 all_goals first
  | (cases h;decide)
  | cases h
theorem charS_qc {r:Bytes} {b:UInt8} {n:Nat} (h34:r.head?≠some 34) (h:charS r= .ok (b,n)):(qc b).length<=n:=by
 unfold charS at h
 repeat' split at h
 all_goals first
  | (exfalso;cases h;done)
  | (injection h with h;injection h with h1 h2;subst h1;subst h2;exact qc_le4 _)
  | (injection h with h;injection h with h1 h2;subst h1;subst h2;exact esc_qc (by assumption))
  | skip
 rename_i c l hn hc
 injection h with h;injection h with h1 h2;subst h1;subst h2
 simp only [Bool.or_eq_true,decide_eq_true_eq,not_or] at hc
 have n92:c≠92:=fun e=>hn e
 have n34:c≠34:=fun e=>h34 (by rw [e];rfl)
 have a1:c≠10:=fun e=>by subst e;exact absurd hc.1 (by decide)
 have a2:c≠9:=fun e=>by subst e;exact absurd hc.1 (by decide)
 have a3:c≠0:=fun e=>by subst e;exact absurd hc.1 (by decide)
 unfold qc
 rw [if_neg (by simpa using a1),if_neg (by simpa using a2),if_neg (by simpa using a3),if_neg (by simp [n92,n34]),if_neg (by simpa using hc)]
 simp
theorem strS_qc:∀ (f:Nat) (r:Bytes) (m:Bytes) (k:Nat),strS f r= .ok (m,k)->(qcs m).length<=k
 | 0,r,m,k,h=>by cases h
 | f+1,[],m,k,h=>by cases h
 | f+1,c::l,m,k,h=>by
   rw [strS] at h
   split at h
   . injection h with h;injection h with h1 h2;subst h1;subst h2;simp [qcs]
   . rename_i hc
     cases hch:charS (c::l) with
     | error e=>
       obtain ⟨e1,e2⟩:=e
       rw [hch] at h
       split at h <;> first | (cases h;done) | simp_all
     | ok bn=>
       obtain ⟨b,n⟩:=bn
       rw [hch] at h
       have hq:=charS_qc (by simpa using hc) hch
       simp only at h
       cases hst:strS f ((c::l).drop n) with
       | error e=>
         obtain ⟨e1,e2⟩:=e
         rw [hst] at h
         split at h <;> first | (cases h;done) | simp_all
       | ok mk=>
         obtain ⟨m',k'⟩:=mk
         rw [hst] at h
         injection h with h;injection h with h1 h2;subst h1;subst h2
         have:=strS_qc f _ _ _ hst
         rw [qcs,List.length_append];omega
theorem lead_all2 (p:UInt8->Bool):∀ (l:Bytes),(l.take (lead p l)).all p=true
 | []=>rfl
 | c::l=>by
   rw [lead]
   split
   . rename_i h
     rw [List.take_succ_cons,List.all_cons,h,lead_all2 p l];rfl
   . rfl
theorem okT_one {r:Bytes} {kd len v p:Nat} {b:Bytes} (h:oneS r= .ok (kd,len,v,b)):OkT ⟨kd,r.take len,v,b,p⟩:=by
 obtain ⟨g1,g2,_,_⟩:=oneS_take h
 have hlen:(r.take len).length=len:=by rw [List.length_take];omega
 have hpos:∀ {P:Prop},kd≠0->1<=(r.take len).length:=fun _=>by omega
 match r,h with
 | c::l,h=>
 by_cases hL:isLetter c=true
 . simp only [oneS,if_pos hL] at h
   split at h
   . cases h
   rename_i h32
   split at h
   . cases h
     exact ⟨fun e=>(by cases e),fun e=>(by cases e),fun e=>(by cases e),fun _=>by simp only;omega⟩
   . rename_i hw
     injection h with h;injection h with h1 h;injection h with h2 h;injection h with h3 h4
     subst h1;subst h3;subst h4
     refine ⟨fun _=>⟨by simp only;omega,?_,?_,?_⟩,fun e=>(by cases e),fun e=>(by cases e),fun _=>by simp only;omega⟩
     . obtain ⟨q,rfl⟩:∃ q,len=q+1:=⟨len - 1,by omega⟩
       exact ⟨c,l.take q,rfl,hL⟩
     . rw [←h2];exact lead_all2 _ _
     . rw [←h2];simpa using hw
 by_cases hD:isDigit c=true
 . simp only [oneS,if_neg hL,if_pos hD] at h
   split at h
   . cases h
   rename_i x hx
   injection h with h;injection h with h1 h;injection h with h2 h;injection h with h3 h4
   subst h1;subst h3;subst h4;subst h2
   refine ⟨fun e=>(by cases e),fun _=>numS_tok (by simp only at hlen g1 ⊢;omega) hx,fun e=>(by cases e),fun _=>by simp only;omega⟩
 by_cases h39:(c == 39)=true
 . simp only [oneS,if_neg hL,if_neg hD,if_pos h39] at h
   split at h
   . cases h
   cases hch:charS l with
   | error e=>
     obtain ⟨e1,e2⟩:=e
     rw [hch] at h
     split at h <;> first | (cases h;done) | simp_all
   | ok bn=>
     obtain ⟨b',n⟩:=bn
     rw [hch] at h
     obtain ⟨hn1,_,_⟩:=charS_take hch
     simp only at h
     split at h
     . cases h
     split at h
     . injection h with h;injection h with h1 h;injection h with h2 h;injection h with h3 h4
       subst h1;subst h3;subst h4;subst h2
       have hb:=b'.toNat_lt
       refine ⟨fun e=>(by cases e),fun _=>⟨by simp only;omega,?_⟩,fun e=>(by cases e),fun _=>by simp only;omega⟩
       have:=digs_le (m:=3) (n:=b'.toNat) (by decide) (by omega)
       simp only
       omega
     . cases h
 by_cases h34:(c == 34)=true
 . simp only [oneS,if_neg hL,if_neg hD,if_neg h39,if_pos h34] at h
   cases hst:strS (l.length+1) l with
   | error e=>
     obtain ⟨e1,e2⟩:=e
     rw [hst] at h
     split at h <;> first | (cases h;done) | simp_all
   | ok mk=>
     obtain ⟨m',k⟩:=mk
     rw [hst] at h
     have:=strS_qc _ _ _ _ hst
     simp only at h
     split at h
     . cases h
     rename_i h200
     injection h with h;injection h with h1 h;injection h with h2 h;injection h with h3 h4
     subst h1;subst h3;subst h4;subst h2
     refine ⟨fun e=>(by cases e),fun e=>(by cases e),fun _=>⟨by simp only;omega,?_⟩,fun _=>by simp only;omega⟩
     simp only [quoteS,List.length_cons,List.length_append,List.length_nil]
     omega
 . simp only [oneS,if_neg hL,if_neg hD,if_neg h39,if_neg h34] at h
   have hk:kd=5:=by
    split at h
    . cases h;rfl
    split at h
    . cases h;rfl
    . cases h
   subst hk
   exact ⟨fun e=>(by cases e),fun e=>(by cases e),fun e=>(by cases e),fun _=>by simp only;omega⟩
theorem scan_tok:∀ (f k:Nat) (l:Bytes) (o:Nat) (ts:List Tok),scanL f k l o= .ok ts->TB OkT ts/\wt ts<=l.length/\ts.length<=l.length+1
 | 0,k,l,o,ts,h=>by cases h
 | f+1,k,l,o,ts,h=>by
   simp only [scanL] at h
   split at h
   . injection h with h;subst h
     refine ⟨fun t ht=>?_,by simp [wt],by simp⟩
     simp at ht;subst ht
     exact ⟨fun e=>(by cases e),fun e=>(by cases e),fun e=>(by cases e),fun e=>absurd rfl e⟩
   . split at h
     . cases h
     cases h1:oneS (l.drop (skipN false l)) with
     | error e=>rw [h1] at h;cases h
     | ok x=>
       obtain ⟨kd,len,v,b⟩:=x
       rw [h1] at h
       simp only at h
       cases h2:scanL f (k+1) ((l.drop (skipN false l)).drop len) (o+skipN false l+len) with
       | error e=>rw [h2] at h;cases h
       | ok ts'=>
         rw [h2] at h
         injection h with h;subst h
         obtain ⟨g1,g2,_,_⟩:=oneS_take h1
         obtain ⟨i1,i2,i3⟩:=scan_tok f (k+1) _ _ _ h2
         refine ⟨fun t ht=>?_,?_,by rw [List.length_drop] at g2;simp only [List.length_drop] at i3;rw [List.length_cons];omega⟩
         . rcases List.mem_cons.1 ht with ht | ht
           . subst ht;exact okT_one h1
           . exact i1 t ht
         . simp only [wt,List.length_take]
           rw [List.length_drop] at g2
           simp only [List.length_drop] at i2 ⊢
           omega
theorem okCl:ClP OkT (fun _=>True) OkE OkS OkG OkF where
 z:=trivial
 t _ _:=trivial
 c1 t h k:= .num (h.num k).1
 c2 t h k:= .str (h.str k).1
 c3 t h k:= .var (h.nm k)
 c4 t e h k he:= .elem (h.nm k) he
 c5 t l h k hl:= .call (h.nm k) hl
 c6 t e _ ho he:= .un ho he
 c7 t e e' _ _ hl _ he he':= .bin hl he he'
 s1 t u l _ hu k hl:=by
  rcases hl with rfl | ⟨e,rfl,he⟩
  . exact .decl (hu.nm k)
  . exact .decl1 (hu.nm k) he
 s2 t e h k he:= .asg (h.nm k) he
 s3 t i e h k hi he:= .sto (h.nm k) hi he
 s4 t l h k hl:= .call (h.nm k) hl
 s5 t e b c _ he hb hc:= .ifs he hb hc
 s6 t e b _ he hb:= .whl he hb
 s7 t l _ hl:=by
  rcases hl with rfl | ⟨e,rfl,he⟩
  . exact .ret
  . exact .ret1 he
 s8 t _:= .brk
 s9 t _:= .cont
 g0 t h k:=⟨h.nm k,by simp only;omega,by simp only;omega, .inl rfl⟩
 g1 t n h k hn kn:=⟨h.nm k,by simp only;omega,(hn.num kn).1, .inl rfl⟩
 g2 t n h k hn kn:=⟨h.nm k,(hn.num kn).1,by simp only;omega, .inr rfl⟩
 f1 t ps b h k hps hb:=⟨h.nm k,fun q hq=>by obtain ⟨u,hu,ku,rfl⟩:=hps q hq;exact hu.nm ku,hb⟩
theorem morePs_app (l:List Bytes) (x:Bytes):(morePs (l++[x])).length=(morePs l).length+2:=by
 induction l with
 | nil=>simp [morePs]
 | cons y l ih=>simp only [List.cons_append,morePs,List.length_cons,ih]
theorem tkPs_app (l:List Bytes) (x:Bytes):(tkPs (l++[x])).length<=(tkPs l).length+2:=by
 cases l with
 | nil=>simp [tkPs,morePs]
 | cons y l=>simp only [List.cons_append,tkPs,List.length_cons,morePs_app];omega
theorem moreBs_app (l:List Bytes) (x:Bytes):(moreB (l++[x])).length=(moreB l).length+2+x.length:=by
 induction l with
 | nil=>simp [moreB];omega
 | cons y l ih=>simp only [List.cons_append,moreB,List.length_cons,List.length_append,ih];omega
theorem commaBs_app (l:List Bytes) (x:Bytes):(commaB (l++[x])).length<=(commaB l).length+2+x.length:=by
 cases l with
 | nil=>simp [commaB,moreB]
 | cons y l=>simp only [List.cons_append,commaB,List.length_append,moreBs_app];omega
def QP (d:Int) (N M:Nat) (l:List Bytes) (ts:List Tok) (d':Int):Prop:=d'=d/\(tkPs l).length+ts.length<=N/\(commaB l).length+2 * wt ts<=M
theorem pMoreP_b {d:Int} {N M:Nat}:∀ (f:Nat) (l:List Bytes) (ts:List Tok),TB OkT ts->QP d N M l ts d->BR2 (QP d N M) (pMoreP f l ts d)
 | 0,_,_,_,_=>BR2.err
 | f+1,l,ts,h,hq=>by
   unfold pMoreP
   split
   . refine (takeT_p h rfl rfl).bind fun _ ts1 d1 h1 q1=>?_
     obtain ⟨a1,a2,rfl⟩:=q1
     refine (takeK_b (by decide) h1).bind fun t ts2 d2 h2 q2=>?_
     obtain ⟨o1,o2,b1,b2,rfl⟩:=q2
     obtain ⟨_,c2,c3⟩:=hq
     have e1:=tkPs_app l t.text
     have e2:=commaBs_app l t.text
     simp only [List.length_cons,List.length_nil] at a2
     exact pMoreP_b f _ ts2 h2 ⟨rfl,by omega,by omega⟩
   . exact BR2.ok h hq
theorem pParams_b {d:Int} (f:Nat) (ts:List Tok) (h:TB OkT ts):BR2 (QP d ts.length (2 * wt ts)) (pParams f ts d):=by
 unfold pParams
 split
 . exact BR2.ok h ⟨rfl,by simp [tkPs],by simp [commaB]⟩
 . refine (takeK_b (by decide) h).bind fun t ts2 d2 h2 q2=>?_
   obtain ⟨o1,o2,b1,b2,rfl⟩:=q2
   exact pMoreP_b f _ ts2 h2 ⟨rfl,by simp only [tkPs,morePs,List.length_cons,List.length_nil];omega,by simp only [commaB,moreB,List.append_nil];omega⟩
theorem pFunc_b (f:Nat) (ts:List Tok) (h:TB OkT ts):BR2 (fun g ts' d'=>d'=0/\nSs g.body+1<=32/\(tkF g).length+ts'.length<=ts.length/\2 * (prF g).length+21 * wt ts'<=21 * wt ts) (pFunc f ts 0):=by
 unfold pFunc
 refine (takeT_p h rfl rfl).bind fun _ ts1 d1 h1 q1=>?_
 obtain ⟨a1,a2,rfl⟩:=q1
 refine (takeK_b (by decide) h1).bind fun t ts2 d2 h2 q2=>?_
 obtain ⟨o1,o2,b1,b2,rfl⟩:=q2
 refine (takeT_o h2 rfl).bind fun _ ts3 d3 h3 q3=>?_
 obtain ⟨c1,c2,c3,rfl⟩:=q3
 refine (pParams_b f ts3 h3).bind fun ps ts4 d4 h4 q4=>?_
 obtain ⟨rfl,e2,e3⟩:=q4
 refine (takeT_c h4 rfl rfl).bind fun _ ts5 d5 h5 q5=>?_
 obtain ⟨f1,f2,rfl⟩:=q5
 refine ((ds f).block ts5 0 (by decide) h5).bind fun b ts6 d6 h6 q6=>?_
 obtain ⟨rfl,i2,i3,i4⟩:=q6
 simp only [List.length_cons,List.length_nil] at a2 c2 f2
 have kf:kFunc.length=4:=rfl
 refine BR2.ok h6 ⟨rfl,by show nSs b+1<=32;omega,?_,?_⟩
 . simp only [tkF,List.length_append,List.length_cons,List.length_nil];omega
 . have e0:(prSs 1 b).length=(prSs (0+1) b).length:=rfl
   simp only [prF,List.length_append,List.length_cons,List.length_nil];omega
theorem pGlobal_b (ts:List Tok) (h:TB OkT ts):BR2 (fun g ts' d'=>d'=0/\(tkG g).length+ts'.length<=ts.length/\2 * (prG g).length+21 * wt ts'<=21 * wt ts) (pGlobal ts 0):=by
 unfold pGlobal
 have kv:kVar.length=3:=rfl
 refine (takeT_p h rfl rfl).bind fun _ ts1 d1 h1 q1=>?_
 obtain ⟨a1,a2,rfl⟩:=q1
 refine (takeK_b (by decide) h1).bind fun t ts2 d2 h2 q2=>?_
 obtain ⟨o1,o2,b1,b2,rfl⟩:=q2
 simp only [List.length_cons,List.length_nil] at a2
 split
 . refine (takeT_p h2 rfl rfl).bind fun _ ts3 d3 h3 q3=>?_
   obtain ⟨c1,c2,rfl⟩:=q3
   refine (takeK_b (by decide) h3).bind fun n ts4 d4 h4 q4=>?_
   obtain ⟨n1,n2,e1,e2,rfl⟩:=q4
   refine (takeT_p h4 rfl rfl).bind fun _ ts5 d5 h5 q5=>?_
   obtain ⟨f1,f2,rfl⟩:=q5
   simp only [List.length_cons,List.length_nil] at c2 f2
   have:=(n1.num n2).2
   refine BR2.ok h5 ⟨rfl,?_,?_⟩
   . simp only [tkG,ne_eq,not_true_eq_false,if_false];split <;> simp only [List.length_cons,List.length_nil] <;> omega
   . simp only [prG,ne_eq,not_true_eq_false,if_false];split <;> simp only [List.length_append,List.length_cons,List.length_nil] <;> omega
 split
 . refine (takeT_o h2 rfl).bind fun _ ts3 d3 h3 q3=>?_
   obtain ⟨c1,c2,c3,rfl⟩:=q3
   refine (takeK_b (by decide) h3).bind fun n ts4 d4 h4 q4=>?_
   obtain ⟨n1,n2,e1,e2,rfl⟩:=q4
   refine (takeT_c h4 rfl rfl).bind fun _ ts5 d5 h5 q5=>?_
   obtain ⟨f1,f2,rfl⟩:=q5
   refine (takeT_p h5 rfl rfl).bind fun _ ts6 d6 h6 q6=>?_
   obtain ⟨i1,i2,rfl⟩:=q6
   simp only [List.length_cons,List.length_nil] at c2 f2 i2
   have:=(n1.num n2).2
   refine BR2.ok h6 ⟨rfl,?_,?_⟩
   . simp only [tkG,ne_eq,not_true_eq_false,if_false];split <;> simp only [List.length_cons,List.length_nil] <;> omega
   . simp only [prG,ne_eq,not_true_eq_false,if_false];split <;> simp only [List.length_append,List.length_cons,List.length_nil] <;> omega
 . refine (takeT_p h2 rfl rfl).bind fun _ ts3 d3 h3 q3=>?_
   obtain ⟨c1,c2,rfl⟩:=q3
   simp only [List.length_cons,List.length_nil] at c2
   refine BR2.ok h3 ⟨rfl,?_,?_⟩
   . simp only [tkG,ne_eq,not_true_eq_false,if_false,List.length_cons,List.length_nil];omega
   . simp only [prG,ne_eq,not_true_eq_false,if_false,List.length_append,List.length_cons,List.length_nil];omega
theorem tkGs_app (l:List G) (s:G):(tkGs (l++[s])).length=(tkGs l).length+(tkG s).length:=by
 induction l with
 | nil=>simp [tkGs]
 | cons y l ih=>simp only [List.cons_append,tkGs,List.length_append,ih];omega
theorem tkFs_app (l:List F) (s:F):(tkFs (l++[s])).length=(tkFs l).length+(tkF s).length:=by
 induction l with
 | nil=>simp [tkFs]
 | cons y l ih=>simp only [List.cons_append,tkFs,List.length_append,ih];omega
theorem prGs_app (l:List G) (s:G):(prGs (l++[s])).length=(prGs l).length+(prG s).length:=by
 induction l with
 | nil=>simp [prGs]
 | cons y l ih=>simp only [List.cons_append,prGs,List.length_append,ih];omega
theorem prFs_app (l:List F) (s:F):(prFs (l++[s])).length=(prFs l).length+(prF s).length:=by
 induction l with
 | nil=>simp [prFs]
 | cons y l ih=>simp only [List.cons_append,prFs,List.length_append,ih];omega
def QPg (N M:Nat) (p:Pg) (ts:List Tok):Prop:=(∀ g∈p.funcs,nSs g.body+1<=32)/\(tkP p).length+ts.length<=N/\2 * (prP p).length+21 * wt ts<=M
theorem pProg_b {N M:Nat}:∀ (f:Nat) (p:Pg) (ts:List Tok),TB OkT ts->QPg N M p ts->BR2 (fun p ts' _=>QPg N M p ts') (pProg f p ts 0)
 | 0,_,_,_,_=>BR2.err
 | f+1,p,ts,h,hq=>by
   unfold pProg
   obtain ⟨c1,c2,c3⟩:=hq
   simp only [tkP,prP,List.length_append] at c2 c3
   split
   . exact BR2.ok h ⟨c1,by simp only [tkP,List.length_append];omega,by simp only [prP,List.length_append];omega⟩
   split
   . refine (pGlobal_b ts h).bind fun g ts1 d1 h1 q1=>?_
     obtain ⟨rfl,a2,a3⟩:=q1
     refine pProg_b f _ ts1 h1 ⟨c1,?_,?_⟩
     . simp only [tkP,List.length_append,tkGs_app];omega
     . simp only [prP,List.length_append,prGs_app];omega
   . refine (pFunc_b f ts h).bind fun g ts1 d1 h1 q1=>?_
     obtain ⟨rfl,a1,a2,a3⟩:=q1
     refine pProg_b f _ ts1 h1 ⟨fun x hx=>?_,?_,?_⟩
     . rw [List.mem_append] at hx
       rcases hx with hx | hx
       . exact c1 x hx
       . simp at hx;subst hx;exact a1
     . simp only [tkP,List.length_append,tkFs_app];omega
     . simp only [prP,List.length_append,prFs_app];omega
structure OkP (p:Pg):Prop where
 gs:∀ g∈p.globals,OkG g
 fs:∀ f∈p.funcs,OkF f
 nest:∀ f∈p.funcs,nSs f.body+1<=32
 toks:(tkP p).length<=4096
 text:(prP p).length<=15750
theorem parse_okP {s:Bytes} {p:Pg} (hl:s.length<=1500) (h:parseS s= .ok p):OkP p:=by
 unfold parseS at h
 cases hsc:scanS s with
 | error e=>rw [hsc] at h;cases h
 | ok ts=>
   rw [hsc] at h
   have hsc':=hsc
   unfold scanS at hsc'
   rw [if_neg (by omega)] at hsc'
   obtain ⟨h1,h2,h3⟩:=scan_tok _ _ _ _ _ hsc'
   simp only at h
   cases hpp:pProg (20 * ts.length+40) ⟨[],[]⟩ ts 0 with
   | error e=>rw [hpp] at h;cases h
   | ok q=>
     obtain ⟨p',ts',d'⟩:=q
     rw [hpp] at h
     cases h
     have g1:=((pProg_rp okCl (20 * ts.length+40) ⟨[],[]⟩ ts 0 (fun g hg=>by cases hg) (fun g hg=>by cases hg) h1).1 _ _ _ hpp).1
     have g2:=(pProg_b (N:=ts.length) (M:=21 * wt ts) (20 * ts.length+40) ⟨[],[]⟩ ts h1 ⟨fun g hg=>(by cases hg),by simp [tkP,tkGs,tkFs],by simp [prP,prGs,prFs]⟩ _ _ _ hpp).2
     obtain ⟨x1,x2,x3⟩:=g2
     exact ⟨g1.1,g1.2,x1,by omega,by omega⟩
theorem read_back {p:Pg} (h:OkP p):zX (parseS (prP p))= .ok (zP p):=by
 obtain ⟨us,h1,h2⟩:=(lx_prog h.gs h.fs).scan ((prP p).length+1) 0 0 (Nat.lt_succ_self _) (by have:=h.toks;omega)
 have hs:scanS (prP p)= .ok us:=by rw [scanS,if_neg (by have:=h.text;omega)];exact h1
 rw [parse_big hs h2 (prog_ok p.globals p.funcs ⟨[],[]⟩ h.gs (fun g hg=>⟨h.fs g hg,h.nest g hg⟩))]
 show Except.ok (zP ⟨[]++p.globals.map zG,[]++p.funcs.map zF⟩)=_
 rw [List.nil_append,List.nil_append]
 exact congrArg Except.ok (zP_idem p)
theorem zEs_getD (l:List E) (i:Nat):(zEs l).getD i dE=zE (l.getD i dE):=by
 induction l generalizing i with
 | nil=>rfl
 | cons e l ih=>cases i with
   | zero=>rfl
   | succ i=>exact ih i
theorem low_z (e:E) (lv:Nat):low (zE e) lv=low e lv:=by cases e;rfl
mutual
theorem prE_z:∀ (e:E),prE (zE e)=prE e
 | .mk k op nm v tx args pos=>by rw [zE,prE,prE,prEs_z args,zEs_getD,zEs_getD,low_z,low_z,low_z]
theorem prEs_z:∀ (l:List E),prEs (zEs l)=prEs l
 | []=>rfl
 | e::l=>by rw [zEs,prEs,prEs,prE_z e,prEs_z l]
end
theorem chain_z (l:List S):chain (zSs l)=chain l:=by
 match l with
 | []=>rfl
 | [s]=>cases s;rfl
 | s::t::l=>rfl
theorem empE_z (l:List E):(zEs l).isEmpty=l.isEmpty:=by cases l <;> rfl
theorem empS_z (l:List S):(zSs l).isEmpty=l.isEmpty:=by cases l <;> rfl
mutual
theorem prS_z (n:Nat):∀ (s:S),prS n (zS s)=prS n s
 | .mk k nm args body els pos=>by rw [zS,prS,prS,prEs_z args,prSs_z (n+1) body,prSs_z (n+1) els,prSl_z n els,chain_z,empE_z,empS_z]
theorem prSs_z (n:Nat):∀ (l:List S),prSs n (zSs l)=prSs n l
 | []=>rfl
 | s::l=>by rw [zSs,prSs,prSs,prS_z n s,prSs_z n l]
theorem prSl_z (n:Nat):∀ (l:List S),prSl n (zSs l)=prSl n l
 | []=>rfl
 | s::l=>by rw [zSs,prSl,prSl,prS_z n s,prSl_z n l]
end
theorem prP_z (p:Pg):prP (zP p)=prP p:=by
 have h1:∀ l:List G,prGs (l.map zG)=prGs l:=by
  intro l
  induction l with
  | nil=>rfl
  | cons g l ih=>rw [List.map_cons,prGs,prGs,ih];rfl
 have h2:∀ l:List F,prFs (l.map zF)=prFs l:=by
  intro l
  induction l with
  | nil=>rfl
  | cons g l ih=>rw [List.map_cons,prFs,prFs,ih,prF,prF];simp only [zF,prSs_z]
 simp only [prP,zP,h1,h2]
end Go.Sx
namespace Go.Proofs.D
open Go Go.Den Go.Sx
set_option maxRecDepth 100000
attribute [local irreducible] IntKind.wrap Tri parseS
theorem at_str {h:PHeap} {a:OA} {L:List Bytes} (hA:At 1 RStr h a L):StrAt h a L/\∀ b o,a=ad b o->L≠[]->h b≠none:=by
 rcases hA with rfl | ⟨b,o,rfl,hc⟩
 . exact ⟨.inl rfl,fun b o _ hn=>absurd rfl hn⟩
 . refine ⟨.inr ⟨b,o,rfl,fun j l hj=>?_⟩,fun b' o' e hn h0=>?_⟩
   . obtain ⟨cs,h1,h2⟩:=hc j l hj
     have h2:cs=[vS l]:=h2
     subst h2
     rw [Nat.mul_one] at h1
     exact h1
   . injection e with e;injection e with e;subst e
     cases L with
     | nil=>exact hn rfl
     | cons x L=>
       obtain ⟨cs,h1,h2⟩:=hc 0 x rfl
       have h2:cs=[vS x]:=h2
       subst h2
       have h1:h.cell b (o+0 * 1)=some (vS x):=h1
       unfold PHeap.cell at h1;rw [h0] at h1;cases h1
theorem prGs_drop {l:List G} {j:Nat} (hj:j < l.length):prGs (l.drop j)=prG l[j]++prGs (l.drop (j+1)):=by
 rw [List.drop_eq_getElem_cons hj];rfl
theorem prFs_drop {l:List F} {j:Nat} (hj:j < l.length):prFs (l.drop j)=prF l[j]++prFs (l.drop (j+1)):=by
 rw [List.drop_eq_getElem_cons hj];rfl
structure OkT (p:Pg):Prop where
 gs:∀ g∈p.globals,OkG g
 fs:∀ f∈p.funcs,OkF f
 text:(prP p).length<=15750
theorem OkP.t {p:Pg} (h:OkP p):OkT p:=⟨h.gs,h.fs,h.text⟩
theorem parse_okT {s:Bytes} {p:Pg} (h:parseS s= .ok p) (hl:(prP p).length<=15750):OkT p:=by
 unfold parseS at h
 cases hsc:scanS s with
 | error e=>rw [hsc] at h;cases h
 | ok ts=>
   rw [hsc] at h
   have hsc':=hsc
   unfold scanS at hsc'
   split at hsc'
   . cases hsc'
   obtain ⟨h1,h2,h3⟩:=scan_tok _ _ _ _ _ hsc'
   simp only at h
   cases hpp:pProg (20 * ts.length+40) ⟨[],[]⟩ ts 0 with
   | error e=>rw [hpp] at h;cases h
   | ok q=>
     obtain ⟨p',ts',d'⟩:=q
     rw [hpp] at h
     cases h
     have g1:=((pProg_rp okCl (20 * ts.length+40) ⟨[],[]⟩ ts 0 (fun g hg=>by cases hg) (fun g hg=>by cases hg) h1).1 _ _ _ hpp).1
     exact ⟨g1.1,g1.2,hl⟩
set_option maxHeartbeats 4000000 in
theorem print_t {s:Bytes} {h:PHeap} {p:Pg} (hok:OkT p) (hwf:∀ f∈p.funcs,wfSs f.body) (hcnt:cntP p<=4097) (hpt:PowTab h) {ga fa:Option Addr} {gc fc:Nat} (hG:At 5 (RG (plP s)) h ga p.globals) (hF:At 5 (RF (plP s) 8 7) h fa p.funcs):
 Tri Tryz.prog 33 [vA [vL ga p.globals.length gc,vL fa p.funcs.length fc]] h fun v h'=>v=vS (prP p)/\Ext h h':=by
 have htx:=hok.text
 have hcnt':=hcnt
 simp only [cntP] at hcnt'
 have hfl:p.funcs.length<=cntFs p.funcs:=by
  generalize p.funcs=l
  induction l with
  | nil=>simp
  | cons f l ih=>simp only [List.length_cons,cntFs];omega
 refine T33 ?_
 unfold R33
 refine Tri.mono (tree_tri hwf hcnt hF) ?_
 rintro _ h1 ⟨rfl,hx1⟩
 refine ⟨_,rfl,br_neg rfl fun b1 hb1 h2 hh2=>?_⟩
 have hx2:=Put.ext hh2 hb1
 have hG:=hG.ext (RG_mono _) hx1
 have hF:=hF.ext (RF_mono _ _ _) hx1
 have hpt:=hpt.ext hx1
 have hw0:PW h1 h2 b1 [] 0:=⟨⟨_,none,0,0,Put.at hh2, .inl rfl,⟨⟨rfl, .inl ⟨rfl,rfl⟩⟩,(fun q hq=>by cases hq),hx2⟩,(fun e=>by cases e)⟩,hb1⟩
 refine ⟨fun m i h'=>∃ (j:Nat) (β:Bytes),i=j/\j+m=p.globals.length/\PW h1 h' b1 β 0/\β++prGs (p.globals.drop j)=prGs p.globals,⟨p.globals.length,0,[],rfl,by omega,hw0,rfl⟩,?_⟩
 rintro m _ h3 ⟨j,β,rfl,hjm,hw,hβ⟩
 have hle:(prP p).length=(prGs p.globals).length+(prFs p.funcs).length:=by unfold prP;rw [List.length_append]
 refine br_split (fun e=>?_) (fun e=>?_)
 . have hj:j < p.globals.length:=by have:=of_decide_eq_true e;omega
   obtain ⟨b2,o,cs,ha,hr,hrel⟩:=hG.get hj
   have hr:=row_ext (fun ob=>hw.ext b2 ob) hr
   have hog:=hok.gs _ (List.getElem_mem hj)
   have hβl:=congrArg List.length hβ
   rw [prGs_drop hj] at hβ hβl
   rw [List.length_append,List.length_append] at hβl
   generalize p.globals[j]=g at *
   have hrel:cs=_:=hrel
   subst hrel
   have hsz:=hog.sz
   have hvl:=hog.vl
   have wj:IntKind.i64.wrap (((j:Nat):Int)+1)=((j+1:Nat):Int):=by rw [wrap64 (by omega) (by omega)];rfl
   refine ⟨b2,o,ha,⟨by omega,by omega⟩,_,_,_,_,_,hr,?_⟩
   have hpr:prG g=kVar++32::(g.name++((if g.size≠0 then 91::(digs g.size++[93]) else if g.value≠0 then 32::61::32::digs g.value else [])++[59,10])):=rfl
   refine br_split (fun e1=>?_) (fun e1=>?_)
   . have e1:g.size≠0:=by intro e;rw [e] at e1;simp at e1
     rw [if_pos e1] at hpr
     rw [hpr] at hβ hβl
     simp only [kVar,List.length_append,List.length_cons,List.length_nil] at hβl
     refine ⟨by simp;omega,by simp;omega,?_⟩
     refine Tri.mono (itoa_t2 g.size (by omega) (hpt.ext hw.ext)) ?_
     rintro _ h4 ⟨rfl,rfl⟩
     refine ⟨_,rfl,rfl,by simp;omega,by simp;omega,?_⟩
     refine Tri.mono (line_t hw (by omega) (by simp;omega)) ?_
     rintro _ h5 ⟨rfl,hw5⟩
     refine ⟨rfl,rfl,m - 1,by omega,⟨j+1,_,wj,by omega,hw5,?_⟩,rfl,trivial⟩
     rw [←hβ];simp [kVar,tabB]
   . have e1:g.size=0:=by
      by_cases h:g.size=0
      . exact h
      . simp [bne,h] at e1
     rw [if_neg (by simpa using e1)] at hpr
     refine br_split (fun e2=>?_) (fun e2=>?_)
     . have e2:g.value≠0:=by intro e;rw [e] at e2;simp at e2
       rw [if_pos e2] at hpr
       rw [hpr] at hβ hβl
       simp only [kVar,List.length_append,List.length_cons,List.length_nil] at hβl
       refine ⟨by simp;omega,by simp;omega,?_⟩
       refine Tri.mono (itoa_t2 g.value (by omega) (hpt.ext hw.ext)) ?_
       rintro _ h4 ⟨rfl,rfl⟩
       refine ⟨_,rfl,rfl,by simp;omega,by simp;omega,?_⟩
       refine Tri.mono (line_t hw (by omega) (by simp;omega)) ?_
       rintro _ h5 ⟨rfl,hw5⟩
       refine ⟨rfl,rfl,m - 1,by omega,⟨j+1,_,wj,by omega,hw5,?_⟩,rfl,trivial⟩
       rw [←hβ];simp [kVar,tabB]
     . have e2:g.value=0:=by
        by_cases h:g.value=0
        . exact h
        . simp [bne,h] at e2
       rw [if_neg (by simpa using e2)] at hpr
       rw [hpr] at hβ hβl
       simp only [kVar,List.length_append,List.length_cons,List.length_nil] at hβl
       refine ⟨by simp;omega,by simp;omega,?_⟩
       refine Tri.mono (line_t hw (by omega) (by simp;omega)) ?_
       rintro _ h5 ⟨rfl,hw5⟩
       refine ⟨rfl,m - 1,by omega,⟨j+1,_,wj,by omega,hw5,?_⟩,rfl,trivial⟩
       rw [←hβ];simp [kVar,tabB]
 . have hj:p.globals.length<=j:=by have:=of_decide_eq_false e;omega
   rw [List.drop_eq_nil_of_le hj,prGs,List.append_nil] at hβ
   subst hβ
   refine ⟨fun m i h'=>∃ (j:Nat) (β:Bytes),i=j/\j+m=p.funcs.length/\PW h1 h' b1 β 0/\β++prFs (p.funcs.drop j)=prP p,⟨p.funcs.length,0,_,rfl,by omega,hw,rfl⟩,?_⟩
   clear hw hj e hjm
   rintro m _ h3 ⟨j,β,rfl,hjm,hw,hβ⟩
   refine br_split (fun e=>?_) (fun e=>?_)
   . have hj:j < p.funcs.length:=by have:=of_decide_eq_true e;omega
     obtain ⟨b2,o,cs,ha,hr,hrel⟩:=hF.get hj
     have hr:=row_ext (fun ob=>hw.ext b2 ob) hr
     have hof:=hok.fs _ (List.getElem_mem hj)
     have hcf:=cntFs_mem (List.getElem_mem hj)
     have hβl:=congrArg List.length hβ
     rw [prFs_drop hj] at hβ hβl
     rw [List.length_append,List.length_append] at hβl
     generalize p.funcs[j]=f at *
     obtain ⟨pa,pc,ba,bc,rfl,hP,hB,hN⟩:=hrel
     simp only [cntF] at hcf
     obtain ⟨hPs,hPl⟩:=at_str (hP.ext RStr_mono hw.ext)
     have wj:IntKind.i64.wrap (((j:Nat):Int)+1)=((j+1:Nat):Int):=by rw [wrap64 (by omega) (by omega)];rfl
     have hpr:prF f=kFunc++32::(f.name++40::(commaB f.params++41::32::123::10::(prSs 1 f.body++[125,10]))):=rfl
     rw [hpr] at hβ hβl
     simp only [kFunc,List.length_append,List.length_cons,List.length_nil] at hβl
     refine ⟨b2,o,ha,⟨by omega,by omega⟩,_,_,_,_,_,_,_,_,_,hr,by simp;omega,by simp;omega,?_⟩
     refine Tri.mono (join_t hPs hN.1 (by omega) (by omega) hPl) ?_
     rintro _ h4 ⟨rfl,rfl⟩
     refine ⟨_,rfl,rfl,by simp;omega,by simp;omega,?_⟩
     refine Tri.mono (line_t hw (by omega) (by simp;omega)) ?_
     rintro _ h5 ⟨rfl,hw5⟩
     refine ⟨rfl,rfl,?_⟩
     have hL:LP (fun n=>(((place s n).1:Int),((place s n).2:Int))) h1 b1 (cntSs f.body):=list_p (stmts_p hpt _)
     refine Tri.mono (hL f.body (Nat.le_refl _) hof.body _ _ _ _ _ hB hw5 (by omega) (by simp [tabB];omega)) ?_
     rintro _ h6 ⟨rfl,hw6⟩
     refine ⟨rfl,?_⟩
     refine Tri.mono (line_t hw6 (by omega) (by simp [tabB];omega)) ?_
     rintro _ h7 ⟨rfl,hw7⟩
     refine ⟨rfl,m - 1,by omega,⟨j+1,_,wj,by omega,hw7,?_⟩,rfl,trivial⟩
     rw [←hβ];simp [kFunc,tabB]
   . have hj:p.funcs.length<=j:=by have:=of_decide_eq_false e;omega
     rw [List.drop_eq_nil_of_le hj,prFs,List.append_nil] at hβ
     subst hβ
     refine Tri.mono (string_t hw (by omega)) ?_
     rintro _ h4 ⟨rfl,hx4⟩
     exact ⟨_,rfl,rfl,hx1.trans hx4⟩
end Go.Proofs.D
namespace Go.Proofs.D
open Go Go.Den Go.Sx
set_option maxRecDepth 100000
attribute [local irreducible] IntKind.wrap Tri parseS
set_option maxHeartbeats 4000000 in
theorem print_r {h:PHeap} {p:Pg} (hok:OkT p) (hcnt:cntP p<=10000) {ga fa:Option Addr} {gc fc:Nat} (hG:At 4 (RG plR) h ga p.globals) (hF:At 4 (RF plR 7 6) h fa p.funcs):
 Tri Tryz.prog 34 [vA [vL ga p.globals.length gc,vL fa p.funcs.length fc]] h fun v h'=>v=vS (prP p)/\Ext h h':=by
 have htx:=hok.text
 have hcnt':=hcnt
 simp only [cntP] at hcnt'
 have hfl:p.funcs.length<=cntFs p.funcs:=by
  generalize p.funcs=l
  induction l with
  | nil=>simp
  | cons f l ih=>simp only [List.length_cons,cntFs];omega
 have hle:(prP p).length=(prGs p.globals).length+(prFs p.funcs).length:=by unfold prP;rw [List.length_append]
 refine T34 ?_
 unfold R34
 refine ⟨fun m t i h'=>∃ j:Nat,i=j/\j+m=p.globals.length/\h'=h/\t++prGs (p.globals.drop j)=prGs p.globals,⟨p.globals.length,0,rfl,by omega,rfl,rfl⟩,?_⟩
 rintro m t _ h1 ⟨j,rfl,hjm,rfl,hβ⟩
 refine br_split (fun e=>?_) (fun e=>?_)
 . have hj:j < p.globals.length:=by have:=of_decide_eq_true e;omega
   obtain ⟨b2,o,cs,ha,hr,hrel⟩:=hG.get hj
   have hog:=hok.gs _ (List.getElem_mem hj)
   have hβl:=congrArg List.length hβ
   rw [prGs_drop hj] at hβ hβl
   rw [List.length_append,List.length_append] at hβl
   generalize p.globals[j]=g at *
   have hrel:cs=_:=hrel
   subst hrel
   have hsz:=hog.sz
   have hvl:=hog.vl
   have wj:IntKind.i64.wrap (((j:Nat):Int)+1)=((j+1:Nat):Int):=by rw [wrap64 (by omega) (by omega)];rfl
   have hpr:prG g=kVar++32::(g.name++((if g.size≠0 then 91::(digs g.size++[93]) else if g.value≠0 then 32::61::32::digs g.value else [])++[59,10])):=rfl
   have hnm:g.name.length+6<=(prG g).length:=by rw [hpr];simp [kVar]
   refine ⟨b2,o,ha,⟨by omega,by omega⟩,_,_,_,_,hr,by simp;omega,by simp;omega,?_⟩
   refine br_split (fun e1=>?_) (fun e1=>?_)
   . have e1:g.size≠0:=by have:=of_decide_eq_true e1;omega
     rw [if_pos e1] at hpr
     rw [hpr] at hβ hβl
     simp only [kVar,List.length_append,List.length_cons,List.length_nil] at hβl
     refine ⟨by simp;omega,?_⟩
     refine Tri.mono (digits_r g.size (by omega) h1) ?_
     rintro _ h4 ⟨rfl,rfl⟩
     refine ⟨_,rfl,by simp;omega,by simp;omega,by simp;omega,m - 1,by omega,⟨j+1,wj,by omega,rfl,?_⟩,rfl,trivial⟩
     rw [←hβ];simp [kVar]
   . have e1:g.size=0:=by have:=of_decide_eq_false e1;omega
     rw [if_neg (by simpa using e1)] at hpr
     refine br_split (fun e2=>?_) (fun e2=>?_)
     . have e2:g.value≠0:=by have:=of_decide_eq_true e2;omega
       rw [if_pos e2] at hpr
       rw [hpr] at hβ hβl
       simp only [kVar,List.length_append,List.length_cons,List.length_nil] at hβl
       refine ⟨by simp;omega,?_⟩
       refine Tri.mono (digits_r g.value (by omega) h1) ?_
       rintro _ h4 ⟨rfl,rfl⟩
       refine ⟨_,rfl,by simp;omega,by simp;omega,m - 1,by omega,⟨j+1,wj,by omega,rfl,?_⟩,rfl,trivial⟩
       rw [←hβ];simp [kVar]
     . have e2:g.value=0:=by have:=of_decide_eq_false e2;omega
       rw [if_neg (by simpa using e2)] at hpr
       rw [hpr] at hβ hβl
       simp only [kVar,List.length_append,List.length_cons,List.length_nil] at hβl
       refine ⟨by simp;omega,m - 1,by omega,⟨j+1,wj,by omega,rfl,?_⟩,rfl,trivial⟩
       rw [←hβ];simp [kVar]
 . have hj:p.globals.length<=j:=by have:=of_decide_eq_false e;omega
   rw [List.drop_eq_nil_of_le hj,prGs,List.append_nil] at hβ
   subst hβ
   refine ⟨fun m t i h'=>∃ j:Nat,i=j/\j+m=p.funcs.length/\Ext h1 h'/\t++prFs (p.funcs.drop j)=prP p,⟨p.funcs.length,0,rfl,by omega,Ext.refl _,rfl⟩,?_⟩
   clear hj e hjm
   rintro m t _ h3 ⟨j,rfl,hjm,hx,hβ⟩
   refine br_split (fun e=>?_) (fun e=>?_)
   . have hj:j < p.funcs.length:=by have:=of_decide_eq_true e;omega
     obtain ⟨b2,o,cs,ha,hr,hrel⟩:=hF.get hj
     have hr:=row_ext (fun ob=>hx b2 ob) hr
     have hof:=hok.fs _ (List.getElem_mem hj)
     have hcf:=cntFs_mem (List.getElem_mem hj)
     have hβl:=congrArg List.length hβ
     rw [prFs_drop hj] at hβ hβl
     rw [List.length_append,List.length_append] at hβl
     generalize p.funcs[j]=f at *
     obtain ⟨pa,pc,ba,bc,rfl,hP,hB,hN⟩:=hrel
     simp only [cntF] at hcf
     obtain ⟨hPs,_⟩:=at_str (hP.ext RStr_mono hx)
     have wj:IntKind.i64.wrap (((j:Nat):Int)+1)=((j+1:Nat):Int):=by rw [wrap64 (by omega) (by omega)];rfl
     have hpr:prF f=kFunc++32::(f.name++40::(commaB f.params++41::32::123::10::(prSs 1 f.body++[125,10]))):=rfl
     rw [hpr] at hβ hβl
     simp only [kFunc,List.length_append,List.length_cons,List.length_nil] at hβl
     refine ⟨b2,o,ha,⟨by omega,by omega⟩,_,_,_,_,_,_,_,_,hr,by simp;omega,by simp;omega,by simp;omega,?_⟩
     obtain ⟨T,hT⟩:∃ T:Bytes,T=((t++([102,117,110,99,32]:Bs))++f.name)++([40]:Bs):=⟨_,rfl⟩
     rw [←hT]
     have hTl:T.length=t.length+f.name.length+6:=by rw [hT];simp;omega
     refine ⟨fun m' t' i h'=>∃ q:Nat,i=q/\q+m'=f.params.length/\h'=h3/\((q=0/\t'=T)∨(0 < q/\t'++moreB (f.params.drop q)=T++commaB f.params)),⟨f.params.length,0,rfl,by omega,rfl, .inl ⟨rfl,rfl⟩⟩,?_⟩
     rintro m' t' _ h4 ⟨q,rfl,hqm,rfl,ht'⟩
     refine br_split (fun e3=>?_) (fun e3=>?_)
     . have hq:q < f.params.length:=by have:=of_decide_eq_true e3;omega
       have wq:IntKind.i64.wrap (((q:Nat):Int)+1)=((q+1:Nat):Int):=by rw [wrap64 (by omega) (by omega)];rfl
       rcases hPs with hPs | ⟨pb,po,rfl,hPs⟩
       . rw [hPs] at hq;simp at hq
       have hcell:=hPs q _ (List.getElem?_eq_getElem hq)
       have hml:f.params[q].length<=(commaB f.params).length:=commaB_mem (List.getElem_mem hq)
       refine br_split (fun e4=>?_) (fun e4=>?_)
       . have e4:0 < q:=by have:=of_decide_eq_true e4;omega
         rcases ht' with ⟨e5,_⟩ | ⟨_,ht'⟩
         . omega
         have htl:=congrArg List.length ht'
         rw [moreB_drop hq] at ht' htl
         simp only [List.length_append,List.length_cons] at htl
         refine ⟨by simp;omega,pb,po,rfl,⟨by omega,by omega⟩,_,by rw [Int.toNat_natCast,Nat.mul_one];exact hcell,by simp;omega,m' - 1,by omega,⟨q+1,wq,by omega,rfl, .inr ⟨by omega,?_⟩⟩,rfl,rfl,trivial⟩
         rw [←ht'];simp
       . have e4:q=0:=by have:=of_decide_eq_false e4;omega
         have ht':t'=T:=by
          rcases ht' with ⟨_,ht'⟩ | ⟨h0,_⟩
          . exact ht'
          . omega
         subst ht'
         refine ⟨pb,po,rfl,⟨by omega,by omega⟩,_,by rw [Int.toNat_natCast,Nat.mul_one];exact hcell,by omega,m' - 1,by omega,⟨q+1,wq,by omega,rfl, .inr ⟨by omega,?_⟩⟩,rfl,rfl,trivial⟩
         subst e4
         have h0:=List.drop_eq_getElem_cons hq
         rw [List.drop_zero] at h0
         conv=>rhs;rw [h0]
         rw [List.append_assoc];rfl
     . have hq:f.params.length<=q:=by have:=of_decide_eq_false e3;omega
       have ht':t'=T++commaB f.params:=by
        rcases ht' with ⟨e0,ht'⟩ | ⟨_,ht'⟩
        . have:f.params=[]:=List.eq_nil_of_length_eq_zero (by omega)
          rw [this,ht'];simp [commaB]
        . rw [List.drop_eq_nil_of_le hq,moreB,List.append_nil] at ht';exact ht'
       have htl:t'.length=T.length+(commaB f.params).length:=by rw [ht',List.length_append]
       refine ⟨by simp;omega,?_⟩
       refine Tri.mono (stmts_q (stms_q (cntSs f.body)) f.body (Nat.le_refl _) hof.body _ _ h4 1 (hB.ext (RS_mono _ _ _) hx) (by omega) (by omega)) ?_
       rintro _ h5 ⟨rfl,hx5⟩
       refine ⟨_,rfl,by simp;omega,by simp;omega,m - 1,by omega,⟨j+1,wj,by omega,hx.trans hx5,?_⟩,rfl,trivial⟩
       rw [←hβ,ht',hT];simp [kFunc]
   . have hj:p.funcs.length<=j:=by have:=of_decide_eq_false e;omega
     rw [List.drop_eq_nil_of_le hj,prFs,List.append_nil] at hβ
     exact ⟨by rw [hβ],hx⟩
end Go.Proofs.D
namespace Go.Proofs.D
open Go Go.Den Go.Sx
set_option maxRecDepth 100000
attribute [local irreducible] IntKind.wrap Tri
section
variable {K : QK} {x : XC} {h : PHeap} {ts : List Tok} {d : Int}
theorem binr_ok {f:Nat} (Y:∀ g,g<=f->YOk K g) (lv:Nat) (hlv:lv<=11) (hI:K.In h) (hx:XS K x (.ok ((),ts,d):R Unit)) (hn:NF (pBin (f+1) lv ts d)):Tri Tryz.prog 142 [vA x.l,vI lv] h (REx K h (pBin (f+1) lv ts d)):=by
 refine T142 ?_
 unfold R142
 rw [pBin_succ] at hn ⊢
 refine br_split (fun e=>?_) (fun e=>?_)
 . have e:lv=11:=by
    have:=of_decide_eq_true e
    omega
   rw [if_pos e] at hn ⊢
   refine Tri.mono ((Y f (Nat.le_refl _)).un ts d x h hI hx hn) ?_
   rintro _ h2 hE
   have hE':=hE
   obtain ⟨x',c,rfl,_,_⟩:=hE
   exact ⟨_,_,_,_,_,_,_,_,_,_,_,_,_,_,_,_,rfl,hE'⟩
 have e:lv≠11:=by
  have:=of_decide_eq_false e
  omega
 rw [if_neg e] at hn ⊢
 have hw:IntKind.i64.wrap ((lv:Int)+1)=((lv+1:Nat):Int):=by rw [wrap64 (by omega) (by omega)];rfl
 rw [hw]
 refine Tri.mono ((Y f (Nat.le_refl _)).bin (lv+1) ts d x h (by omega) hI hx hn.bind) ?_
 rintro _ h2 ⟨x2,c2,rfl,hx2,hX2⟩
 refine ⟨_,_,_,_,_,_,_,_,_,_,_,_,_,_,_,_,rfl,?_⟩
 generalize hfin:(bindR (pBin f (lv+1) ts d) fun e ts d=>pLoop f lv e ts d)=fin at *
 refine ⟨fun m a1 a2 a3 a4 a5 a6 a7 b1 b2 b3 b4 b5 b6 b7 b8 b9 h'=>∃ r':R E,m<=f/\Ext h h'/\XX K ⟨a1,a2,a3,a4,a5,a6,a7⟩ r' (fun e=>RE plR 7 (only (New h) h') e (DC.l ⟨b1,b2,b3,b4,b5,b6,b7,b8,b9⟩))/\(bindR r' fun e ts d=>pLoop m lv e ts d)=fin,
  ⟨f,_,Nat.le_refl _,hx2,hX2,hfin⟩,?_⟩
 rintro m a1 a2 a3 a4 a5 a6 a7 b1 b2 b3 b4 b5 b6 b7 b8 b9 h3 ⟨r',hm,hx3,hX3,hf3⟩
 have hI3:=hI.ext hx3
 have he0:=hX3.1.err0
 refine br_split (fun e1=>?_) (fun e1=>?_)
 . obtain ⟨y,ts3,d3,rfl⟩:=okR_true (he0.symm.trans e1)
   obtain ⟨t,ht1,ht2,ht3,ht4⟩:=hX3.1.tok hI3
   have:=ht4 _ _ _ rfl
   subst this
   rw [bindR_ok] at hf3
   have c5:((((hd ts3).kind:Nat):Int) == 5)=((hd ts3).kind == 5):=kind_beq _ 5
   refine ⟨K.tb,0,ht1,ht2,_,ht3.1,br_split (fun e2=>?_) (fun e2=>?_)⟩
   . have k5:isK ts3 5=true:=by rw [c5] at e2;exact e2
     refine ⟨K.tb,0,ht1,ht2,_,ht3.2.1,?_⟩
     refine Tri.mono (level_r _ _) ?_
     rintro _ h4 ⟨rfl,hx34⟩
     have hI4:=hI3.ext hx34
     have hx4:=hx3.trans hx34
     refine ⟨_,rfl,br_split (fun e3=>?_) (fun e3=>?_)⟩
     . have e3:(levelS (hd ts3).text == lv)=true:=by rw [←kind_beq];exact e3
       match m,hf3,hm with
       | 0,hf3,hm=>exact absurd hf3.symm hn
       | m+1,hf3,hm=>
       rw [pLoop_succ,if_pos (by rw [k5,e3];rfl)] at hf3
       have hk:(hd ts3).kind≠0:=by simp [isK] at k5;omega
       obtain ⟨t',ht1',ht2',ht3',ht4'⟩:=hX3.1.tok hI4
       have:=ht4' _ _ _ rfl
       subst this
       refine ⟨K.tb,0,ht1',ht2',_,_,_,_,_,ht3',?_⟩
       have hnb:NF (pBin m (lv+1) ts3.tail d3):=by rw [←hf3] at hn;exact hn.bind
       refine Tri.mono ((Y m (by omega)).bin (lv+1) ts3.tail d3 _ h4 (by omega) hI4 (hX3.1.adv1 (z:=()) hI4 hk) hnb) ?_
       rintro _ h5 ⟨x5,c5',rfl,hx5,hX5⟩
       refine ⟨_,_,_,_,_,_,_,_,_,_,_,_,_,_,_,_,rfl,?_⟩
       intro b4' hb4 h6 hh
       have hx6:=Put.ext hh hb4
       have hx06:=(hx4.trans hx5).trans hx6
       have hbk:only (New h) h6 b4'=some (.cells ⟨DC.l ⟨b1,b2,b3,b4,b5,b6,b7,b8,b9⟩++c5'.l⟩ 186 (0,0)):=only_some.2 ⟨(hx4.trans hx5).dom b4' hb4,Put.at hh⟩
       have hE3:=(hX3.2 _ _ _ rfl).ext ((hx34.trans hx5).trans hx6).only
       refine ⟨m,by omega,⟨mapR (fun e'=> .mk 7 (hd ts3).text [] 0 [] [y,e'] (hd ts3).pos) (pBin m (lv+1) ts3.tail d3),by omega,hx06,?_,?_⟩,rfl,rfl,trivial⟩
       . exact hX5.map fun e he=>RE_mk 7 _ [] 0 [] [y,e] _ (ad b4' 0) 2 (.inr ⟨b4',0,rfl,REs_two rfl hbk hE3 (he.ext ((only_new hx4.dom).trans hx6.only))⟩)
       . rw [←hf3];simp only [mapR,bindR_bind,bindR_ok]
     . have e3:(levelS (hd ts3).text == lv)=false:=by rw [←kind_beq];exact e3
       have:fin= .ok (y,ts3,d3):=by
        match m,hf3 with
        | 0,hf3=>exact absurd hf3.symm hn
        | m+1,hf3=>rw [←hf3,pLoop_succ,if_neg (by rw [k5,e3];decide)]
       rw [this]
       exact ⟨rfl,_,⟨b1,b2,b3,b4,b5,b6,b7,b8,b9⟩,rfl,hx4,hX3.mono fun e he=>he.ext hx34.only⟩
   . have k5:isK ts3 5=false:=by rw [c5] at e2;exact e2
     have:fin= .ok (y,ts3,d3):=by
      match m,hf3 with
      | 0,hf3=>exact absurd hf3.symm hn
      | m+1,hf3=>rw [←hf3,pLoop_succ,if_neg (by rw [k5];simp)]
     rw [this]
     exact ⟨rfl,_,⟨b1,b2,b3,b4,b5,b6,b7,b8,b9⟩,rfl,hx3,hX3⟩
 . obtain ⟨y,rfl⟩:=okR_false (he0.symm.trans e1)
   have:fin= .error y:=hf3.symm
   rw [this]
   exact ⟨rfl,_,⟨b1,b2,b3,b4,b5,b6,b7,b8,b9⟩,rfl,hx3,hX3⟩
theorem elem186:ElemT 186 7:=⟨_,_,rfl,rfl,rfl,rfl,by decide⟩
theorem und172:Tryz.prog.underlying 172=some (.slice 186):=rfl
theorem argsr_ok {f:Nat} (Y:∀ g,g < f->YOk K g) (hf5:f<=5000000) (hI:K.In h) (hx:XS K x (.ok ((),ts,d):R Unit)) (hn:NF (pArgL f ts d)):Tri Tryz.prog 144 [vA x.l] h (RLs K h (pArgL f ts d)):=by
 refine T144 ?_
 unfold R144
 have he:pArgL f ts d=thenR (bindR (takeT [40] ts d) fun _ ts d=>pArgs f ts d) fun ts d=>takeT [41] ts d:=by
  simp only [pArgL,thenR,bindR_bind,bindR_ok]
 rw [he] at hn ⊢
 refine Tri.mono (takew_r hx hI [40]) ?_
 rintro _ h ⟨rfl,x1,rfl,hx1⟩
 rw [bindR_ok] at hx1
 refine ⟨_,_,_,_,_,_,_,rfl,?_⟩
 refine Tri.mono (isw_r hx1 hI [41]) ?_
 rintro _ h ⟨rfl,rfl⟩
 have n2:NF (bindR (takeT [40] ts d) fun _ ts d=>pArgs f ts d):=hn.then.bind
 generalize takeT [40] ts d=r1 at *
 refine ⟨_,rfl,br_split (fun e=>?_) (fun e=>?_)⟩
 . refine br_split (fun e1=>?_) (fun e1=>?_)
   . obtain ⟨y,ts1,d1,rfl⟩:=okR_true (hx1.err0.symm.trans e1)
     have e:isT ts1 [41]=false:=by simpa [isTr] using e
     rw [bindR_ok] at hn n2 ⊢
     match f,hf5,Y,n2 with
     | 0,_,Y,n2=>exact absurd (by unfold pArgs;rfl) n2
     | f+1,hf5,Y,n2=>
     rw [pArgs_succ,if_neg (by rw [e];decide)] at hn n2 ⊢
     refine Tri.mono ((Y f (by omega)).bin 1 ts1 d1 x1 h (by decide) hI hx1 n2.bind) ?_
     rintro _ h3 ⟨x3,c3,rfl,hx3,hX3⟩
     refine ⟨_,_,_,_,_,_,_,_,_,_,_,_,_,_,_,_,rfl,?_⟩
     intro b1 hb1 h4 hh4
     refine Raw.mono (LM.append (h0:=h) (cs:=c3.l) und172 elem186 rfl rfl rfl rfl rfl LM.nil hb1 hh4 rfl c3.one (by omega) hx3.dom) ?_
     rintro _ h5 ⟨b5,cap5,rfl,hk5,hd5,hn5,hq5,hM5,hR5⟩
     have hx5:Ext h h5:=fun q o hq=>hk5 q o (ne_of hq) (hx3 q o hq)
     refine ⟨_,_,_,rfl,?_⟩
     generalize hfe:(bindR (pBin f 1 ts1 d1) fun e ts d=>pMore f [e] ts d)=fin at *
     have hX5:XX K x3 (mapR (fun e=>[e]) (pBin f 1 ts1 d1)) (fun l=>LR (RE plR 7) h h5 (ad b5 0) [c3.l] l):=hX3.map fun e he=>hR5 (RE_mono _ _) LR.nil (he.ext (only_ext fun k o hk ho=>⟨⟨hk,fun e=>by cases e⟩,ho⟩))
     refine ⟨fun m la ln lc a1 a2 a3 a4 a5 a6 a7 b1 b2 b3 b4 b5 b6 b7 b8 b9 h'=>∃ (r':R (List E)) (css:List (List Value)),ln+m<=f+1/\Ext h h'/\LM 186 7 h h' la ln lc css/\XX K ⟨a1,a2,a3,a4,a5,a6,a7⟩ r' (fun l=>LR (RE plR 7) h h' la css l)/\(bindR r' fun l ts d=>pMore m l ts d)=fin,
      ⟨f,_,_,by omega,hx5,hM5,hX5,by rw [←hfe];simp only [mapR,bindR_bind,bindR_ok]⟩,?_⟩
     rintro m la ln lc a1 a2 a3 a4 a5 a6 a7 _ _ _ _ _ _ _ _ _ h6 ⟨r',css,hm,hx6,hM6,hX6,hf6⟩
     have hI6:=hI.ext hx6
     refine Tri.mono (isw_r hX6.1 hI6 [44]) ?_
     rintro _ h6 ⟨rfl,rfl⟩
     refine ⟨_,rfl,br_split (fun e3=>?_) (fun e3=>?_)⟩
     . match r',hX6,hf6,e3 with
       | .error y,hX6,hf6,e3=>simp [isTr] at e3
       | .ok (l,ts6,d6),hX6,hf6,e3=>
       have e3:isT ts6 [44]=true:=by simpa [isTr] using e3
       rw [bindR_ok] at hf6
       match m,hf6,hm with
       | 0,hf6,hm=>exact absurd hf6.symm n2
       | m+1,hf6,hm=>
       rw [pMore_succ,if_pos e3,←bindR_bind] at hf6
       refine Tri.mono (takew_r hX6.1 hI6 [44]) ?_
       rintro _ h6 ⟨rfl,x8,rfl,hx8⟩
       rw [bindR_ok] at hx8
       refine ⟨_,_,_,_,_,_,_,rfl,?_⟩
       have nb:NF (bindR (takeT [44] ts6 d6) fun _ ts d=>pBin m 1 ts d):=by rw [←hf6] at n2;exact n2.bind
       refine Tri.mono (bin_r (Y m (by omega)) 1 (by decide) _ hI6 hx8 nb) ?_
       rintro _ h9 ⟨x9,c9,rfl,hx69,hX9⟩
       refine ⟨_,_,_,_,_,_,_,_,_,_,_,_,_,_,_,_,rfl,?_⟩
       intro b10 hb10 h10 hh10
       have hx9:=hx6.trans hx69
       refine Raw.mono (LM.append (h0:=h) (cs:=c9.l) und172 elem186 rfl rfl rfl rfl rfl (hM6.ext hx69) hb10 hh10 rfl c9.one (by omega) hx9.dom) ?_
       rintro _ h11 ⟨b11,cap11,rfl,hk11,hd11,hn11,hq11,hM11,hR11⟩
       have hx11:Ext h h11:=fun q o hq=>hk11 q o (ne_of hq) (hx9 q o hq)
       refine ⟨_,_,_,rfl,m,by omega,⟨mapR (fun e=>l++[e]) (bindR (takeT [44] ts6 d6) fun _ ts d=>pBin m 1 ts d),_,by omega,hx11,hM11,?_,?_⟩,rfl,trivial⟩
       . exact hX9.map fun e he=>hR11 (RE_mono _ _) ((hX6.2 _ _ _ rfl).ext (RE_mono _ _) hx69) (he.ext (hM6.new hx6.dom))
       . rw [←hf6];simp only [mapR,bindR_bind,bindR_ok]
     . have hfr:fin=r':=by
        match r',hf6,e3 with
        | .error y,hf6,_=>exact hf6.symm
        | .ok (l,ts6,d6),hf6,e3=>
          have e3:isT ts6 [44]=false:=by simpa [isTr] using e3
          rw [bindR_ok] at hf6
          match m,hf6 with
          | 0,hf6=>exact absurd hf6.symm n2
          | m+1,hf6=>rw [←hf6,pMore_succ,if_neg (by rw [e3];decide)]
       refine Tri.mono (takew_r hX6.1 hI6 [41]) ?_
       rintro _ h6 ⟨rfl,x12,rfl,hx12⟩
       rw [hfr]
       refine ⟨_,_,_,_,_,_,_,rfl,x12,la,ln,lc,rfl,hx6,hX6.then hx12 fun l hl=>⟨?_,hM6.at (RE_mono _ _) hl⟩⟩
       rw [←hM6.len];exact hl.1
   . obtain ⟨y,rfl⟩:=okR_false (hx1.err0.symm.trans e1)
     refine Tri.mono (takew_r hx1 hI [41]) ?_
     rintro _ h ⟨rfl,x2,rfl,hx2⟩
     exact ⟨_,_,_,_,_,_,_,rfl,x2,none,0,0,rfl,Ext.refl _,XX.er hx2⟩
 . match r1,hx1,hn,n2,e with
   | .error y,hx1,hn,n2,e=>simp [isTr] at e
   | .ok (y,ts1,d1),hx1,hn,n2,e=>
   have e:isT ts1 [41]=true:=by simpa [isTr] using e
   rw [bindR_ok] at hn n2 ⊢
   match f,Y,n2 with
   | 0,Y,n2=>exact absurd (by unfold pArgs;rfl) n2
   | f+1,Y,n2=>
   rw [pArgs_succ,if_pos e] at hn n2 ⊢
   refine Tri.mono (takew_r hx1 hI [41]) ?_
   rintro _ h ⟨rfl,x2,rfl,hx2⟩
   rw [bindR_ok] at hx2
   refine ⟨_,_,_,_,_,_,_,rfl,x2,none,0,0,rfl,Ext.refl _,?_⟩
   have hXu:XX K x1 (.ok ([],ts1,d1):R (List E)) (fun l=>l=[]):=⟨hx1,fun y ts d h=>by cases h;rfl⟩
   exact hXu.then (x':=x2) (g:=fun ts d=>takeT [41] ts d) hx2 fun l hl=>by subst hl;exact ⟨rfl,At.nil⟩
theorem yok (K:QK) (f:Nat) (hf:f<=5000000):YOk K f:=by
 induction f using Nat.strongRecOn with
 | _ f ih=>
   match f,ih,hf with
   | 0,ih,hf=>
     exact ⟨fun lv ts d x h _ _ _ hn=>absurd (by unfold pBin;rfl) hn,fun ts d x h _ _ hn=>absurd (by unfold pUn;rfl) hn,fun ts d x h _ _ hn=>absurd (by unfold pPrim;rfl) hn,
      fun ts d x h hI hx hn=>argsr_ok (fun g hg=>by omega) hf hI hx hn⟩
   | f+1,ih,hf=>
     have Y:∀ g,g<=f->YOk K g:=fun g hg=>ih g (by omega) (by omega)
     exact ⟨fun lv ts d x h hlv hI hx hn=>binr_ok Y lv hlv hI hx hn,fun ts d x h hI hx hn=>unr_ok (Y f (Nat.le_refl _)) hI hx hn,fun ts d x h hI hx hn=>primr_ok Y hI hx hn,
      fun ts d x h hI hx hn=>argsr_ok (fun g hg=>Y g (by omega)) hf hI hx hn⟩
end
end Go.Proofs.D
namespace Go.Proofs.D
open Go Go.Den Go.Sx
set_option maxRecDepth 100000
attribute [local irreducible] IntKind.wrap Tri
structure SD where
 kind:Int
 name:List UInt8
 aa:Option Addr
 an:Nat
 ac:Nat
 ba:Option Addr
 bn:Nat
 bc:Nat
 ea:Option Addr
 en:Nat
 ec:Nat
 pos:Int
def SD.l (c:SD):List Value:=[vI c.kind,vS c.name,vL c.aa c.an c.ac,vL c.ba c.bn c.bc,vL c.ea c.en c.ec,vI c.pos]
theorem SD.one (c:SD):allOne c.l=true:=rfl
def RSt (K:QK) (h:PHeap) (r:R S) (v:Value) (h':PHeap):Prop:=
 ∃ (x':XC) (c:SD),v=vT [vA x'.l,vA c.l]/\Ext h h'/\XX K x' r fun s=>RS plR 7 6 (only (New h) h') s c.l
def RBk (K:QK) (h:PHeap) (r:R (List S)) (v:Value) (h':PHeap):Prop:=
 ∃ (x':XC) (a:Option Addr) (n c:Nat),v=vT [vA x'.l,vL a n c]/\Ext h h'/\XX K x' r fun l=>n=l.length/\At 6 (RS plR 7 6) (only (New h) h') a l
theorem takeT_word {ts:List Tok} {t:Bytes} {d:Int} (h:isT ts t=true) (h1:opens t=false) (h2:closes t=false):takeT t ts d= .ok ((),ts.tail,d):=by simp [takeT,h,h1,h2]
theorem isT_notK1 {ts:List Tok} {t:Bytes} (h:isT ts t=true):isK ts 1=false:=by
 simp only [isT,Bool.and_eq_true,Bool.or_eq_true] at h
 rcases h.1 with h4 | h5
 . have:(hd ts).kind=4:=by simpa using h4
   simp [isK,this]
 . have:(hd ts).kind=5:=by simpa using h5
   simp [isK,this]
theorem isTr_true {α:Type} {r:R α} {t:Bytes} (e:isTr r t=true):∃ y ts d,r= .ok (y,ts,d)/\isT ts t=true:=by
 match r,e with
 | .error x,e=>cases e
 | .ok (y,ts,d),e=>exact ⟨y,ts,d,rfl,e⟩
section
variable {K : QK} {x : XC} {h : PHeap} {ts : List Tok} {d : Int}
theorem cond_r {f:Nat} (hf:f<=5000000) {α:Type} (r:R α) (hI:K.In h) (hx:XS K x r) (hn:NF (bindR r fun _ ts d=>pCond f ts d)):Tri Tryz.prog 143 [vA x.l] h (REx K h (bindR r fun _ ts d=>pCond f ts d)):=by
 refine T143 ?_
 unfold R143
 have he:(bindR r fun _ ts d=>pCond f ts d)=thenR (bindR (bindR r fun _ ts d=>takeT [40] ts d) fun _ ts d=>pBin f 1 ts d) fun ts d=>takeT [41] ts d:=by
  simp only [thenR,bindR_bind,bindR_ok,pCond]
 rw [he] at hn ⊢
 refine Tri.mono (takew_r hx hI [40]) ?_
 rintro _ h ⟨rfl,x1,rfl,hx1⟩
 refine ⟨_,_,_,_,_,_,_,rfl,?_⟩
 refine Tri.mono (bin_r (yok K f hf) 1 (by decide) _ hI hx1 hn.then.bind) ?_
 rintro _ h2 ⟨x2,c2,rfl,hx2,hX2⟩
 refine ⟨_,_,_,_,_,_,_,_,_,_,_,_,_,_,_,_,rfl,?_⟩
 refine Tri.mono (takew_r hX2.1 (hI.ext hx2) [41]) ?_
 rintro _ h2 ⟨rfl,x3,rfl,hx3⟩
 exact ⟨_,_,_,_,_,_,_,rfl,rfl,rfl,x3,c2,rfl,hx2,hX2.then hx3 fun _ h=>h⟩
theorem block_er {e:Nat×Nat} (hx:XS K x (.error e:R Unit)) (hI:K.In h):Tri Tryz.prog 53 [vA x.l] h (RBk K h (.error e)):=by
 refine T53 ?_
 unfold R53
 refine Tri.mono (takew_r hx hI [123]) ?_
 rintro _ h ⟨rfl,x1,rfl,hx1⟩
 refine ⟨_,_,_,_,_,_,_,rfl,?_⟩
 refine ⟨fun m la ln lc a1 a2 a3 a4 a5 a6 a7 h'=>h'=h/\la=none/\ln=0/\lc=0/\XS K ⟨a1,a2,a3,a4,a5,a6,a7⟩ (.error e:R Unit),⟨0,rfl,rfl,rfl,rfl,hx1⟩,?_⟩
 rintro m _ _ _ a1 a2 a3 a4 a5 a6 a7 h ⟨rfl,rfl,rfl,rfl,hx2⟩
 refine br_neg hx2.err0 ?_
 refine Tri.mono (takew_r hx2 hI [125]) ?_
 rintro _ h ⟨rfl,x3,rfl,hx3⟩
 exact ⟨_,_,_,_,_,_,_,rfl,x3,none,0,0,rfl,Ext.refl _,XX.er hx3⟩
structure ZOk (K:QK) (f:Nat):Prop where
 blk:∀ (ts:List Tok) (d:Int) (x:XC) (h:PHeap),K.In h->XS K x (.ok ((),ts,d):R Unit)->NF (pBlock f ts d)->Tri Tryz.prog 53 [vA x.l] h (RBk K h (pBlock f ts d))
 stm:∀ (ts:List Tok) (d:Int) (x:XC) (h:PHeap),K.In h->XS K x (.ok ((),ts,d):R Unit)->NF (pStmt f ts d)->Tri Tryz.prog 96 [vA x.l] h (RSt K h (pStmt f ts d))
theorem blk_r {f:Nat} (Z:ZOk K f) {α:Type} (r:R α) (hI:K.In h) (hx:XS K x r) (hn:NF (bindR r fun _ ts d=>pBlock f ts d)):Tri Tryz.prog 53 [vA x.l] h (RBk K h (bindR r fun _ ts d=>pBlock f ts d)):=by
 match r,hx,hn with
 | .error e,hx,hn=>exact block_er hx hI
 | .ok (y,ts,d),hx,hn=>exact Z.blk ts d x h hI hx hn
theorem elem174:ElemT 174 6:=⟨_,_,rfl,rfl,rfl,rfl,by decide⟩
theorem und101:Tryz.prog.underlying 101=some (.slice 174):=rfl
theorem blockr_ok {f:Nat} (Z:∀ g,g<=f->ZOk K g) (hf5:f<=5000000) (hI:K.In h) (hx:XS K x (.ok ((),ts,d):R Unit)) (hn:NF (pBlock (f+1) ts d)):Tri Tryz.prog 53 [vA x.l] h (RBk K h (pBlock (f+1) ts d)):=by
 refine T53 ?_
 unfold R53
 rw [pBlock_succ] at hn ⊢
 refine Tri.mono (takew_r hx hI [123]) ?_
 rintro _ h ⟨rfl,x1,rfl,hx1⟩
 rw [bindR_ok] at hx1
 refine ⟨_,_,_,_,_,_,_,rfl,?_⟩
 generalize takeT [123] ts d=r1 at *
 generalize hfin:(bindR r1 fun _ ts d=>pStmts f [] ts d)=fin at *
 refine ⟨fun m la ln lc a1 a2 a3 a4 a5 a6 a7 h'=>∃ (r':R (List S)) (css:List (List Value)),ln+m<=f/\Ext h h'/\LM 174 6 h h' la ln lc css/\XX K ⟨a1,a2,a3,a4,a5,a6,a7⟩ r' (fun l=>LR (RS plR 7 6) h h' la css l)/\(bindR r' fun l ts d=>pStmts m l ts d)=fin,
  ⟨f,mapR (fun _=>[]) r1,[],by omega,Ext.refl _,LM.nil,(XX.unit hx1).map fun _ _=>LR.nil,by rw [←hfin];simp only [mapR,bindR_bind,bindR_ok]⟩,?_⟩
 rintro m la ln lc a1 a2 a3 a4 a5 a6 a7 h2 ⟨r',css,hm,hx2,hM2,hX2,hf2⟩
 have hI2:=hI.ext hx2
 have done:∀ {x3:XC},XS K x3 (bindR r' fun _ ts d=>takeT [125] ts d)->fin=thenR r' (fun ts d=>takeT [125] ts d)->RBk K h fin (vT [vA x3.l,vL la ln lc]) h2:=by
  intro x3 hx3 he3
  rw [he3]
  refine ⟨x3,la,ln,lc,rfl,hx2,hX2.then hx3 fun l hl=>⟨?_,hM2.at (RS_mono _ _ _) hl⟩⟩
  rw [←hM2.len];exact hl.1
 have he0:=hX2.1.err0
 refine br_split (fun e=>?_) (fun e=>?_)
 . obtain ⟨l,ts2,d2,rfl⟩:=okR_true (he0.symm.trans e)
   rw [bindR_ok] at hf2
   refine Tri.mono (isw_r hX2.1 hI2 [125]) ?_
   rintro _ h2 ⟨rfl,rfl⟩
   match m,hf2,hm with
   | 0,hf2,hm=>exact absurd hf2.symm hn
   | m+1,hf2,hm=>
   rw [pStmts_succ] at hf2
   refine ⟨_,rfl,br_split (fun e2=>?_) (fun e2=>?_)⟩
   . have e2:isT ts2 [125]=false:=by simpa [isTr] using e2
     rw [if_neg (by rw [e2];decide)] at hf2
     have hnS:NF (pStmt m ts2 d2):=by rw [←hf2] at hn;exact hn.bind
     refine Tri.mono ((Z m (by omega)).stm ts2 d2 _ h2 hI2 hX2.1 hnS) ?_
     rintro _ h3 ⟨x3,c3,rfl,hx23,hX3⟩
     refine ⟨_,_,_,_,_,_,_,_,_,_,_,_,_,_,_,_,_,_,_,rfl,?_⟩
     intro b hb h4 hh4
     have hx3:=hx2.trans hx23
     refine Raw.mono (LM.append (h0:=h) (cs:=c3.l) und101 elem174 rfl rfl rfl rfl rfl (hM2.ext hx23) hb hh4 rfl c3.one (by omega) hx3.dom) ?_
     rintro _ h5 ⟨b5,cap5,rfl,hk5,hd5,hn5,hq5,hM5,hR5⟩
     have hx5:Ext h h5:=fun q o hq=>hk5 q o (ne_of hq) (hx3 q o hq)
     refine ⟨_,_,_,rfl,m,by omega,⟨mapR (fun s=>l++[s]) (pStmt m ts2 d2),_,by omega,hx5,hM5,?_,?_⟩,rfl,trivial⟩
     . exact hX3.map fun s hs=>hR5 (RS_mono _ _ _) ((hX2.2 _ _ _ rfl).ext (RS_mono _ _ _) hx23) (hs.ext (hM2.new hx2.dom))
     . rw [←hf2];simp only [mapR,bindR_bind,bindR_ok]
   . have e2:isT ts2 [125]=true:=by simpa [isTr] using e2
     rw [if_pos e2] at hf2
     refine Tri.mono (takew_r hX2.1 hI2 [125]) ?_
     rintro _ h2 ⟨rfl,x3,rfl,hx3⟩
     exact ⟨_,_,_,_,_,_,_,rfl,done hx3 (by rw [←hf2];rfl)⟩
 . obtain ⟨y,rfl⟩:=okR_false (he0.symm.trans e)
   refine Tri.mono (takew_r hX2.1 hI2 [125]) ?_
   rintro _ h2 ⟨rfl,x3,rfl,hx3⟩
   exact ⟨_,_,_,_,_,_,_,rfl,done hx3 hf2.symm⟩
theorem pIf_eq (f:Nat) (ts:List Tok) (d:Int):pIf (f+1) ts d=bindR (pairR (pCond f ts.tail d) fun ts d=>pBlock f ts d) fun eb ts' d=>
 if isT ts' [101,108,115,101] then
  if isT ts'.tail [105,102] then bindR (pIf f ts'.tail d) fun s ts' d=> .ok (.mk 5 [] [eb.1] eb.2 [s] (hd ts).pos,ts',d)
  else bindR (pBlock f ts'.tail d) fun b' ts' d=> .ok (.mk 5 [] [eb.1] eb.2 b' (hd ts).pos,ts',d)
 else .ok (.mk 5 [] [eb.1] eb.2 [] (hd ts).pos,ts',d):=by
 conv=>lhs;unfold pIf
 simp only [pairR,bindR_bind,bindR_ok]
theorem At.put1 {α:Type} {k:Nat} {rel:PHeap->α->List Value->Prop} {h0 h1 h2 h3:PHeap} {b:Nat} {y:α} {l:List Value} {t:TypeId} (hx:Ext h0 h1) (hb:h1 b=none) (hh:h2=h1.put b (.cells ⟨l⟩ t)) (hx3:Ext h2 h3) (hr:rel (only (New h0) h3) y l):At k rel (only (New h0) h3) (ad b 0) [y]:=
 At.one (only_some.2 ⟨hx.dom b hb,hx3 _ _ (Put.at hh)⟩) hr
theorem LM.one {e k:Nat} {h0 h1 h2 h3:PHeap} {b:Nat} {l:List Value} (hl:l.length=k) (hx:Ext h0 h1) (hb:h1 b=none) (hh:h2=h1.put b (.cells ⟨l⟩ e)) (hx3:Ext h2 h3):LM e k h0 h3 (ad b 0) 1 1 [l]:=by
 have hat:=hx3 _ _ (Put.at hh)
 refine ⟨fun q hq=>?_,rfl,fun j cs hj=>?_,⟨by simp [hl], .inr ⟨b,1,[],rfl,by simpa using hat,by simp,by omega⟩⟩,fun e=>absurd e (by decide)⟩
 . injection hq with hq;injection hq with hq;subst hq
   exact ⟨hx.dom _ hb,ne_of hat⟩
 . match j,hj with
   | 0,hj=>simp at hj;subst hj;exact hl
   | j+1,hj=>simp at hj
theorem stmtr_ok {f:Nat} (Z:∀ g,g<=f->ZOk K g) (hf5:f<=5000000) (hI:K.In h) (hx:XS K x (.ok ((),ts,d):R Unit)) (hn:NF (pStmt (f+1) ts d)):Tri Tryz.prog 96 [vA x.l] h (RSt K h (pStmt (f+1) ts d)):=by
 refine T96 ?_
 unfold R96
 obtain ⟨t,ht1,ht2,ht3,ht4⟩:=hx.tok hI
 have:=ht4 _ _ _ rfl
 subst this
 refine ⟨K.tb,0,ht1,ht2,_,_,_,_,_,ht3,?_⟩
 have Y:=yok K f hf5
 rw [pStmt_succ] at hn ⊢
 have kw:∀ {t:Bytes} {x1:XC},isT ts t=true->opens t=false->closes t=false->XS K x1 (bindR (.ok ((),ts,d):R Unit) fun _ ts d=>takeT t ts d)->XS K x1 (.ok ((),ts.tail,d):R Unit):=fun e e1 e2 hx1=>by
  rw [bindR_ok,takeT_word e e1 e2] at hx1;exact hx1
 refine Tri.mono (isw_r hx hI [118,97,114]) ?_
 rintro _ h ⟨rfl,rfl⟩
 refine ⟨_,rfl,br_split (fun e1=>?_) (fun e1=>?_)⟩
 . have e1:isT ts [118,97,114]=true:=e1
   rw [if_neg (by rw [isT_notK1 e1];decide),if_pos e1] at hn ⊢
   unfold pDecl at hn ⊢
   refine Tri.mono (takew_r hx hI [118,97,114]) ?_
   rintro _ h ⟨rfl,x1,rfl,hx1⟩
   have hx1:=kw e1 rfl rfl hx1
   refine ⟨_,_,_,_,_,_,_,rfl,?_⟩
   refine Tri.mono (ident_r hx1 hI) ?_
   rintro _ h ⟨rfl,x2,nm,pos,rfl,hX2⟩
   rw [bindR_ok] at hX2
   refine ⟨_,_,_,_,_,_,_,_,_,rfl,?_⟩
   generalize takeK 1 ts.tail d=r2 at *
   refine Tri.mono (isw_r hX2.1 hI [61]) ?_
   rintro _ h ⟨rfl,rfl⟩
   refine ⟨_,rfl,br_split (fun e2=>?_) (fun e2=>?_)⟩
   . obtain ⟨t2,ts2,d2,rfl,q2⟩:=isTr_true e2
     rw [bindR_ok,if_pos q2] at hn ⊢
     obtain ⟨rfl,rfl⟩:=hX2.2 _ _ _ rfl
     have he:(bindR (takeT [61] ts2 d2) fun _ ts' d=>bindR (pBin f 1 ts' d) fun e ts' d=>bindR (takeT [59] ts' d) fun _ ts' d=>(.ok (.mk 1 t2.text [e] [] [] (hd ts).pos,ts',d):R S))=
      mapR (fun e=> .mk 1 t2.text [e] [] [] (hd ts).pos) (thenR (bindR (takeT [61] ts2 d2) fun _ ts d=>pBin f 1 ts d) fun ts d=>takeT [59] ts d):=by simp only [mapR,thenR,bindR_bind,bindR_ok]
     rw [he] at hn ⊢
     refine Tri.mono (takew_r hX2.1 hI [61]) ?_
     rintro _ h ⟨rfl,x3,rfl,hx3⟩
     rw [bindR_ok] at hx3
     refine ⟨_,_,_,_,_,_,_,rfl,?_⟩
     refine Tri.mono (bin_r Y 1 (by decide) _ hI hx3 hn.map.then.bind) ?_
     rintro _ h4 ⟨x4,c4,rfl,hxh4,hX4⟩
     refine ⟨_,_,_,_,_,_,_,_,_,_,_,_,_,_,_,_,rfl,?_⟩
     intro b hb h5 hh
     have hxh5:=Put.ext hh hb
     refine Tri.mono (takew_r hX4.1 (hI.ext (hxh4.trans hxh5)) [59]) ?_
     rintro _ h5 ⟨rfl,x5,rfl,hx5⟩
     exact ⟨_,_,_,_,_,_,_,rfl,rfl,rfl,x5,⟨1,t2.text,ad b 0,1,1,none,0,0,none,0,0,_⟩,rfl,hxh4.trans hxh5,(hX4.then hx5 fun _ h=>h).map fun e he=>RS_mk 1 t2.text _ 1 0 0 (At.put1 hxh4 hb hh (Ext.refl _) (he.ext hxh5.only)) At.nil At.nil⟩
   . have he:(bindR r2 fun t ts' d=>if isT ts' [61] then bindR (takeT [61] ts' d) fun _ ts' d=>bindR (pBin f 1 ts' d) fun e ts' d=>bindR (takeT [59] ts' d) fun _ ts' d=> .ok (.mk 1 t.text [e] [] [] (hd ts).pos,ts',d)
      else bindR (takeT [59] ts' d) fun _ ts' d=>(.ok (.mk 1 t.text [] [] [] (hd ts).pos,ts',d):R S))=mapR (fun t=> .mk 1 t.text [] [] [] (hd ts).pos) (thenR r2 fun ts d=>takeT [59] ts d):=by
      match r2,e2 with
      | .error y,_=>rfl
      | .ok (t2,ts2,d2),e2=>
        rw [bindR_ok,if_neg (by rw [show isT ts2 [61]=false from e2];decide)]
        simp only [mapR,thenR,bindR_bind,bindR_ok]
     rw [he] at hn ⊢
     refine Tri.mono (takew_r hX2.1 hI [59]) ?_
     rintro _ h ⟨rfl,x3,rfl,hx3⟩
     exact ⟨_,_,_,_,_,_,_,rfl,rfl,rfl,x3,⟨1,nm,none,0,0,none,0,0,none,0,0,_⟩,rfl,Ext.refl _,(hX2.then hx3 fun _ h=>h).map fun t ht=>by
      obtain ⟨rfl,_⟩:=ht
      exact RS_mk 1 t.text _ 0 0 0 At.nil At.nil At.nil⟩
 have e1:isT ts [118,97,114]=false:=e1
 refine Tri.mono (isw_r hx hI [105,102]) ?_
 rintro _ h ⟨rfl,rfl⟩
 refine ⟨_,rfl,br_split (fun e2=>?_) (fun e2=>?_)⟩
 . have e2:isT ts [105,102]=true:=e2
   rw [if_neg (by rw [isT_notK1 e2];decide),if_neg (by rw [e1];decide),if_pos e2] at hn ⊢
   match f,hf5,Z,Y,hn with
   | 0,hf5,Z,Y,hn=>exact absurd (by unfold pIf;rfl) hn
   | f+1,hf5,Z,Y,hn=>
   rw [pIf_eq] at hn ⊢
   refine Tri.mono (takew_r hx hI [105,102]) ?_
   rintro _ h ⟨rfl,x1,rfl,hx1⟩
   have hx1:=kw e2 rfl rfl hx1
   refine ⟨_,_,_,_,_,_,_,rfl,?_⟩
   have n1:=hn.bind
   refine Tri.mono (cond_r (by omega) (.ok ((),ts.tail,d):R Unit) hI hx1 n1.bind) ?_
   rintro _ h2 ⟨x2,c2,rfl,hxh2,hX2⟩
   rw [bindR_ok] at hX2
   refine ⟨_,_,_,_,_,_,_,_,_,_,_,_,_,_,_,_,rfl,?_⟩
   intro b3 hb3 h3 hh3
   have hxh3:=Put.ext hh3 hb3
   have hx03:=hxh2.trans hxh3
   refine Tri.mono (blk_r (Z f (by omega)) (pCond f ts.tail d) (hI.ext hx03) hX2.1 n1.pair) ?_
   rintro _ h4 ⟨x4,a4,n4,k4,rfl,hxh4,hX4⟩
   refine ⟨_,_,_,_,_,_,_,_,_,_,rfl,?_⟩
   have hx04:=hx03.trans hxh4
   have hI4:=hI.ext hx04
   have hP:XX K x4 (pairR (pCond f ts.tail d) fun ts d=>pBlock f ts d) fun eb=>RE plR 7 (only (New h) h4) eb.1 c2.l/\n4=eb.2.length/\At 6 (RS plR 7 6) (only (New h) h4) a4 eb.2:=
    hX2.pair hX4 fun e b he hb=>⟨he.ext (hxh3.trans hxh4).only,hb.1,hb.2.ext (RS_mono _ _ _) (only_new hx03.dom)⟩
   generalize (pairR (pCond f ts.tail d) fun ts d=>pBlock f ts d)=r4 at *
   clear hX2 hX4 n1
   refine Tri.mono (isw_r hP.1 hI4 [101,108,115,101]) ?_
   rintro _ h4 ⟨rfl,rfl⟩
   refine ⟨_,rfl,br_split (fun e3=>?_) (fun e3=>?_)⟩
   . obtain ⟨eb,ts4,d4,rfl,q3⟩:=isTr_true e3
     rw [bindR_ok,if_pos q3] at hn ⊢
     obtain ⟨g1,rfl,g3⟩:=hP.2 _ _ _ rfl
     refine Tri.mono (takew_r hP.1 hI4 [101,108,115,101]) ?_
     rintro _ h4 ⟨rfl,x5,rfl,hx5⟩
     rw [bindR_ok,takeT_word q3 rfl rfl] at hx5
     refine ⟨_,_,_,_,_,_,_,rfl,?_⟩
     refine Tri.mono (isw_r hx5 hI4 [105,102]) ?_
     rintro _ h4 ⟨rfl,rfl⟩
     refine ⟨_,rfl,br_split (fun e4=>?_) (fun e4=>?_)⟩
     . have e4:isT ts4.tail [105,102]=true:=e4
       rw [if_pos e4] at hn ⊢
       have hst:pStmt (f+1) ts4.tail d4=pIf f ts4.tail d4:=by
        rw [pStmt_succ,if_neg (by rw [isT_notK1 e4];decide)]
        by_cases h1:isT ts4.tail [118,97,114]=true
        . exfalso
          simp only [isT,Bool.and_eq_true,beq_iff_eq] at h1 e4
          rw [h1.2] at e4
          exact absurd e4.2 (by decide)
        . rw [if_neg h1,if_pos e4]
       rw [←hst] at hn ⊢
       refine Tri.mono ((Z (f+1) (by omega)).stm ts4.tail d4 x5 h4 hI4 hx5 hn.bind) ?_
       rintro _ h6 ⟨x6,c6,rfl,hxh6,hX6⟩
       refine ⟨_,_,_,_,_,_,_,_,_,_,_,_,_,_,_,_,_,_,_,rfl,?_⟩
       intro b7 hb7 h7 hh7
       have hxh7:=Put.ext hh7 hb7
       have hx06:=hx04.trans hxh6
       refine ⟨rfl,x6,⟨5,[],ad b3 0,1,1,a4,eb.2.length,k4,ad b7 0,1,1,_⟩,rfl,hx06.trans hxh7,hX6.map (k:=fun s=>S.mk 5 [] [eb.1] eb.2 [s] (hd ts).pos) fun s hs=>?_⟩
       exact RS_mk 5 [] _ 1 k4 1 (At.put1 hxh2 hb3 hh3 ((hxh4.trans hxh6).trans hxh7) (g1.ext (hxh6.trans hxh7).only)) (g3.ext (RS_mono _ _ _) (hxh6.trans hxh7).only) (At.put1 hx06 hb7 hh7 (Ext.refl _) (hs.ext ((only_new hx04.dom).trans hxh7.only)))
     . have e4:isT ts4.tail [105,102]=false:=e4
       rw [if_neg (by rw [e4];decide)] at hn ⊢
       refine Tri.mono ((Z f (by omega)).blk ts4.tail d4 x5 h4 hI4 hx5 hn.bind) ?_
       rintro _ h6 ⟨x6,a6,n6,k6,rfl,hxh6,hX6⟩
       refine ⟨_,_,_,_,_,_,_,_,_,_,rfl,rfl,x6,⟨5,[],ad b3 0,1,1,a4,eb.2.length,k4,a6,n6,k6,_⟩,rfl,hx04.trans hxh6,hX6.map (k:=fun b=>S.mk 5 [] [eb.1] eb.2 b (hd ts).pos) fun b hb=>?_⟩
       obtain ⟨rfl,hb⟩:=hb
       exact RS_mk 5 [] _ 1 k4 k6 (At.put1 hxh2 hb3 hh3 (hxh4.trans hxh6) (g1.ext hxh6.only)) (g3.ext (RS_mono _ _ _) hxh6.only) (hb.ext (RS_mono _ _ _) (only_new hx04.dom))
   . have he:(bindR r4 fun eb ts' d=>
      if isT ts' [101,108,115,101] then
       if isT ts'.tail [105,102] then bindR (pIf f ts'.tail d) fun s ts' d=> .ok (.mk 5 [] [eb.1] eb.2 [s] (hd ts).pos,ts',d)
       else bindR (pBlock f ts'.tail d) fun b' ts' d=> .ok (.mk 5 [] [eb.1] eb.2 b' (hd ts).pos,ts',d)
      else (.ok (.mk 5 [] [eb.1] eb.2 [] (hd ts).pos,ts',d):R S))=mapR (fun eb=> .mk 5 [] [eb.1] eb.2 [] (hd ts).pos) r4:=by
      match r4,e3 with
      | .error y,_=>rfl
      | .ok (eb,ts4,d4),e3=>
        rw [bindR_ok,if_neg (by rw [show isT ts4 [101,108,115,101]=false from e3];decide)];rfl
     rw [he]
     refine ⟨rfl,x4,⟨5,[],ad b3 0,1,1,a4,n4,k4,none,0,0,_⟩,rfl,hx04,hP.map fun eb heb=>?_⟩
     obtain ⟨g1,rfl,g3⟩:=heb
     exact RS_mk 5 [] _ 1 k4 0 (At.put1 hxh2 hb3 hh3 hxh4 g1) g3 At.nil
 have e2:isT ts [105,102]=false:=e2
 refine Tri.mono (isw_r hx hI [119,104,105,108,101]) ?_
 rintro _ h ⟨rfl,rfl⟩
 refine ⟨_,rfl,br_split (fun e3=>?_) (fun e3=>?_)⟩
 . have e3:isT ts [119,104,105,108,101]=true:=e3
   rw [if_neg (by rw [isT_notK1 e3];decide),if_neg (by rw [e1];decide),if_neg (by rw [e2];decide),if_pos e3] at hn ⊢
   have he:pWhile f ts d=mapR (fun eb=> .mk 6 [] [eb.1] eb.2 [] (hd ts).pos) (pairR (pCond f ts.tail d) fun ts d=>pBlock f ts d):=by
    simp only [pWhile,mapR,pairR,bindR_bind,bindR_ok]
   rw [he] at hn ⊢
   refine Tri.mono (takew_r hx hI [119,104,105,108,101]) ?_
   rintro _ h ⟨rfl,x1,rfl,hx1⟩
   have hx1:=kw e3 rfl rfl hx1
   refine ⟨_,_,_,_,_,_,_,rfl,?_⟩
   have n1:=hn.map
   refine Tri.mono (cond_r (by omega) (.ok ((),ts.tail,d):R Unit) hI hx1 n1.bind) ?_
   rintro _ h2 ⟨x2,c2,rfl,hxh2,hX2⟩
   rw [bindR_ok] at hX2
   refine ⟨_,_,_,_,_,_,_,_,_,_,_,_,_,_,_,_,rfl,?_⟩
   intro b3 hb3 h3 hh3
   have hxh3:=Put.ext hh3 hb3
   have hx03:=hxh2.trans hxh3
   refine Tri.mono (blk_r (Z f (by omega)) (pCond f ts.tail d) (hI.ext hx03) hX2.1 n1.pair) ?_
   rintro _ h4 ⟨x4,a4,n4,k4,rfl,hxh4,hX4⟩
   have hP:XX K x4 (pairR (pCond f ts.tail d) fun ts d=>pBlock f ts d) fun eb=>RE plR 7 (only (New h) h4) eb.1 c2.l/\n4=eb.2.length/\At 6 (RS plR 7 6) (only (New h) h4) a4 eb.2:=
    hX2.pair hX4 fun e b he hb=>⟨he.ext (hxh3.trans hxh4).only,hb.1,hb.2.ext (RS_mono _ _ _) (only_new hx03.dom)⟩
   refine ⟨_,_,_,_,_,_,_,_,_,_,rfl,rfl,x4,⟨6,[],ad b3 0,1,1,a4,n4,k4,none,0,0,_⟩,rfl,hx03.trans hxh4,hP.map fun eb heb=>?_⟩
   obtain ⟨g1,rfl,g3⟩:=heb
   exact RS_mk 6 [] _ 1 k4 0 (At.put1 hxh2 hb3 hh3 hxh4 g1) g3 At.nil
 have e3:isT ts [119,104,105,108,101]=false:=e3
 refine Tri.mono (isw_r hx hI [114,101,116,117,114,110]) ?_
 rintro _ h ⟨rfl,rfl⟩
 refine ⟨_,rfl,br_split (fun e4=>?_) (fun e4=>?_)⟩
 . have e4:isT ts [114,101,116,117,114,110]=true:=e4
   rw [if_neg (by rw [isT_notK1 e4];decide),if_neg (by rw [e1];decide),if_neg (by rw [e2];decide),if_neg (by rw [e3];decide),if_pos e4] at hn ⊢
   unfold pRet at hn ⊢
   refine Tri.mono (takew_r hx hI [114,101,116,117,114,110]) ?_
   rintro _ h ⟨rfl,x1,rfl,hx1⟩
   have hx1:=kw e4 rfl rfl hx1
   refine ⟨_,_,_,_,_,_,_,rfl,?_⟩
   refine Tri.mono (isw_r hx1 hI [59]) ?_
   rintro _ h ⟨rfl,rfl⟩
   refine ⟨_,rfl,br_split (fun e5=>?_) (fun e5=>?_)⟩
   . have e5:isT ts.tail [59]=false:=by simpa [isTr] using e5
     rw [if_neg (by rw [e5];decide)] at hn ⊢
     have he:(bindR (pBin f 1 ts.tail d) fun e ts' d=>bindR (takeT [59] ts' d) fun _ ts' d=>(.ok (.mk 7 [] [e] [] [] (hd ts).pos,ts',d):R S))=mapR (fun e=> .mk 7 [] [e] [] [] (hd ts).pos) (thenR (pBin f 1 ts.tail d) fun ts d=>takeT [59] ts d):=by
      simp only [mapR,thenR,bindR_bind,bindR_ok]
     rw [he] at hn ⊢
     refine br_pos hx1.err0 ?_
     refine Tri.mono (Y.bin 1 ts.tail d x1 h (by decide) hI hx1 hn.map.bind) ?_
     rintro _ h4 ⟨x4,c4,rfl,hxh4,hX4⟩
     refine ⟨_,_,_,_,_,_,_,_,_,_,_,_,_,_,_,_,rfl,?_⟩
     intro b hb h5 hh
     have hxh5:=Put.ext hh hb
     refine Tri.mono (takew_r hX4.1 (hI.ext (hxh4.trans hxh5)) [59]) ?_
     rintro _ h5 ⟨rfl,x5,rfl,hx5⟩
     exact ⟨_,_,_,_,_,_,_,rfl,rfl,rfl,x5,⟨7,[],ad b 0,1,1,none,0,0,none,0,0,_⟩,rfl,hxh4.trans hxh5,(hX4.then hx5 fun _ h=>h).map fun e he=>RS_mk 7 [] _ 1 0 0 (At.put1 hxh4 hb hh (Ext.refl _) (he.ext hxh5.only)) At.nil At.nil⟩
   . have e5:isT ts.tail [59]=true:=by simpa [isTr] using e5
     rw [if_pos e5] at hn ⊢
     refine Tri.mono (takew_r hx1 hI [59]) ?_
     rintro _ h ⟨rfl,x3,rfl,hx3⟩
     rw [bindR_ok] at hx3
     exact ⟨_,_,_,_,_,_,_,rfl,rfl,rfl,x3,⟨7,[],none,0,0,none,0,0,none,0,0,_⟩,rfl,Ext.refl _,(XX.unit hx3).map (k:=fun _=>S.mk 7 [] [] [] [] (hd ts).pos) fun _ _=>RS_mk 7 [] _ 0 0 0 At.nil At.nil At.nil⟩
 have e4:isT ts [114,101,116,117,114,110]=false:=e4
 refine Tri.mono (isw_r hx hI [98,114,101,97,107]) ?_
 rintro _ h ⟨rfl,rfl⟩
 refine ⟨_,rfl,br_split (fun e5=>?_) (fun e5=>?_)⟩
 . have e5:isT ts [98,114,101,97,107]=true:=e5
   rw [if_neg (by rw [isT_notK1 e5];decide),if_neg (by rw [e1];decide),if_neg (by rw [e2];decide),if_neg (by rw [e3];decide),if_neg (by rw [e4];decide),if_pos e5] at hn ⊢
   refine Tri.mono (takew_r hx hI [98,114,101,97,107]) ?_
   rintro _ h ⟨rfl,x1,rfl,hx1⟩
   have hx1:=kw e5 rfl rfl hx1
   refine ⟨_,_,_,_,_,_,_,rfl,?_⟩
   refine Tri.mono (takew_r hx1 hI [59]) ?_
   rintro _ h ⟨rfl,x3,rfl,hx3⟩
   rw [bindR_ok] at hx3
   exact ⟨_,_,_,_,_,_,_,rfl,rfl,rfl,x3,⟨8,[],none,0,0,none,0,0,none,0,0,_⟩,rfl,Ext.refl _,(XX.unit hx3).map (k:=fun _=>S.mk 8 [] [] [] [] (hd ts).pos) fun _ _=>RS_mk 8 [] _ 0 0 0 At.nil At.nil At.nil⟩
 have e5:isT ts [98,114,101,97,107]=false:=e5
 refine Tri.mono (isw_r hx hI [99,111,110,116,105,110,117,101]) ?_
 rintro _ h ⟨rfl,rfl⟩
 refine ⟨_,rfl,br_split (fun e6=>?_) (fun e6=>?_)⟩
 . have e6:isT ts [99,111,110,116,105,110,117,101]=true:=e6
   rw [if_neg (by rw [isT_notK1 e6];decide),if_neg (by rw [e1];decide),if_neg (by rw [e2];decide),if_neg (by rw [e3];decide),if_neg (by rw [e4];decide),if_neg (by rw [e5];decide),if_pos e6] at hn ⊢
   refine Tri.mono (takew_r hx hI [99,111,110,116,105,110,117,101]) ?_
   rintro _ h ⟨rfl,x1,rfl,hx1⟩
   have hx1:=kw e6 rfl rfl hx1
   refine ⟨_,_,_,_,_,_,_,rfl,?_⟩
   refine Tri.mono (takew_r hx1 hI [59]) ?_
   rintro _ h ⟨rfl,x3,rfl,hx3⟩
   rw [bindR_ok] at hx3
   exact ⟨_,_,_,_,_,_,_,rfl,rfl,rfl,x3,⟨9,[],none,0,0,none,0,0,none,0,0,_⟩,rfl,Ext.refl _,(XX.unit hx3).map (k:=fun _=>S.mk 9 [] [] [] [] (hd ts).pos) fun _ _=>RS_mk 9 [] _ 0 0 0 At.nil At.nil At.nil⟩
 have e6:isT ts [99,111,110,116,105,110,117,101]=false:=e6
 refine Tri.mono (ident_r hx hI) ?_
 rintro _ h ⟨rfl,x1,nm,pos,rfl,hX1⟩
 rw [bindR_ok] at hX1
 refine ⟨_,_,_,_,_,_,_,_,_,rfl,?_⟩
 rcases (Bool.eq_false_or_eq_true (isK ts 1)).symm with nk | nk
 . -- no statement
   rw [if_neg (by rw [nk];decide),if_neg (by rw [e1];decide),if_neg (by rw [e2];decide),if_neg (by rw [e3];decide),if_neg (by rw [e4];decide),if_neg (by rw [e5];decide),if_neg (by rw [e6];decide)] at hn ⊢
   have hk':takeK 1 ts d= .error (30,(hd ts).pos):=by simp [takeK,nk]
   rw [hk'] at hX1
   have hx1:XS K x1 (.error (30,(hd ts).pos):R Unit):=hX1.1
   refine Tri.mono (isw_r hx1 hI [40]) ?_
   rintro _ h ⟨rfl,rfl⟩
   refine ⟨_,rfl,br_neg rfl ?_⟩
   refine Tri.mono (isw_r hx1 hI [91]) ?_
   rintro _ h ⟨rfl,rfl⟩
   refine ⟨_,rfl,br_neg rfl ?_⟩
   refine Tri.mono (takew_r hx1 hI [61]) ?_
   rintro _ h ⟨rfl,x2,rfl,hx2⟩
   have hx2:XS K x2 (.error (30,(hd ts).pos):R Unit):=hx2
   refine ⟨_,_,_,_,_,_,_,rfl,?_⟩
   refine Tri.mono (bin_er 10 1 (by omega) hx2 hI) ?_
   rintro _ h3 ⟨x3,c3,rfl,hxh3,hX3⟩
   have hx3:XS K x3 (.error (30,(hd ts).pos):R Unit):=hX3.1
   refine ⟨_,_,_,_,_,_,_,_,_,_,_,_,_,_,_,_,rfl,?_⟩
   intro b hb h4 hh
   have hxh4:=Put.ext hh hb
   refine Tri.mono (takew_r hx3 (hI.ext (hxh3.trans hxh4)) [59]) ?_
   rintro _ h4 ⟨rfl,x4,rfl,hx4⟩
   exact ⟨_,_,_,_,_,_,_,rfl,rfl,rfl,x4,⟨2,nm,ad b 0,1,1,none,0,0,none,0,0,_⟩,rfl,hxh3.trans hxh4,XX.er hx4⟩
 rw [if_pos nk] at hn ⊢
 have hk':takeK 1 ts d= .ok (hd ts,ts.tail,d):=by simp [takeK,nk]
 rw [hk'] at hX1
 have hx1:XS K x1 (.ok ((),ts.tail,d):R Unit):=hX1.1
 obtain ⟨rfl,_⟩:=hX1.2 _ _ _ rfl
 match f,hf5,Y,hn with
 | 0,hf5,Y,hn=>exact absurd (by unfold pNamed;rfl) hn
 | f+1,hf5,Y,hn=>
 have Y:=yok K f (by omega)
 rw [pNamed] at hn ⊢
 have only1:∀ {t u:Bytes},isT ts.tail t=true->u≠t->isT ts.tail u=false:=fun {t u} e hne=>by
  cases hu:isT ts.tail u with
  | false=>rfl
  | true=>
    simp only [isT,Bool.and_eq_true,beq_iff_eq] at e hu
    exact absurd (hu.2.symm.trans e.2) hne
 refine Tri.mono (isw_r hx1 hI [40]) ?_
 rintro _ h ⟨rfl,rfl⟩
 refine ⟨_,rfl,br_split (fun f1=>?_) (fun f1=>?_)⟩
 . have f1:isT ts.tail [40]=true:=f1
   rw [if_neg (by rw [only1 f1 (by decide)];decide),if_neg (by rw [only1 f1 (by decide)];decide)] at hn ⊢
   match f,hf5,hn with
   | 0,hf5,hn=>exact absurd (by unfold pCall;rfl) hn
   | f+1,hf5,hn=>
   rw [pCall_args] at hn ⊢
   have he:(bindR (mapR (fun l=> .mk 5 [] (hd ts).text 0 [] l (hd ts).pos) (pArgL f ts.tail d)) fun e ts' d=>bindR (takeT [59] ts' d) fun _ ts' d=>(.ok (.mk 4 [] [e] [] [] (hd ts).pos,ts',d):R S))=
    mapR (fun l=> .mk 4 [] [.mk 5 [] (hd ts).text 0 [] l (hd ts).pos] [] [] (hd ts).pos) (thenR (pArgL f ts.tail d) fun ts d=>takeT [59] ts d):=by simp only [mapR,thenR,bindR_bind,bindR_ok]
   rw [he] at hn ⊢
   refine Tri.mono ((yok K f (by omega)).args ts.tail d x1 h hI hx1 hn.map.bind) ?_
   rintro _ h2 ⟨x2,a,n,c,rfl,hxh2,hX2⟩
   refine ⟨_,_,_,_,_,_,_,_,_,_,rfl,?_⟩
   intro b hb h3 hh
   have hxh3:=Put.ext hh hb
   refine Tri.mono (takew_r hX2.1 (hI.ext (hxh2.trans hxh3)) [59]) ?_
   rintro _ h3 ⟨rfl,x3,rfl,hx3⟩
   refine ⟨_,_,_,_,_,_,_,rfl,rfl,rfl,x3,⟨4,[],ad b 0,1,1,none,0,0,none,0,0,_⟩,rfl,hxh2.trans hxh3,(hX2.then hx3 fun _ h=>h).map fun l hl=>?_⟩
   obtain ⟨rfl,hl⟩:=hl
   exact RS_mk 4 [] _ 1 0 0 (At.put1 hxh2 hb hh (Ext.refl _) (RE_iff.2 ⟨a,c,rfl,hl.ext (RE_mono _ _) hxh3.only⟩)) At.nil At.nil
 have f1:isT ts.tail [40]=false:=f1
 refine Tri.mono (isw_r hx1 hI [91]) ?_
 rintro _ h ⟨rfl,rfl⟩
 refine ⟨_,rfl,br_split (fun f2=>?_) (fun f2=>?_)⟩
 . have f2:isT ts.tail [91]=true:=f2
   rw [if_neg (by rw [only1 f2 (by decide)];decide),if_pos f2] at hn ⊢
   have he:(bindR (takeT [91] ts.tail d) fun _ ts' d=>bindR (pBin f 1 ts' d) fun i ts' d=>bindR (takeT [93] ts' d) fun _ ts' d=>bindR (takeT [61] ts' d) fun _ ts' d=>
    bindR (pBin f 1 ts' d) fun e ts' d=>bindR (takeT [59] ts' d) fun _ ts' d=>(.ok (.mk 3 (hd ts).text [i,e] [] [] (hd ts).pos,ts',d):R S))=
    mapR (fun ie=> .mk 3 (hd ts).text [ie.1,ie.2] [] [] (hd ts).pos) (thenR (pairR (thenR (thenR (bindR (takeT [91] ts.tail d) fun _ ts d=>pBin f 1 ts d) fun ts d=>takeT [93] ts d) fun ts d=>takeT [61] ts d) fun ts d=>pBin f 1 ts d) fun ts d=>takeT [59] ts d):=by
     simp only [mapR,thenR,pairR,bindR_bind,bindR_ok]
   rw [he] at hn ⊢
   refine Tri.mono (takew_r hx1 hI [91]) ?_
   rintro _ h ⟨rfl,x2,rfl,hx2⟩
   rw [bindR_ok] at hx2
   refine ⟨_,_,_,_,_,_,_,rfl,?_⟩
   have np:=hn.map.bind
   refine Tri.mono (bin_r Y 1 (by decide) _ hI hx2 np.bind.bind.bind) ?_
   rintro _ h3 ⟨x3,c3,rfl,hxh3,hX3⟩
   refine ⟨_,_,_,_,_,_,_,_,_,_,_,_,_,_,_,_,rfl,?_⟩
   intro b8 hb8 h4 hh4
   have hxh4:=Put.ext hh4 hb8
   have hx04:=hxh3.trans hxh4
   have hI4:=hI.ext hx04
   refine Tri.mono (takew_r hX3.1 hI4 [93]) ?_
   rintro _ h4 ⟨rfl,x5,rfl,hx5⟩
   have hX5:=hX3.then hx5 fun _ h=>h
   refine ⟨_,_,_,_,_,_,_,rfl,?_⟩
   refine Tri.mono (takew_r hX5.1 hI4 [61]) ?_
   rintro _ h4 ⟨rfl,x6,rfl,hx6⟩
   have hX6:=hX5.then hx6 fun _ h=>h
   refine ⟨_,_,_,_,_,_,_,rfl,?_⟩
   refine Tri.mono (bin_r Y 1 (by decide) _ hI4 hX6.1 np.pair) ?_
   rintro _ h7 ⟨x7,c7,rfl,hxh7,hX7⟩
   refine ⟨_,_,_,_,_,_,_,_,_,_,_,_,_,_,_,_,rfl,?_⟩
   intro b9 hb9 h8 hh8
   have hx07:=hx04.trans hxh7
   have hM7:LM 186 7 h h7 (ad b8 0) 1 1 [c3.l]:=LM.one rfl hxh3 hb8 hh4 hxh7
   refine Raw.mono (LM.append (h0:=h) (cs:=c7.l) und172 elem186 rfl rfl rfl rfl rfl hM7 hb9 hh8 rfl c7.one (by omega) hx07.dom) ?_
   rintro _ h9 ⟨b10,cap10,rfl,hk10,hd10,hn10,hq10,hM10,hR10⟩
   have hx09:Ext h h9:=fun q o hq=>hk10 q o (ne_of hq) (hx07 q o hq)
   have hP:XX K x7 (pairR (thenR (thenR (bindR (takeT [91] ts.tail d) fun _ ts d=>pBin f 1 ts d) fun ts d=>takeT [93] ts d) fun ts d=>takeT [61] ts d) fun ts d=>pBin f 1 ts d) fun ie=>At 7 (RE plR 7) (only (New h) h9) (ad b10 0) [ie.1,ie.2]:=by
    refine hX6.pair hX7 fun i e hi he=>hM10.at (RE_mono _ _) (hR10 (RE_mono _ _) (xs:=[i]) ⟨rfl,fun j y cs hy hcs=>?_⟩ (he.ext ?_))
    . match j,hy,hcs with
      | 0,hy,hcs=>
        simp at hy hcs;subst hy;subst hcs
        refine hi.ext (only_ext fun k o hk ho=>⟨⟨hk,fun e=>?_⟩,hxh7 _ _ (hxh4 _ _ ho)⟩)
        injection e with e;injection e with e;subst e
        rw [hb8] at ho;cases ho
      | j+1,hy,hcs=>simp at hy
    . refine only_ext fun k o hk ho=>⟨⟨hx04.dom k hk,fun e=>?_⟩,ho⟩
      injection e with e;injection e with e;subst e
      rw [New,Put.at hh4] at hk;cases hk
   refine ⟨_,_,_,rfl,?_⟩
   refine Tri.mono (takew_r hP.1 (hI.ext hx09) [59]) ?_
   rintro _ h9 ⟨rfl,x8,rfl,hx8⟩
   exact ⟨_,_,_,_,_,_,_,rfl,rfl,rfl,x8,⟨3,(hd ts).text,ad b10 0,2,cap10,none,0,0,none,0,0,_⟩,rfl,hx09,(hP.then hx8 fun _ h=>h).map fun ie hie=>RS_mk 3 _ _ cap10 0 0 hie At.nil At.nil⟩
 have f2:isT ts.tail [91]=false:=f2
 refine Tri.mono (takew_r hx1 hI [61]) ?_
 rintro _ h ⟨rfl,x2,rfl,hx2⟩
 rw [bindR_ok] at hx2
 refine ⟨_,_,_,_,_,_,_,rfl,?_⟩
 rcases (Bool.eq_false_or_eq_true (isT ts.tail [61])).symm with f3 | f3
 . rw [if_neg (by rw [f3];decide),if_neg (by rw [f2];decide)] at hn ⊢
   match f,hf5,Y,hn with
   | 0,hf5,Y,hn=>exact absurd (by unfold pCall;rfl) hn
   | f+1,hf5,Y,hn=>
   have h61:takeT [61] ts.tail d= .error (30,(hd ts.tail).pos):=by simp [takeT,f3]
   have h40:takeT [40] ts.tail d= .error (30,(hd ts.tail).pos):=by simp [takeT,f1]
   rw [h61] at hx2
   rw [pCall_succ,h40]
   refine Tri.mono (bin_er 10 1 (by omega) hx2 hI) ?_
   rintro _ h3 ⟨x3,c3,rfl,hxh3,hX3⟩
   have hx3:XS K x3 (.error (30,(hd ts.tail).pos):R Unit):=hX3.1
   refine ⟨_,_,_,_,_,_,_,_,_,_,_,_,_,_,_,_,rfl,?_⟩
   intro b hb h4 hh
   have hxh4:=Put.ext hh hb
   refine Tri.mono (takew_r hx3 (hI.ext (hxh3.trans hxh4)) [59]) ?_
   rintro _ h4 ⟨rfl,x4,rfl,hx4⟩
   exact ⟨_,_,_,_,_,_,_,rfl,rfl,rfl,x4,⟨2,(hd ts).text,ad b 0,1,1,none,0,0,none,0,0,_⟩,rfl,hxh3.trans hxh4,XX.er hx4⟩
 . rw [if_pos f3] at hn ⊢
   have he:(bindR (takeT [61] ts.tail d) fun _ ts' d=>bindR (pBin f 1 ts' d) fun e ts' d=>bindR (takeT [59] ts' d) fun _ ts' d=>(.ok (.mk 2 (hd ts).text [e] [] [] (hd ts).pos,ts',d):R S))=
    mapR (fun e=> .mk 2 (hd ts).text [e] [] [] (hd ts).pos) (thenR (bindR (takeT [61] ts.tail d) fun _ ts d=>pBin f 1 ts d) fun ts d=>takeT [59] ts d):=by simp only [mapR,thenR,bindR_bind,bindR_ok]
   rw [he] at hn ⊢
   refine Tri.mono (bin_r Y 1 (by decide) _ hI hx2 hn.map.then.bind) ?_
   rintro _ h4 ⟨x4,c4,rfl,hxh4,hX4⟩
   refine ⟨_,_,_,_,_,_,_,_,_,_,_,_,_,_,_,_,rfl,?_⟩
   intro b hb h5 hh
   have hxh5:=Put.ext hh hb
   refine Tri.mono (takew_r hX4.1 (hI.ext (hxh4.trans hxh5)) [59]) ?_
   rintro _ h5 ⟨rfl,x5,rfl,hx5⟩
   exact ⟨_,_,_,_,_,_,_,rfl,rfl,rfl,x5,⟨2,(hd ts).text,ad b 0,1,1,none,0,0,none,0,0,_⟩,rfl,hxh4.trans hxh5,(hX4.then hx5 fun _ h=>h).map fun e he=>RS_mk 2 _ _ 1 0 0 (At.put1 hxh4 hb hh (Ext.refl _) (he.ext hxh5.only)) At.nil At.nil⟩
theorem zok (K:QK) (f:Nat) (hf:f<=5000000):ZOk K f:=by
 induction f using Nat.strongRecOn with
 | _ f ih=>
   match f,ih,hf with
   | 0,ih,hf=>exact ⟨fun ts d x h _ _ hn=>absurd (by unfold pBlock;rfl) hn,fun ts d x h _ _ hn=>absurd (by unfold pStmt;rfl) hn⟩
   | f+1,ih,hf=>
     have Z:∀ g,g<=f->ZOk K g:=fun g hg=>ih g (by omega) (by omega)
     exact ⟨fun ts d x h hI hx hn=>blockr_ok Z (by omega) hI hx hn,fun ts d x h hI hx hn=>stmtr_ok Z (by omega) hI hx hn⟩
end
end Go.Proofs.D
namespace Go.Proofs.D
open Go Go.Den Go.Sx
set_option maxRecDepth 100000
attribute [local irreducible] IntKind.wrap Tri
theorem elem95:ElemT 95 4:=⟨_,_,rfl,rfl,rfl,rfl,by decide⟩
theorem elem103:ElemT 103 4:=⟨_,_,rfl,rfl,rfl,rfl,by decide⟩
theorem und30:Tryz.prog.underlying 30=some (.slice 95):=rfl
theorem und31:Tryz.prog.underlying 31=some (.slice 103):=rfl
def ParI (K:QK) (F:Nat) (fin:R Pg) (h:PHeap) (m:Nat) (x:XC) (ga:Option Addr) (gn gc:Nat) (fa:Option Addr) (fn fc:Nat) (h':PHeap):Prop:=
 ∃ (r':R Pg) (cG cF:List (List Value)),gn+fn+m<=F/\Ext h h'/\LM 95 4 h h' ga gn gc cG/\LM 103 4 h h' fa fn fc cF/\(∀ b,fa=ad b 0->ga≠ad b 0)/\
   XX K x r' (fun p=>LR (RG plR) h h' ga cG p.globals/\EL (RF plR 7 6) h h' fa ga cF p.funcs)/\(bindR r' fun p ts d=>pProg m p ts d)=fin
section
variable {K : QK} {F : Nat} {fin : R Pg} {h h1 h2 h3 : PHeap} {m : Nat} {x x2 : XC} {ga : Option Addr} {gn gc : Nat} {fa : Option Addr} {fn fc : Nat} {cG cF : List (List Value)} {p : Pg} {ts : List Tok} {d : Int}
theorem ParI.addG (hm:gn+fn+(m+1)<=F) (hF:F<=1000000) (hx:Ext h h1) (hMG:LM 95 4 h h1 ga gn gc cG) (hMF:LM 103 4 h h1 fa fn fc cF) (hdis:∀ b,fa=ad b 0->ga≠ad b 0) (hLG:LR (RG plR) h h1 ga cG p.globals) (hLF:EL (RF plR 7 6) h h1 fa ga cF p.funcs)
 {nm:List UInt8} {sz vl pos:Int} (hX:XX K x2 (pGlobal ts d) fun g=>RG plR h1 g [vS nm,vI sz,vI vl,vI pos]) (hf:(bindR (pGlobal ts d) fun g ts d=>pProg m ⟨p.globals++[g],p.funcs⟩ ts d)=fin)
 {b:Nat} (hb:h1 b=none) (hh:h2=h1.put b (.cells ⟨[vS nm,vI sz,vI vl,vI pos]⟩ 95)) {ρ:Operand->Value} {cl:Call} {u v:Operand} {ty:TypeId} (hcl:cl.callee= .builtin .append) (hca:cl.args=#[u,v]) (hts:cl.argTypes=#[30,30]) (hu:ρ u=vL ga gn gc) (hv:ρ v=vL (ad b 0) 1 1):
 Raw Tryz.prog (execOp ρ (mkO (.call cl) ty)) h2 fun w h3=>∃ sa sn sc,w=vL sa sn sc/\ParI K F fin h m x2 sa sn sc fa fn fc h3:=by
 refine Raw.mono (LM.append (h0:=h) (cs:=[vS nm,vI sz,vI vl,vI pos]) und30 elem95 hcl hca hts hu hv hMG hb hh rfl rfl (by omega) hx.dom) ?_
 rintro _ h3 ⟨b3,cap3,rfl,hk3,hd3,hn3,hq3,hM3,hR3⟩
 have hap:=append_apart hR3
 refine ⟨_,_,_,rfl,mapR (fun g=>⟨p.globals++[g],p.funcs⟩) (pGlobal ts d),cG++[[vS nm,vI sz,vI vl,vI pos]],cF,by omega,fun q o hq=>hk3 q o (ne_of hq) (hx q o hq),hM3,?_,?_,?_,?_⟩
 . refine hMF.keep fun q hq=>?_
   have g:=hMF.own q hq
   cases ho:h1 q with
   | none=>exact absurd ho g.2
   | some o=>exact (hap q o g.1 (hdis q hq) ho).2
 . intro q hq
   have g:=hMF.own q hq
   cases ho:h1 q with
   | none=>exact absurd ho g.2
   | some o=>exact (hap q o g.1 (hdis q hq) ho).1
 . refine hX.map fun g hg=>⟨hR3 (RG_mono _) hLG hg,?_⟩
   exact hLF.mono (RF_mono _ _ _) fun q o g1 g2 g3 g4=>⟨g2,hap q o g1 g3 g4⟩
 . rw [←hf];simp only [mapR,bindR_bind,bindR_ok]
theorem ParI.addF (hm:gn+fn+(m+1)<=F) (hF:F<=1000000) (hx:Ext h h1) (hMG:LM 95 4 h h1 ga gn gc cG) (hMF:LM 103 4 h h1 fa fn fc cF) (hdis:∀ b,fa=ad b 0->ga≠ad b 0) (hLG:LR (RG plR) h h1 ga cG p.globals) (hLF:EL (RF plR 7 6) h h1 fa ga cF p.funcs)
 {cs:List Value} (hcs:cs.length=4) (hone:allOne cs=true) {r:R Go.Sx.F} (hx12:Ext h1 h2) (hX:XX K x2 r fun g=>RF plR 7 6 (only (New h1) h2) g cs) (hf:(bindR r fun g ts d=>pProg m ⟨p.globals,p.funcs++[g]⟩ ts d)=fin)
 {b:Nat} (hb:h2 b=none) (hh:h3=h2.put b (.cells ⟨cs⟩ 103)) {ρ:Operand->Value} {cl:Call} {u v:Operand} {ty:TypeId} (hcl:cl.callee= .builtin .append) (hca:cl.args=#[u,v]) (hts:cl.argTypes=#[31,31]) (hu:ρ u=vL fa fn fc) (hv:ρ v=vL (ad b 0) 1 1):
 Raw Tryz.prog (execOp ρ (mkO (.call cl) ty)) h3 fun w h4=>∃ sa sn sc,w=vL sa sn sc/\ParI K F fin h m x2 ga gn gc sa sn sc h4:=by
 have hx2':=hx.trans hx12
 have hMG2:=hMG.ext hx12
 have hMF2:=hMF.ext hx12
 have hdis':∀ b,ga=ad b 0->fa≠ad b 0:=fun b g1 g2=>hdis b g2 g1
 refine Raw.mono (LM.append (h0:=h) (cs:=cs) und31 elem103 hcl hca hts hu hv hMF2 hb hh hcs hone (by omega) hx2'.dom) ?_
 rintro _ h4 ⟨b4,cap4,rfl,hk4,hd4,hn4,hq4,hM4,hR4⟩
 have hap:=append_apart hR4
 refine ⟨_,_,_,rfl,mapR (fun g=>⟨p.globals,p.funcs++[g]⟩) r,cG,cF++[cs],by omega,fun q o hq=>hk4 q o (ne_of hq) (hx2' q o hq),?_,hM4,?_,?_,?_⟩
 . refine hMG2.keep fun q hq=>?_
   have g:=hMG2.own q hq
   cases ho:h2 q with
   | none=>exact absurd ho g.2
   | some o=>exact (hap q o g.1 (hdis' q hq) ho).2
 . intro q hq hg
   have g:=hMG2.own q hg
   cases ho:h2 q with
   | none=>exact absurd ho g.2
   | some o=>exact (hap q o g.1 (hdis' q hg) ho).1 hq
 . refine hX.map fun g hg=>⟨⟨hLG.1,hLG.2⟩,?_⟩
   have hE2:=hLF.mono (RF_mono _ _ _) (h':=h2) (b:=fa) (b':=ga) fun q o g1 g2 g3 g4=>⟨g2,g3,hx12 q o g4⟩
   refine (hE2.snoc (x:=g) (cs:=cs) ((RF_mono _ _ _).ap ?_ hg)).mono (RF_mono _ _ _) fun q o g1 g2 g3 g4=>⟨(hap q o g1 g2 g4).1,g3,(hap q o g1 g2 g4).2⟩
   exact only_ext fun q o hq ho=>⟨⟨hx.dom q hq,fun e=>(hMF.own q e).2 hq,fun e=>(hMG.own q e).2 hq⟩,ho⟩
 . rw [←hf];simp only [mapR,bindR_bind,bindR_ok]
end
def cont2 (m:Nat) (l:List Bytes) (ts:List Tok) (d:Int):R (List Bytes):=
 thenR (if l=[] then pParams m ts d else pMoreP m l ts d) fun ts d=>takeT [41] ts d
def ParseR (s:Bytes) (h:PHeap) (v:Value) (h':PHeap):Prop:=
 Ext h h'/\match parseS s with
  | .error e=>v=vT [vA [vL none 0 0,vL none 0 0],vI e.2,vI e.1]
  | .ok p=>∃ ga gc fa fc,v=vT [vA [vL ga p.globals.length gc,vL fa p.funcs.length fc],vI 0,vI 0]/\At 4 (RG plR) (only (New h) h') ga p.globals/\At 4 (RF plR 7 6) (only (New h) h') fa p.funcs
theorem pGlobal_eq (ts:List Tok) (d:Int):pGlobal ts d=bindR (bindR (takeT [118,97,114] ts d) fun _ ts d=>takeK 1 ts d) fun t ts d=>
 if isT ts [61] then mapR (fun n:Tok=>(⟨t.text,0,n.value,t.pos⟩:G)) (thenR (bindR (takeT [61] ts d) fun _ ts d=>takeK 2 ts d) fun ts d=>takeT [59] ts d)
 else if isT ts [91] then mapR (fun n:Tok=>(⟨t.text,n.value,0,t.pos⟩:G)) (thenR (thenR (bindR (takeT [91] ts d) fun _ ts d=>takeK 2 ts d) fun ts d=>takeT [93] ts d) fun ts d=>takeT [59] ts d)
 else bindR (takeT [59] ts d) fun _ ts d=> .ok (⟨t.text,0,0,t.pos⟩,ts,d):=by
 simp only [pGlobal,mapR,thenR,bindR_bind,bindR_ok]
theorem pFunc_eq (f:Nat) (ts:List Tok) (d:Int):pFunc f ts d=mapR (fun q:(Tok×List Bytes)×List S=>(⟨q.1.1.text,q.1.2,q.2,q.1.1.pos⟩:F)) (pairR (pairR (bindR (takeT [102,117,110,99] ts d) fun _ ts d=>takeK 1 ts d) fun ts d=>bindR (takeT [40] ts d) fun _ ts d=>cont2 f [] ts d) fun ts d=>pBlock f ts d):=by
 simp only [pFunc,cont2,if_true,mapR,pairR,thenR,bindR_bind,bindR_ok]
theorem parse_r (s:Bytes) (h:PHeap):Tri Tryz.prog 15 [vS s] h (ParseR s h):=by
 refine T15 ?_
 unfold R15
 refine Tri.mono (scan_r s h) ?_
 rintro v h1 ⟨hx1,hv⟩
 have hso:=scanS_ok s
 cases hsc:scanS s with
 | error e=>
   rw [hsc] at hv
   have he:=hso.1 e hsc
   refine ⟨_,_,_,_,_,hv,br_pos ?_ ⟨hx1,?_⟩⟩
   . have:(e.1:Int)≠0:=by omega
     simpa using this
   . simp only [parseS,hsc]
 | ok ts=>
   rw [hsc] at hv
   obtain ⟨tb,tc,rfl,htb,hT⟩:=hv
   obtain ⟨hend,hlen,hwf⟩:=hso.2 ts hsc
   refine ⟨_,_,_,_,_,rfl,br_neg rfl ?_⟩
   have hI:QK.In ⟨tb,tc,ts⟩ h1:=⟨hT.ext RT_mono only_sub,by simp only;omega⟩
   have hpos:=len_pos hend
   have hx0:XS ⟨tb,tc,ts⟩ ⟨ad tb 0,ts.length,tc,0,0,0,0⟩ (.ok ((⟨[],[]⟩:Pg),ts,0)):=
    ⟨⟨rfl,rfl,rfl⟩,0,rfl,by simp only;omega,rfl,rfl,hend,rfl,by omega,by omega⟩
   have hfn:=(pProg_fn (20 * ts.length+40) ⟨[],[]⟩ ts 0 (by omega)).1
   have hpar:parseS s=outP (pProg (20 * ts.length+40) ⟨[],[]⟩ ts 0):=by
    unfold parseS;rw [hsc];rfl
   generalize hF:20 * ts.length+40=F at *
   have hFb:F<=100000:=by omega
   clear hF hwf hT
   generalize hfin:pProg F ⟨[],[]⟩ ts 0=fin at *
   have hn:NF fin:=hfn 0
   refine ⟨fun m a1 a2 a3 a4 a5 a6 a7 ga gn gc fa fn fc h'=>ParI ⟨tb,tc,ts⟩ F fin h1 m ⟨a1,a2,a3,a4,a5,a6,a7⟩ ga gn gc fa fn fc h',
    ⟨F, .ok (⟨[],[]⟩,ts,0),[],[],by omega,Ext.refl _,LM.nil,LM.nil,(fun b e=>by cases e),⟨hx0,fun y ts d h=>by cases h;exact ⟨LR.nil,EL.nil⟩⟩,hfin⟩,?_⟩
   rintro m a1 a2 a3 a4 a5 a6 a7 ga gn gc fa fn fc h2 ⟨r',cG,cF,hm,hx2,hMG,hMF,hdis,hX,hf⟩
   have hI2:=hI.ext hx2
   have he0:=hX.1.err0
   have hxE:Ext h h2:=hx1.trans hx2
   refine br_split (fun e=>?_) (fun e=>?_)
   . obtain ⟨p,ts2,d2,rfl⟩:=okR_true (he0.symm.trans e)
     rw [bindR_ok] at hf
     obtain ⟨hLG,hLF⟩:=hX.2 _ _ _ rfl
     refine Tri.mono (kind_r hX.1 hI2 0) ?_
     rintro _ h2 ⟨rfl,rfl⟩
     refine ⟨_,rfl,?_⟩
     match m,hf,hm with
     | 0,hf,hm=>exact absurd hf.symm hn
     | m+1,hf,hm=>
     rw [pProg_succ] at hf
     refine br_split (fun e0=>?_) (fun e0=>?_)
     . have e0:isK ts2 0=false:=by simpa [isKr] using e0
       rw [if_neg (by rw [e0];decide)] at hf
       refine Tri.mono (isw_r hX.1 hI2 [118,97,114]) ?_
       rintro _ h2 ⟨rfl,rfl⟩
       refine ⟨_,rfl,br_split (fun e1=>?_) (fun e1=>?_)⟩
       . have e1:isT ts2 [118,97,114]=true:=e1
         rw [if_pos e1] at hf
         refine Tri.mono (takew_r hX.1 hI2 [118,97,114]) ?_
         rintro _ h2 ⟨rfl,x1,rfl,hx1'⟩
         rw [bindR_ok] at hx1'
         refine ⟨_,_,_,_,_,_,_,rfl,?_⟩
         refine Tri.mono (ident_r hx1' hI2) ?_
         rintro _ h2 ⟨rfl,x3,nm,pos,rfl,hX3⟩
         refine ⟨_,_,_,_,_,_,_,_,_,rfl,?_⟩
         have hG:=pGlobal_eq ts2 d2
         generalize (bindR (takeT [118,97,114] ts2 d2) fun _ ts d=>takeK 1 ts d)=r3 at *
         have fine:∀ {sz vl:Int} {x6:XC},XX ⟨tb,tc,ts⟩ x6 (pGlobal ts2 d2) (fun g=>RG plR h2 g [vS nm,vI sz,vI vl,vI pos])->∀ (b1:Nat),h2 b1=none->∀ (h11:PHeap),h11=h2.put b1 (.cells ⟨[vS nm,vI sz,vI vl,vI pos]⟩ 95)->
          Raw Tryz.prog (execOp (rho [(71,vL ga gn gc),(73,vL (ad b1 0) 1 1)]) (mkO o15_13 30)) h11 fun v_10 h_12=>
          ∃ (sa2:Option Addr) (sn2 sc2:Nat),v_10=vL sa2 sn2 sc2/\
          ∃ (m3:Nat),m3 < m+1/\ParI ⟨tb,tc,ts⟩ F fin h1 m3 x6 sa2 sn2 sc2 fa fn fc h_12/\
          ([vL none 0 0,vL none 0 0]:List Value)=([vL none 0 0,vL none 0 0]:List Value)/\True:=by
          intro sz vl x6 hX6 b1 hb1 h11 hh11
          refine Raw.mono (ParI.addG (x2:=x6) hm (by omega) hx2 hMG hMF hdis hLG hLF hX6 hf hb1 hh11 rfl rfl rfl rfl rfl) ?_
          rintro _ h12 ⟨sa,sn,sc,rfl,hP⟩
          exact ⟨_,_,_,rfl,m,by omega,hP,rfl,trivial⟩
         refine Tri.mono (isw_r hX3.1 hI2 [61]) ?_
         rintro _ h2 ⟨rfl,rfl⟩
         refine ⟨_,rfl,br_split (fun e2=>?_) (fun e2=>?_)⟩
         . obtain ⟨t3,ts3,d3,rfl,q3⟩:=isTr_true e2
           rw [bindR_ok,if_pos q3] at hG
           obtain ⟨rfl,rfl⟩:=hX3.2 _ _ _ rfl
           refine Tri.mono (takew_r hX3.1 hI2 [61]) ?_
           rintro _ h2 ⟨rfl,x4,rfl,hx4⟩
           rw [bindR_ok] at hx4
           refine ⟨_,_,_,_,_,_,_,rfl,?_⟩
           refine Tri.mono (num_r hx4 hI2) ?_
           rintro _ h2 ⟨rfl,x5,n5,rfl,hX5⟩
           refine ⟨_,_,_,_,_,_,_,_,rfl,?_⟩
           refine Tri.mono (takew_r hX5.1 hI2 [59]) ?_
           rintro _ h2 ⟨rfl,x6,rfl,hx6⟩
           refine ⟨_,_,_,_,_,_,_,rfl,fine (x6:=x6) ?_⟩
           rw [hG]
           exact (hX5.then hx6 fun _ h=>h).map fun n hn=>by subst hn;rfl
         refine Tri.mono (isw_r hX3.1 hI2 [91]) ?_
         rintro _ h2 ⟨rfl,rfl⟩
         refine ⟨_,rfl,br_split (fun e3=>?_) (fun e3=>?_)⟩
         . obtain ⟨t3,ts3,d3,rfl,q3⟩:=isTr_true e3
           rw [bindR_ok,if_neg (by rw [show isT ts3 [61]=false from e2];decide),if_pos q3] at hG
           obtain ⟨rfl,rfl⟩:=hX3.2 _ _ _ rfl
           refine Tri.mono (takew_r hX3.1 hI2 [91]) ?_
           rintro _ h2 ⟨rfl,x4,rfl,hx4⟩
           rw [bindR_ok] at hx4
           refine ⟨_,_,_,_,_,_,_,rfl,?_⟩
           refine Tri.mono (num_r hx4 hI2) ?_
           rintro _ h2 ⟨rfl,x5,n5,rfl,hX5⟩
           refine ⟨_,_,_,_,_,_,_,_,rfl,?_⟩
           refine Tri.mono (takew_r hX5.1 hI2 [93]) ?_
           rintro _ h2 ⟨rfl,x6,rfl,hx6⟩
           have hX6:=hX5.then hx6 fun _ h=>h
           refine ⟨_,_,_,_,_,_,_,rfl,?_⟩
           refine Tri.mono (takew_r hX6.1 hI2 [59]) ?_
           rintro _ h2 ⟨rfl,x7,rfl,hx7⟩
           refine ⟨_,_,_,_,_,_,_,rfl,fine (x6:=x7) ?_⟩
           rw [hG]
           exact (hX6.then hx7 fun _ h=>h).map fun n hn=>by subst hn;rfl
         . refine Tri.mono (takew_r hX3.1 hI2 [59]) ?_
           rintro _ h2 ⟨rfl,x7,rfl,hx7⟩
           refine ⟨_,_,_,_,_,_,_,rfl,fine (x6:=x7) ?_⟩
           have hG':pGlobal ts2 d2=mapR (fun t:Tok=>(⟨t.text,0,0,t.pos⟩:G)) (thenR r3 fun ts d=>takeT [59] ts d):=by
            rw [hG]
            match r3,e2,e3 with
            | .error y,_,_=>rfl
            | .ok (t3,ts3,d3),e2,e3=>
              rw [bindR_ok,if_neg (by rw [show isT ts3 [61]=false from e2];decide),if_neg (by rw [show isT ts3 [91]=false from e3];decide)]
              simp only [mapR,thenR,bindR_bind,bindR_ok]
           rw [hG']
           exact (hX3.then hx7 fun _ h=>h).map fun t ht=>by obtain ⟨rfl,rfl⟩:=ht;rfl
       . have e1:isT ts2 [118,97,114]=false:=e1
         rw [if_neg (by rw [e1];decide)] at hf
         have nF:NF (pFunc m ts2 d2):=by rw [←hf] at hn;exact hn.bind
         rw [pFunc_eq] at hf nF
         have nP:=nF.map
         refine Tri.mono (takew_r hX.1 hI2 [102,117,110,99]) ?_
         rintro _ h2 ⟨rfl,x1,rfl,hx1'⟩
         rw [bindR_ok] at hx1'
         refine ⟨_,_,_,_,_,_,_,rfl,?_⟩
         refine Tri.mono (ident_r hx1' hI2) ?_
         rintro _ h2 ⟨rfl,x3,nm,pos,rfl,hX3⟩
         refine ⟨_,_,_,_,_,_,_,_,_,rfl,?_⟩
         generalize (bindR (takeT [102,117,110,99] ts2 d2) fun _ ts d=>takeK 1 ts d)=r3 at *
         refine Tri.mono (takew_r hX3.1 hI2 [40]) ?_
         rintro _ h2 ⟨rfl,x4,rfl,hx4⟩
         refine ⟨_,_,_,_,_,_,_,rfl,?_⟩
         have hc2:(bindR r3 fun _ ts d=>bindR (takeT [40] ts d) fun _ ts d=>cont2 m [] ts d)=bindR (bindR r3 fun _ ts d=>takeT [40] ts d) fun _ ts d=>cont2 m [] ts d:=by rw [bindR_bind]
         have n2:NF (bindR r3 fun _ ts d=>bindR (takeT [40] ts d) fun _ ts d=>cont2 m [] ts d):=nP.bind.pair
         generalize (bindR r3 fun _ ts d=>takeT [40] ts d)=r4 at *
         generalize hfe:(bindR r3 fun _ ts d=>bindR (takeT [40] ts d) fun _ ts d=>cont2 m [] ts d)=fin2 at *
         have hpure:XX ⟨tb,tc,ts⟩ x4 (mapR (fun _=>([]:List Bytes)) r4) (fun l=>LR RStr h2 h2 none [] l):=(XX.unit hx4).map fun _ _=>LR.nil
         have rest:∀ {x5:XC} {pa:Option Addr} {pn pc:Nat} {h6:PHeap},okN pa pn pc->Ext h2 h6->XX ⟨tb,tc,ts⟩ x5 fin2 (fun l=>pn=l.length/\At 1 RStr (only (New h2) h6) pa l)->
          Tri Tryz.prog 53 [vA x5.l] h6 fun v_29 h_36=>
          ∃ (Ta20:Option Addr) (Tn20 Tc20:Nat) (I_22 Open20 Err20 Bad20:Int) (sa7:Option Addr) (sn7 sc7:Nat),v_29=vT [vA [vL Ta20 Tn20 Tc20,vI I_22,vI Open20,vI Err20,vI Bad20],vL sa7 sn7 sc7]/\
          ∀ (b6:Nat),h_36 b6=none->∀ (h_37:PHeap),h_37=h_36.put b6 (.cells ⟨[vS nm,vL pa pn pc,vL sa7 sn7 sc7,vI pos]⟩ 103)->
          Raw Tryz.prog (execOp (rho [(123,vL fa fn fc),(125,vL (ad b6 0) 1 1)]) (mkO o15_26 31)) h_37 fun v_30 h_38=>
          ∃ (sa8:Option Addr) (sn8 sc8:Nat),v_30=vL sa8 sn8 sc8/\
          ∃ (m10:Nat),m10 < m+1/\ParI ⟨tb,tc,ts⟩ F fin h1 m10 ⟨Ta20,Tn20,Tc20,I_22,Open20,Err20,Bad20⟩ ga gn gc sa8 sn8 sc8 h_38/\
          ([vL none 0 0,vL none 0 0]:List Value)=([vL none 0 0,vL none 0 0]:List Value)/\True:=by
          intro x5 pa pn pc h6 hok hx6 hX5
          have hP5:XX ⟨tb,tc,ts⟩ x5 (pairR r3 fun ts d=>bindR (takeT [40] ts d) fun _ ts d=>cont2 m [] ts d) (fun q=>(nm=q.1.text/\pos=(q.1.pos:Nat))/\pn=q.2.length/\At 1 RStr (only (New h2) h6) pa q.2):=
           hX3.pair (by rw [hfe];exact hX5) fun t l ht hl=>⟨ht,hl⟩
          refine Tri.mono (blk_r (zok _ m (by omega)) _ (hI2.ext hx6) hP5.1 nP.pair) ?_
          rintro _ h7 ⟨x7,ba,bn,bc,rfl,hx7,hX7⟩
          refine ⟨_,_,_,_,_,_,_,_,_,_,rfl,?_⟩
          intro b6 hb6 h8 hh8
          have hP7:XX ⟨tb,tc,ts⟩ x7 (mapR (fun q:(Tok×List Bytes)×List S=>(⟨q.1.1.text,q.1.2,q.2,q.1.1.pos⟩:Go.Sx.F)) (pairR (pairR r3 fun ts d=>bindR (takeT [40] ts d) fun _ ts d=>cont2 m [] ts d) fun ts d=>pBlock m ts d))
           (fun g=>RF plR 7 6 (only (New h2) h7) g [vS nm,vL pa pn pc,vL ba bn bc,vI pos]):=by
           refine (hP5.pair hX7 (rel3:=fun q=>((nm=q.1.1.text/\pos=(q.1.1.pos:Nat))/\pn=q.1.2.length/\At 1 RStr (only (New h2) h7) pa q.1.2)/\bn=q.2.length/\At 6 (RS plR 7 6) (only (New h2) h7) ba q.2) fun q b hq hb=>?_).map fun q hq=>?_
           . exact ⟨⟨hq.1,hq.2.1,hq.2.2.ext RStr_mono hx7.only⟩,hb.1,hb.2.ext (RS_mono _ _ _) (only_new hx6.dom)⟩
           . obtain ⟨⟨⟨rfl,rfl⟩,rfl,g3⟩,rfl,g5⟩:=hq
             exact ⟨pa,pc,ba,bc,rfl,g3,g5,hok⟩
          refine Raw.mono (ParI.addF (x2:=x7) hm (by omega) hx2 hMG hMF hdis hLG hLF (cs:=[vS nm,vL pa pn pc,vL ba bn bc,vI pos]) rfl rfl (hx6.trans hx7) hP7 hf hb6 hh8 rfl rfl rfl rfl rfl) ?_
          rintro _ h9 ⟨sa,sn,sc,rfl,hP⟩
          exact ⟨_,_,_,rfl,m,by omega,hP,rfl,trivial⟩
         refine ⟨fun q a1 a2 a3 a4 a5 a6 a7 nm' pa pn pc ba bn bc pos' h'=>(nm'=nm/\ba=none/\bn=0/\bc=0/\pos'=pos)/\∃ (r':R (List Bytes)) (css:List (List Value)) (g:Nat),((pn=0/\q=g+1/\css=[]/\pa=none/\pc=0/\g<=m)∨(pn≠0/\q=g))/\g+pn<=m+1/\Ext h2 h'/\LM 9 1 h2 h' pa pn pc css/\
          XX ⟨tb,tc,ts⟩ ⟨a1,a2,a3,a4,a5,a6,a7⟩ r' (fun l=>LR RStr h2 h' pa css l)/\(bindR r' fun l ts d=>cont2 g l ts d)=fin2,
          ⟨m+1,⟨rfl,rfl,rfl,rfl,rfl⟩,mapR (fun _=>[]) r4,[],m, .inl ⟨rfl,rfl,rfl,rfl,rfl,Nat.le_refl _⟩,by omega,Ext.refl _,LM.nil,hpure,by rw [hc2];simp only [mapR,bindR_bind,bindR_ok]⟩,?_⟩
         rintro q a1 a2 a3 a4 a5 a6 a7 _ pa pn pc _ _ _ _ h5 ⟨⟨rfl,rfl,rfl,rfl,rfl⟩,r',css,g,hq,hgp,hx5,hM5,hX5,hf5⟩
         have hI5:=hI2.ext hx5
         have he5:=hX5.1.err0
         refine br_split (fun f1=>?_) (fun f1=>?_)
         . obtain ⟨l,ts5,d5,rfl⟩:=okR_true (he5.symm.trans f1)
           rw [bindR_ok] at hf5
           have hl5:pn=l.length:=by rw [←hM5.len];exact (hX5.2 _ _ _ rfl).1
           refine Tri.mono (isw_r hX5.1 hI5 [41]) ?_
           rintro _ h5 ⟨rfl,rfl⟩
           refine ⟨_,rfl,br_split (fun f2=>?_) (fun f2=>?_)⟩
           . have k2:isT ts5 [41]=false:=by simpa [isTr] using f2
             refine br_split (fun f3=>?_) (fun f3=>?_)
             . have hpn:pn≠0:=by
                have:=of_decide_eq_true f3
                omega
               have hl:l≠[]:=fun e=>by rw [e] at hl5;exact hpn hl5
               rcases hq with ⟨hq,_⟩ | ⟨_,rfl⟩
               . exact absurd hq hpn
               match q,hf5,hgp with
               | 0,hf5,hgp=>
                 exfalso
                 refine n2 ?_
                 rw [←hf5];simp only [cont2,if_neg hl,thenR,pMoreP,bindR_err]
               | q+1,hf5,hgp=>
               refine Tri.mono (takew_r hX5.1 hI5 [44]) ?_
               rintro _ h5 ⟨rfl,x6,rfl,hx6⟩
               rw [bindR_ok] at hx6
               refine ⟨_,_,_,_,_,_,_,rfl,?_⟩
               refine Tri.mono (ident_r hx6 hI5) ?_
               rintro _ h5 ⟨rfl,x7,nm7,pos7,rfl,hX7⟩
               refine ⟨_,_,_,_,_,_,_,_,_,rfl,?_⟩
               intro b4 hb4 h6 hh6
               refine Raw.mono (LM.append (h0:=h2) (cs:=[vS nm7]) und51 elem9 rfl rfl rfl rfl rfl hM5 hb4 hh6 rfl rfl (by omega) hx5.dom) ?_
               rintro _ h8 ⟨b8,cap8,rfl,hk8,hd8,hn8,hq8,hM8,hR8⟩
               have hx8:Ext h2 h8:=fun q o hq=>hk8 q o (ne_of hq) (hx5 q o hq)
               refine ⟨_,_,_,rfl,q,by omega,⟨⟨rfl,rfl,rfl,rfl,rfl⟩,mapR (fun t=>l++[t.text]) (bindR (takeT [44] ts5 d5) fun _ ts d=>takeK 1 ts d),_,q, .inr ⟨by omega,rfl⟩,by omega,hx8,hM8,?_,?_⟩,rfl,rfl,trivial⟩
               . exact hX7.map fun t ht=>hR8 RStr_mono (hX5.2 _ _ _ rfl) (by obtain ⟨rfl,_⟩:=ht;rfl)
               . rw [←hf5]
                 simp only [cont2,if_neg hl]
                 rw [pMoreP_succ]
                 cases h44:isT ts5 [44] with
                 | true=>
                   simp only [if_true,mapR,bindR_bind,bindR_ok,thenR,cont2,List.append_ne_nil_of_right_ne_nil,if_neg (List.append_ne_nil_of_right_ne_nil l (List.cons_ne_nil _ _))]
                 | false=>
                   have h1':takeT [44] ts5 d5= .error (30,(hd ts5).pos):=by simp [takeT,h44]
                   have h2':takeT [41] ts5 d5= .error (30,(hd ts5).pos):=by simp [takeT,k2]
                   simp only [h1',Bool.false_eq_true,if_false,mapR,bindR_err,thenR,bindR_ok,h2']
             . have hpn:pn=0:=by
                have:=of_decide_eq_false f3
                omega
               have hl:l=[]:=List.eq_nil_of_length_eq_zero (by omega)
               subst hl
               rcases hq with ⟨_,rfl,rfl,rfl,rfl,hgm⟩ | ⟨hq,_⟩
               case inr=>exact absurd hpn hq
               subst hpn
               refine Tri.mono (ident_r hX5.1 hI5) ?_
               rintro _ h5 ⟨rfl,x7,nm7,pos7,rfl,hX7⟩
               rw [bindR_ok] at hX7
               refine ⟨_,_,_,_,_,_,_,_,_,rfl,?_⟩
               intro b4 hb4 h6 hh6
               refine Raw.mono (LM.append (h0:=h2) (cs:=[vS nm7]) und51 elem9 rfl rfl rfl rfl rfl hM5 hb4 hh6 rfl rfl (by omega) hx5.dom) ?_
               rintro _ h8 ⟨b8,cap8,rfl,hk8,hd8,hn8,hq8,hM8,hR8⟩
               have hx8:Ext h2 h8:=fun q o hq=>hk8 q o (ne_of hq) (hx5 q o hq)
               refine ⟨_,_,_,rfl,g,by omega,⟨⟨rfl,rfl,rfl,rfl,rfl⟩,mapR (fun t=>[t.text]) (takeK 1 ts5 d5),_,g, .inr ⟨by omega,rfl⟩,by omega,hx8,hM8,?_,?_⟩,rfl,rfl,trivial⟩
               . exact hX7.map fun t ht=>hR8 RStr_mono (hX5.2 _ _ _ rfl) (by obtain ⟨rfl,_⟩:=ht;rfl)
               . rw [←hf5]
                 have hpp:pParams g ts5 d5=bindR (takeK 1 ts5 d5) fun t ts d=>pMoreP g [t.text] ts d:=by
                  unfold pParams;rw [if_neg (by rw [k2];decide)]
                 simp only [cont2,if_true,hpp,mapR,bindR_bind,bindR_ok,thenR,if_neg (List.cons_ne_nil _ _)]
           . have k2:isT ts5 [41]=true:=by simpa [isTr] using f2
             have hfin2:fin2=thenR (.ok (l,ts5,d5):R (List Bytes)) fun ts d=>takeT [41] ts d:=by
              rw [←hf5]
              by_cases hl:l=[]
              . subst hl
                have hpp:pParams g ts5 d5= .ok ([],ts5,d5):=by
                 unfold pParams;rw [if_pos k2]
                simp only [cont2,if_true,hpp]
              . have hpn:pn≠0:=fun e=>hl (List.eq_nil_of_length_eq_zero (by omega))
                rcases hq with ⟨hq,_⟩ | ⟨_,rfl⟩
                . exact absurd hq hpn
                match q,hf5 with
                | 0,hf5=>
                  exfalso
                  refine n2 ?_
                  rw [←hf5];simp only [cont2,if_neg hl,thenR,pMoreP,bindR_err]
                | q+1,hf5=>
                  have h44:isT ts5 [44]=false:=by
                   cases hu:isT ts5 [44] with
                   | false=>rfl
                   | true=>
                     simp only [isT,Bool.and_eq_true,beq_iff_eq] at k2 hu
                     exact absurd (hu.2.symm.trans k2.2) (by decide)
                  simp only [cont2,if_neg hl,pMoreP_succ,h44,Bool.false_eq_true,if_false]
             refine Tri.mono (takew_r hX5.1 hI5 [41]) ?_
             rintro _ h5 ⟨rfl,x6,rfl,hx6⟩
             refine ⟨_,_,_,_,_,_,_,rfl,rest (x5:=x6) hM5.okN hx5 ?_⟩
             rw [hfin2]
             exact hX5.then (x':=x6) hx6 fun l' hl'=>⟨by rw [←hM5.len];exact hl'.1,hM5.at RStr_mono hl'⟩
         . obtain ⟨y,rfl⟩:=okR_false (he5.symm.trans f1)
           have hfin2:fin2= .error y:=hf5.symm
           refine Tri.mono (takew_r hX5.1 hI5 [41]) ?_
           rintro _ h5 ⟨rfl,x6,rfl,hx6⟩
           refine ⟨_,_,_,_,_,_,_,rfl,rest (x5:=x6) hM5.okN hx5 ?_⟩
           rw [hfin2]
           exact XX.er hx6
     . have e0:isK ts2 0=true:=by simpa [isKr] using e0
       rw [if_pos e0] at hf
       refine br_neg ?_ ⟨hxE,?_⟩
       . have:a6=0:=by simpa using e
         subst this;rfl
       . rw [hpar,←hf]
         refine ⟨ga,gc,fa,fc,?_,?_,?_⟩
         . rw [←hLG.1,←hLF.1,hMG.len,hMF.len]
         . exact (hMG.at (RG_mono _) hLG).ext (RG_mono _) (only_new hx1.dom)
         . exact (hMF.at (RF_mono _ _ _) (hLF.lr (RF_mono _ _ _))).ext (RF_mono _ _ _) (only_new hx1.dom)
   . obtain ⟨y,rfl⟩:=okR_false (he0.symm.trans e)
     obtain ⟨_,j,_,_,g0,g1,b,t,g2,g3,g4⟩:=hX.1
     have g1:a6=y.1:=g1
     have g2:a7=b:=g2
     subst g1;subst g2
     have hbl:b < ts.length:=(List.getElem?_eq_some_iff.1 g3).1
     rcases hI2.rows with hnil | ⟨b',o',hab,hrow⟩
     . simp only at hnil;rw [hnil] at hbl;simp at hbl
     . injection hab with hab;injection hab with hab hab2
       subst hab;subst hab2
       obtain ⟨cs,hr,hcs⟩:=hrow b t g3
       have hcs:cs=tokR t:=hcs
       subst hcs
       have hc4:h2.cell tb (0+((b:Int)).toNat * 5+4)=some (vI (t.pos:Nat)):=by
        rw [Int.toNat_natCast];exact hr.2.2.2.2
       refine br_pos ?_ ⟨tb,0,rfl,⟨by omega,by omega⟩,_,hc4,rfl,hc4,rfl,hxE,?_⟩
       . have:(y.1:Int)≠0:=by omega
         simpa using this
       . rw [hpar,←hf,g4];rfl
end Go.Proofs.D
namespace Go.Sx
mutual
def eqE:E->E->Bool
 | .mk k o n v t a _, .mk k' o' n' v' t' a' _=>k == k' && o == o' && n == n' && v == v' && t == t' && eqEs a a'
def eqEs:List E->List E->Bool
 | [],[]=>true
 | e::l,e'::l'=>eqE e e' && eqEs l l'
 | [],_::_=>false
 | _::_,[]=>false
end
mutual
def eqS:S->S->Bool
 | .mk k n a b e _, .mk k' n' a' b' e' _=>k == k' && n == n' && eqEs a a' && eqSs b b' && eqSs e e'
def eqSs:List S->List S->Bool
 | [],[]=>true
 | e::l,e'::l'=>eqS e e' && eqSs l l'
 | [],_::_=>false
 | _::_,[]=>false
end
def eqG (g h:G):Bool:=g.name == h.name && g.size == h.size && g.value == h.value
def eqF (g h:F):Bool:=g.name == h.name && g.params == h.params && eqSs g.body h.body
def eqL {α:Type} (q:α->α->Bool):List α->List α->Bool
 | [],[]=>true
 | e::l,e'::l'=>q e e' && eqL q l l'
 | [],_::_=>false
 | _::_,[]=>false
def eqP (p q:Pg):Bool:=eqL eqG p.globals q.globals && eqL eqF p.funcs q.funcs
theorem eqEs_L:∀ (l m:List E),eqEs l m=eqL eqE l m
 | [],[]=>rfl
 | e::l,e'::l'=>by rw [eqEs,eqL,eqEs_L l l']
 | [],_::_=>rfl
 | _::_,[]=>rfl
theorem eqSs_L:∀ (l m:List S),eqSs l m=eqL eqS l m
 | [],[]=>rfl
 | e::l,e'::l'=>by rw [eqSs,eqL,eqSs_L l l']
 | [],_::_=>rfl
 | _::_,[]=>rfl
theorem eqL_len {α:Type} {q:α->α->Bool}:∀ {l m:List α},l.length≠m.length->eqL q l m=false
 | [],[],h=>absurd rfl h
 | e::l,e'::l',h=>by rw [eqL,eqL_len (l:=l) (m:=l') (fun e=>h (by rw [List.length_cons,List.length_cons,e])),Bool.and_false]
 | [],_::_,_=>rfl
 | _::_,[],_=>rfl
theorem eqL_drop {α:Type} {q:α->α->Bool} {l m:List α} {j:Nat} (hl:j < l.length) (hm:j < m.length):eqL q (l.drop j) (m.drop j)=(q l[j] m[j] && eqL q (l.drop (j+1)) (m.drop (j+1))):=by
 rw [List.drop_eq_getElem_cons hl,List.drop_eq_getElem_cons hm];rfl
mutual
theorem eqE_z:∀ (a b:E),eqE a b=true↔zE a=zE b
 | .mk k o n v t a _, .mk k' o' n' v' t' a' _=>by
   simp only [eqE,zE,Bool.and_eq_true,beq_iff_eq,E.mk.injEq,eqEs_z a a',and_true,and_assoc]
theorem eqEs_z:∀ (a b:List E),eqEs a b=true↔zEs a=zEs b
 | [],[]=>by simp [eqEs,zEs]
 | e::l,e'::l'=>by simp only [eqEs,zEs,Bool.and_eq_true,eqE_z e e',eqEs_z l l',List.cons.injEq]
 | [],_::_=>by simp [eqEs,zEs]
 | _::_,[]=>by simp [eqEs,zEs]
end
mutual
theorem eqS_z:∀ (a b:S),eqS a b=true↔zS a=zS b
 | .mk k n a b e _, .mk k' n' a' b' e' _=>by
   simp only [eqS,zS,Bool.and_eq_true,beq_iff_eq,S.mk.injEq,eqEs_z a a',eqSs_z b b',eqSs_z e e',and_true,and_assoc]
theorem eqSs_z:∀ (a b:List S),eqSs a b=true↔zSs a=zSs b
 | [],[]=>by simp [eqSs,zSs]
 | e::l,e'::l'=>by simp only [eqSs,zSs,Bool.and_eq_true,eqS_z e e',eqSs_z l l',List.cons.injEq]
 | [],_::_=>by simp [eqSs,zSs]
 | _::_,[]=>by simp [eqSs,zSs]
end
theorem eqL_map {α:Type} {q:α->α->Bool} {z:α->α} (h:∀ a b,q a b=true↔z a=z b):∀ (l m:List α),eqL q l m=true↔l.map z=m.map z
 | [],[]=>by simp [eqL]
 | e::l,e'::l'=>by simp [eqL,h,eqL_map h l l']
 | [],_::_=>by simp [eqL]
 | _::_,[]=>by simp [eqL]
theorem eqG_z (a b:G):eqG a b=true↔zG a=zG b:=by
 cases a;cases b;simp [eqG,zG,and_assoc]
theorem eqF_z (a b:F):eqF a b=true↔zF a=zF b:=by
 cases a;cases b;simp [eqF,zF,eqSs_z,and_assoc]
theorem eqP_z (p q:Pg):eqP p q=true↔zP p=zP q:=by
 cases p;cases q;simp [eqP,zP,eqL_map eqG_z,eqL_map eqF_z]
end Go.Sx
namespace Go.Proofs.D
open Go Go.Den
noncomputable section
set_option maxRecDepth 100000
set_option maxHeartbeats 4000000
abbrev o13_0:Op:= .call { callee:=(.builtin .min),args:=#[(.tmp 5),(.const (vI 1500))],argTypes:=#[3,3] }
def d13:DCode:=up ⟨[(6, .c (.one false [qi]))],[],[]⟩ (lw nf Tryz.f13)
theorem low13:lw nf Tryz.f13=some (eC d13):=by kernel_rfl
def R13 (l1:Bs) (h:PHeap) (Q:Value->PHeap->Prop):Prop:=
 ∃ i1,PureRun Tryz.prog (execOp (rho [(5,vI (l1.length:Int))]) (mkO o13_0 3)) (vI i1)/\
 (0<=(0:Int)/\(0:Int)<=i1/\i1<=(l1.length:Int))/\
 Q (vS ((l1.drop 0).take ((i1).toNat - 0))) h
theorem T13 {l1 h Q} (hR:R13 l1 h Q):Tri Tryz.prog 13 [vS l1] h Q:=
 tri_of_dn mixed Tryz.func13 rfl (by kernel_rfl) low13 (rs:=[.tmp 2]) (by kernel_rfl) rfl (Eq.mpr (by kernel_rfl) hR)
def d17:DCode:=up ⟨[(16, .l [.str]),(18, .c (.tup [(false,[qi]),(false,[qi])]))],[],[]⟩ (lw nf Tryz.f17)
theorem low17:lw nf Tryz.f17=some (eC d17):=by kernel_rfl
end
end Go.Proofs.D
namespace Go.Proofs.D
open Go Go.Den
noncomputable section
set_option maxRecDepth 100000
set_option maxHeartbeats 4000000
abbrev dck1:List CK:=[qi, .str, .slice, .slice, .slice,qi,qi]
abbrev dck2:List CK:=[.str,qi,qi,qi,qi]
abbrev dck3:List CK:=[.str, .slice, .slice,qi,qi]
abbrev dck4:List CK:=[qi, .str, .str,qi, .str, .slice,qi,qi]
abbrev dck5:List CK:=[.str,qi,qi,qi]
abbrev dck6:List CK:=[.str, .slice, .slice,qi]
abbrev dck7:List CK:=[qi, .str, .slice, .slice, .slice,qi]
abbrev dck8:List CK:=[qi, .str, .str,qi, .str, .slice,qi]
def d32:DCode:=up ⟨[(7, .l [.slice, .slice]),(8, .c (.one false [.bool])),(11, .l [.slice, .slice]),(12, .c (.one false [.bool])),(16, .l [.slice]),(18, .l [.slice]),(20, .c (.one false [.bool])),(23, .l [.slice]),(25, .l [.slice]),(27, .c (.one false [.bool]))],[],[]⟩ (lw nf Tryz.f32)
theorem low32:lw nf Tryz.f32=some (eC d32):=by kernel_rfl
def R32 (a1:OA) (n1 dck1:Nat) (a2:OA) (n2 dck2:Nat) (a3:OA) (n3 dck3:Nat) (a4:OA) (n4 dck4:Nat) (h:PHeap) (Q:Value->PHeap->Prop):Prop:=
 tp 56 [vA [vL a1 n1 dck1,vL a2 n2 dck2]] h fun v_1 h_1=>
 ∃ c1,v_1=vB c1/\
 br (!c1)
 (Q (vB false) h_1)
 (tp 56 [vA [vL a3 n3 dck3,vL a4 n4 dck4]] h_1 fun v_2 h_2=>
 ∃ c2,v_2=vB c2/\
 br (!c2)
 (Q (vB false) h_2)
 (tp 77 [vL a1 n1 dck1,vL a3 n3 dck3,vF 72 [] []] h_2 fun v_3 h_3=>
 ∃ c3,v_3=vB c3/\
 br c3
 (tp 78 [vL a2 n2 dck2,vL a4 n4 dck4,vF 73 [] []] h_3 fun v_4 h_4=>
 ∃ c4,v_4=vB c4/\
 Q (vB c4) h_4)
 (Q (vB false) h_3)))
theorem T32 {a1 n1 dck1 a2 n2 dck2 a3 n3 dck3 a4 n4 dck4 h Q} (hR:R32 a1 n1 dck1 a2 n2 dck2 a3 n3 dck3 a4 n4 dck4 h Q):Tri Tryz.prog 32 [vA [vL a1 n1 dck1,vL a2 n2 dck2],vA [vL a3 n3 dck3,vL a4 n4 dck4]] h Q:=
 tri_of_dn mixed Tryz.func32 rfl (by kernel_rfl) low32 (rs:=[.tmp 4]) (by kernel_rfl) rfl (Eq.mpr (by kernel_rfl) hR)
def d72:DCode:=up ⟨[(6, .l [.str]),(8, .l [.str]),(12, .l [qi]),(14, .l [qi]),(19, .l [qi]),(21, .l [qi])],[],[]⟩ (lw nf Tryz.f72)
theorem low72:lw nf Tryz.f72=some (eC d72):=by kernel_rfl
def R72 (l1:Bs) (i1 i2 i3 i4:Int) (l2:Bs) (i5 i6 i7 i8:Int) (h:PHeap) (Q:Value->PHeap->Prop):Prop:=
 br (l1 == l2)
 (br (i1 == i5)
 (Q (vB (i2 == i6)) h)
 (Q (vB false) h))
 (Q (vB false) h)
theorem T72 {l1 i1 i2 i3 i4 l2 i5 i6 i7 i8 h Q} (hR:R72 l1 i1 i2 i3 i4 l2 i5 i6 i7 i8 h Q):Tri Tryz.prog 72 [vA [vS l1,vI i1,vI i2,vI i3,vI i4],vA [vS l2,vI i5,vI i6,vI i7,vI i8]] h Q:=
 tri_of_dn mixed Tryz.func72 rfl (by kernel_rfl) low72 (rs:=[.tmp 4]) (by kernel_rfl) rfl (Eq.mpr (by kernel_rfl) hR)
def d73:DCode:=up ⟨[(6, .l [.str]),(8, .l [.str]),(12, .l [.slice]),(14, .l [.slice]),(15, .c (.one false [.bool])),(19, .l [.slice]),(21, .l [.slice]),(22, .c (.one false [.bool]))],[],[]⟩ (lw nf Tryz.f73)
theorem low73:lw nf Tryz.f73=some (eC d73):=by kernel_rfl
def R73 (l1:Bs) (a1:OA) (n1 dck1:Nat) (a2:OA) (n2 dck2:Nat) (i1 i2:Int) (l2:Bs) (a3:OA) (n3 dck3:Nat) (a4:OA) (n4 dck4:Nat) (i3 i4:Int) (h:PHeap) (Q:Value->PHeap->Prop):Prop:=
 br (l1 == l2)
 (tp 74 [vL a1 n1 dck1,vL a3 n3 dck3] h fun v_1 h_1=>
 ∃ c1,v_1=vB c1/\
 br c1
 (tp 75 [vL a2 n2 dck2,vL a4 n4 dck4,vF 76 [] []] h_1 fun v_2 h_2=>
 ∃ c2,v_2=vB c2/\
 Q (vB c2) h_2)
 (Q (vB false) h_1))
 (Q (vB false) h)
theorem T73 {l1 a1 n1 dck1 a2 n2 dck2 i1 i2 l2 a3 n3 dck3 a4 n4 dck4 i3 i4 h Q} (hR:R73 l1 a1 n1 dck1 a2 n2 dck2 i1 i2 l2 a3 n3 dck3 a4 n4 dck4 i3 i4 h Q):Tri Tryz.prog 73 [vA [vS l1,vL a1 n1 dck1,vL a2 n2 dck2,vI i1,vI i2],vA [vS l2,vL a3 n3 dck3,vL a4 n4 dck4,vI i3,vI i4]] h Q:=
 tri_of_dn mixed Tryz.func73 rfl (by kernel_rfl) low73 (rs:=[.tmp 4]) (by kernel_rfl) rfl (Eq.mpr (by kernel_rfl) hR)
def d74:DCode:=up ⟨[(19, .l [.str]),(23, .l [.str])],[],[(14,15,[(13,qi)],[])]⟩ (lw nf Tryz.f74)
theorem low74:lw nf Tryz.f74=some (eC d74):=by kernel_rfl
def R74 (a1:OA) (n1 dck1:Nat) (a2:OA) (n2 dck2:Nat) (h:PHeap) (Q:Value->PHeap->Prop):Prop:=
 br ((n1:Int) != (n2:Int))
 (Q (vB false) h)
 (∃ (I_1:Nat->Int->PHeap->Prop),(∃ m2,I_1 m2 0 h)/\
 ∀ m1 i1 h_1,I_1 m1 i1 h_1->
 br (decide (i1 < (n1:Int)))
 (slt a1 i1 n1 fun b1 o1=>
 ∃ l1,h_1.cell b1 (o1+(i1).toNat * 1)=some (vS l1)/\
 slt a2 i1 n2 fun b2 o2=>
 ∃ l2,h_1.cell b2 (o2+(i1).toNat * 1)=some (vS l2)/\
 br (!(l1 == l2))
 (Q (vB false) h_1)
 (∃ m3,m3 < m1/\I_1 m3 (IntKind.i64.wrap (i1+1)) h_1/\
 True))
 (Q (vB true) h_1))
theorem T74 {a1 n1 dck1 a2 n2 dck2 h Q} (hR:R74 a1 n1 dck1 a2 n2 dck2 h Q):Tri Tryz.prog 74 [vL a1 n1 dck1,vL a2 n2 dck2] h Q:=
 tri_of_dn mixed Tryz.func74 rfl (by kernel_rfl) low74 (rs:=[.tmp 4]) (by kernel_rfl) rfl (Eq.mpr (by kernel_rfl) hR)
def d75:DCode:=up ⟨[(21, .l dck1),(25, .l dck1),(27, .l dck1),(28, .l dck1),(29, .c (.one false [.bool]))],[],[(18,19,[(17,qi)],[])]⟩ (lw nf Tryz.f75)
theorem low75:lw nf Tryz.f75=some (eC d75):=by kernel_rfl
def R75 (a1:OA) (n1 dck1:Nat) (a2:OA) (n2 dck2 f1:Nat) (x1 y1:List Value) (h:PHeap) (Q:Value->PHeap->Prop):Prop:=
 br ((n1:Int) != (n2:Int))
 (Q (vB false) h)
 (∃ (I_1:Nat->Int->PHeap->Prop),(∃ m2,I_1 m2 0 h)/\
 ∀ m1 i1 h_1,I_1 m1 i1 h_1->
 br (decide (i1 < (n1:Int)))
 (slt a1 i1 n1 fun b1 o1=>
 ∃ i2 l1 a3 n3 dck3 a4 n4 dck4 a5 n5 dck5 i3 i4,h_1.row b1 (o1+(i1).toNat * 7) [vI i2,vS l1,vL a3 n3 dck3,vL a4 n4 dck4,vL a5 n5 dck5,vI i3,vI i4]/\
 slt a2 i1 n2 fun b2 o2=>
 ∃ i5 l2 a6 n6 dck6 a7 n7 dck7 a8 n8 dck8 i6 i7,h_1.row b2 (o2+(i1).toNat * 7) [vI i5,vS l2,vL a6 n6 dck6,vL a7 n7 dck7,vL a8 n8 dck8,vI i6,vI i7]/\
 tp f1 (x1++[vA [vI i2,vS l1,vL a3 n3 dck3,vL a4 n4 dck4,vL a5 n5 dck5,vI i3,vI i4],vA [vI i5,vS l2,vL a6 n6 dck6,vL a7 n7 dck7,vL a8 n8 dck8,vI i6,vI i7]]++y1) h_1 fun v_1 h_2=>
 ∃ c1,v_1=vB c1/\
 br (!c1)
 (Q (vB false) h_2)
 (∃ m3,m3 < m1/\I_1 m3 (IntKind.i64.wrap (i1+1)) h_2/\
 True))
 (Q (vB true) h_1))
theorem T75 {a1 n1 dck1 a2 n2 dck2 f1 x1 y1 h Q} (hR:R75 a1 n1 dck1 a2 n2 dck2 f1 x1 y1 h Q):Tri Tryz.prog 75 [vL a1 n1 dck1,vL a2 n2 dck2,vF f1 x1 y1] h Q:=
 tri_of_dn mixed Tryz.func75 rfl (by kernel_rfl) low75 (rs:=[.tmp 6]) (by kernel_rfl) rfl (Eq.mpr (by kernel_rfl) hR)
def d76:DCode:=up ⟨[(6, .l [qi]),(8, .l [qi]),(12, .l [.str]),(14, .l [.str]),(19, .l [.slice]),(21, .l [.slice]),(22, .c (.one false [.bool])),(26, .l [.slice]),(28, .l [.slice]),(29, .c (.one false [.bool])),(33, .l [.slice]),(35, .l [.slice]),(36, .c (.one false [.bool]))],[],[]⟩ (lw nf Tryz.f76)
theorem low76:lw nf Tryz.f76=some (eC d76):=by kernel_rfl
def R76 (i1:Int) (l1:Bs) (a1:OA) (n1 dck1:Nat) (a2:OA) (n2 dck2:Nat) (a3:OA) (n3 dck3:Nat) (i2 i3 i4:Int) (l2:Bs) (a4:OA) (n4 dck4:Nat) (a5:OA) (n5 dck5:Nat) (a6:OA) (n6 dck6:Nat) (i5 i6:Int) (h:PHeap) (Q:Value->PHeap->Prop):Prop:=
 br (i1 == i4)
 (br (l1 == l2)
 (tp 121 [vL a1 n1 dck1,vL a4 n4 dck4,vF 122 [] []] h fun v_1 h_1=>
 ∃ c1,v_1=vB c1/\
 br c1
 (tp 75 [vL a2 n2 dck2,vL a5 n5 dck5,vF 76 [] []] h_1 fun v_2 h_2=>
 ∃ c2,v_2=vB c2/\
 br c2
 (tp 75 [vL a3 n3 dck3,vL a6 n6 dck6,vF 76 [] []] h_2 fun v_3 h_3=>
 ∃ c3,v_3=vB c3/\
 Q (vB c3) h_3)
 (Q (vB false) h_2))
 (Q (vB false) h_1))
 (Q (vB false) h))
 (Q (vB false) h)
theorem T76 {i1 l1 a1 n1 dck1 a2 n2 dck2 a3 n3 dck3 i2 i3 i4 l2 a4 n4 dck4 a5 n5 dck5 a6 n6 dck6 i5 i6 h Q} (hR:R76 i1 l1 a1 n1 dck1 a2 n2 dck2 a3 n3 dck3 i2 i3 i4 l2 a4 n4 dck4 a5 n5 dck5 a6 n6 dck6 i5 i6 h Q):Tri Tryz.prog 76 [vA [vI i1,vS l1,vL a1 n1 dck1,vL a2 n2 dck2,vL a3 n3 dck3,vI i2,vI i3],vA [vI i4,vS l2,vL a4 n4 dck4,vL a5 n5 dck5,vL a6 n6 dck6,vI i5,vI i6]] h Q:=
 tri_of_dn mixed Tryz.func76 rfl (by kernel_rfl) low76 (rs:=[.tmp 4]) (by kernel_rfl) rfl (Eq.mpr (by kernel_rfl) hR)
def d77:DCode:=up ⟨[(21, .l dck2),(25, .l dck2),(27, .l dck2),(28, .l dck2),(29, .c (.one false [.bool]))],[],[(18,19,[(17,qi)],[])]⟩ (lw nf Tryz.f77)
theorem low77:lw nf Tryz.f77=some (eC d77):=by kernel_rfl
def R77 (a1:OA) (n1 dck1:Nat) (a2:OA) (n2 dck2 f1:Nat) (x1 y1:List Value) (h:PHeap) (Q:Value->PHeap->Prop):Prop:=
 br ((n1:Int) != (n2:Int))
 (Q (vB false) h)
 (∃ (I_1:Nat->Int->PHeap->Prop),(∃ m2,I_1 m2 0 h)/\
 ∀ m1 i1 h_1,I_1 m1 i1 h_1->
 br (decide (i1 < (n1:Int)))
 (slt a1 i1 n1 fun b1 o1=>
 ∃ l1 i2 i3 i4 i5,h_1.row b1 (o1+(i1).toNat * 5) [vS l1,vI i2,vI i3,vI i4,vI i5]/\
 slt a2 i1 n2 fun b2 o2=>
 ∃ l2 i6 i7 i8 i9,h_1.row b2 (o2+(i1).toNat * 5) [vS l2,vI i6,vI i7,vI i8,vI i9]/\
 tp f1 (x1++[vA [vS l1,vI i2,vI i3,vI i4,vI i5],vA [vS l2,vI i6,vI i7,vI i8,vI i9]]++y1) h_1 fun v_1 h_2=>
 ∃ c1,v_1=vB c1/\
 br (!c1)
 (Q (vB false) h_2)
 (∃ m3,m3 < m1/\I_1 m3 (IntKind.i64.wrap (i1+1)) h_2/\
 True))
 (Q (vB true) h_1))
theorem T77 {a1 n1 dck1 a2 n2 dck2 f1 x1 y1 h Q} (hR:R77 a1 n1 dck1 a2 n2 dck2 f1 x1 y1 h Q):Tri Tryz.prog 77 [vL a1 n1 dck1,vL a2 n2 dck2,vF f1 x1 y1] h Q:=
 tri_of_dn mixed Tryz.func77 rfl (by kernel_rfl) low77 (rs:=[.tmp 6]) (by kernel_rfl) rfl (Eq.mpr (by kernel_rfl) hR)
def d78:DCode:=up ⟨[(21, .l dck3),(25, .l dck3),(27, .l dck3),(28, .l dck3),(29, .c (.one false [.bool]))],[],[(18,19,[(17,qi)],[])]⟩ (lw nf Tryz.f78)
theorem low78:lw nf Tryz.f78=some (eC d78):=by kernel_rfl
def R78 (a1:OA) (n1 dck1:Nat) (a2:OA) (n2 dck2 f1:Nat) (x1 y1:List Value) (h:PHeap) (Q:Value->PHeap->Prop):Prop:=
 br ((n1:Int) != (n2:Int))
 (Q (vB false) h)
 (∃ (I_1:Nat->Int->PHeap->Prop),(∃ m2,I_1 m2 0 h)/\
 ∀ m1 i1 h_1,I_1 m1 i1 h_1->
 br (decide (i1 < (n1:Int)))
 (slt a1 i1 n1 fun b1 o1=>
 ∃ l1 a3 n3 dck3 a4 n4 dck4 i2 i3,h_1.row b1 (o1+(i1).toNat * 5) [vS l1,vL a3 n3 dck3,vL a4 n4 dck4,vI i2,vI i3]/\
 slt a2 i1 n2 fun b2 o2=>
 ∃ l2 a5 n5 dck5 a6 n6 dck6 i4 i5,h_1.row b2 (o2+(i1).toNat * 5) [vS l2,vL a5 n5 dck5,vL a6 n6 dck6,vI i4,vI i5]/\
 tp f1 (x1++[vA [vS l1,vL a3 n3 dck3,vL a4 n4 dck4,vI i2,vI i3],vA [vS l2,vL a5 n5 dck5,vL a6 n6 dck6,vI i4,vI i5]]++y1) h_1 fun v_1 h_2=>
 ∃ c1,v_1=vB c1/\
 br (!c1)
 (Q (vB false) h_2)
 (∃ m3,m3 < m1/\I_1 m3 (IntKind.i64.wrap (i1+1)) h_2/\
 True))
 (Q (vB true) h_1))
theorem T78 {a1 n1 dck1 a2 n2 dck2 f1 x1 y1 h Q} (hR:R78 a1 n1 dck1 a2 n2 dck2 f1 x1 y1 h Q):Tri Tryz.prog 78 [vL a1 n1 dck1,vL a2 n2 dck2,vF f1 x1 y1] h Q:=
 tri_of_dn mixed Tryz.func78 rfl (by kernel_rfl) low78 (rs:=[.tmp 6]) (by kernel_rfl) rfl (Eq.mpr (by kernel_rfl) hR)
def d121:DCode:=up ⟨[(21, .l dck4),(25, .l dck4),(27, .l dck4),(28, .l dck4),(29, .c (.one false [.bool]))],[],[(18,19,[(17,qi)],[])]⟩ (lw nf Tryz.f121)
theorem low121:lw nf Tryz.f121=some (eC d121):=by kernel_rfl
def R121 (a1:OA) (n1 dck1:Nat) (a2:OA) (n2 dck2 f1:Nat) (x1 y1:List Value) (h:PHeap) (Q:Value->PHeap->Prop):Prop:=
 br ((n1:Int) != (n2:Int))
 (Q (vB false) h)
 (∃ (I_1:Nat->Int->PHeap->Prop),(∃ m2,I_1 m2 0 h)/\
 ∀ m1 i1 h_1,I_1 m1 i1 h_1->
 br (decide (i1 < (n1:Int)))
 (slt a1 i1 n1 fun b1 o1=>
 ∃ i2 l1 l2 i3 l3 a3 n3 dck3 i4 i5,h_1.row b1 (o1+(i1).toNat * 8) [vI i2,vS l1,vS l2,vI i3,vS l3,vL a3 n3 dck3,vI i4,vI i5]/\
 slt a2 i1 n2 fun b2 o2=>
 ∃ i6 l4 l5 i7 l6 a4 n4 dck4 i8 i9,h_1.row b2 (o2+(i1).toNat * 8) [vI i6,vS l4,vS l5,vI i7,vS l6,vL a4 n4 dck4,vI i8,vI i9]/\
 tp f1 (x1++[vA [vI i2,vS l1,vS l2,vI i3,vS l3,vL a3 n3 dck3,vI i4,vI i5],vA [vI i6,vS l4,vS l5,vI i7,vS l6,vL a4 n4 dck4,vI i8,vI i9]]++y1) h_1 fun v_1 h_2=>
 ∃ c1,v_1=vB c1/\
 br (!c1)
 (Q (vB false) h_2)
 (∃ m3,m3 < m1/\I_1 m3 (IntKind.i64.wrap (i1+1)) h_2/\
 True))
 (Q (vB true) h_1))
theorem T121 {a1 n1 dck1 a2 n2 dck2 f1 x1 y1 h Q} (hR:R121 a1 n1 dck1 a2 n2 dck2 f1 x1 y1 h Q):Tri Tryz.prog 121 [vL a1 n1 dck1,vL a2 n2 dck2,vF f1 x1 y1] h Q:=
 tri_of_dn mixed Tryz.func121 rfl (by kernel_rfl) low121 (rs:=[.tmp 6]) (by kernel_rfl) rfl (Eq.mpr (by kernel_rfl) hR)
def d122:DCode:=up ⟨[(6, .l [qi]),(8, .l [qi]),(12, .l [.str]),(14, .l [.str]),(19, .l [.str]),(21, .l [.str]),(26, .l [qi]),(28, .l [qi]),(33, .l [.str]),(35, .l [.str]),(40, .l [.slice]),(42, .l [.slice]),(43, .c (.one false [.bool]))],[],[]⟩ (lw nf Tryz.f122)
theorem low122:lw nf Tryz.f122=some (eC d122):=by kernel_rfl
def R122 (i1:Int) (l1 l2:Bs) (i2:Int) (l3:Bs) (a1:OA) (n1 dck1:Nat) (i3 i4 i5:Int) (l4 l5:Bs) (i6:Int) (l6:Bs) (a2:OA) (n2 dck2:Nat) (i7 i8:Int) (h:PHeap) (Q:Value->PHeap->Prop):Prop:=
 br (i1 == i5)
 (br (l1 == l4)
 (br (l2 == l5)
 (br (i2 == i6)
 (br (l3 == l6)
 (tp 121 [vL a1 n1 dck1,vL a2 n2 dck2,vF 122 [] []] h fun v_1 h_1=>
 ∃ c1,v_1=vB c1/\
 Q (vB c1) h_1)
 (Q (vB false) h))
 (Q (vB false) h))
 (Q (vB false) h))
 (Q (vB false) h))
 (Q (vB false) h)
theorem T122 {i1 l1 l2 i2 l3 a1 n1 dck1 i3 i4 i5 l4 l5 i6 l6 a2 n2 dck2 i7 i8 h Q} (hR:R122 i1 l1 l2 i2 l3 a1 n1 dck1 i3 i4 i5 l4 l5 i6 l6 a2 n2 dck2 i7 i8 h Q):Tri Tryz.prog 122 [vA [vI i1,vS l1,vS l2,vI i2,vS l3,vL a1 n1 dck1,vI i3,vI i4],vA [vI i5,vS l4,vS l5,vI i6,vS l6,vL a2 n2 dck2,vI i7,vI i8]] h Q:=
 tri_of_dn mixed Tryz.func122 rfl (by kernel_rfl) low122 (rs:=[.tmp 4]) (by kernel_rfl) rfl (Eq.mpr (by kernel_rfl) hR)
def R17nppp (i1 i2 i3:Int) (h:PHeap) (Q:Value->PHeap->Prop):Prop:=
 Q (vB true) h
theorem T17nppp {i1 i2 i3 h Q} (hR:R17nppp i1 i2 i3 h Q):Tri Tryz.prog 17 [.pointer none,vI i1,vI i2,vI i3] h Q:=
 tri_of_dn mixed Tryz.func17 rfl (by kernel_rfl) low17 (rs:=[.tmp 8]) (by kernel_rfl) rfl (Eq.mpr (by kernel_rfl) hR)
def d18:DCode:=up ⟨[(15, .l [.slice]),(18, .l [.slice]),(23, .l [.slice]),(26, .l [.slice]),(32, .l [.slice]),(38, .l [.slice]),(41, .l dck2),(43, .l [.slice]),(46, .l dck5),(48, .l [.str]),(50, .l [.str]),(54, .l [qi]),(56, .l [qi]),(61, .l [qi]),(63, .l [qi]),(69, .l [qi]),(71, .l [qi]),(73, .l [qi]),(74, .c (.one false [.bool])),(79, .l [.slice]),(85, .l [.slice]),(88, .l dck3),(90, .l [.slice]),(93, .l dck6),(95, .l [.str]),(97, .l [.str]),(101, .l [.slice]),(104, .l [.slice]),(111, .l [qi]),(113, .l [qi]),(115, .l [qi]),(116, .c (.one false [.bool])),(121, .l [.slice]),(123, .l [.slice]),(125, .c (.one false [.bool])),(130, .l [.slice]),(136, .l [.slice]),(139, .l [.str]),(141, .l [.slice]),(144, .l [.str])],[],[(30,51,[(7,qi)],[]),(77,74,[(10,qi)],[]),(128,20,[(13,qi)],[])]⟩ (lw nf Tryz.f18)
theorem low18:lw nf Tryz.f18=some (eC d18):=by kernel_rfl
def R18ppn (a1:OA) (n1 dck1:Nat) (a2:OA) (n2 dck2:Nat) (a3:OA) (n3 dck3:Nat) (a4:OA) (n4 dck4:Nat) (h:PHeap) (Q:Value->PHeap->Prop):Prop:=
 br ((n1:Int) != (n3:Int))
 (Q (vB false) h)
 (br ((n2:Int) != (n4:Int))
 (Q (vB false) h)
 (∃ (I_1:Nat->Int->PHeap->Prop),(∃ m2,I_1 m2 0 h)/\
 ∀ m1 i1 h_1,I_1 m1 i1 h_1->
 br (decide (i1 < (n1:Int)))
 (slt a1 i1 n1 fun b1 o1=>
 ∃ l1 i2 i3 i4 i5,h_1.row b1 (o1+(i1).toNat * 5) [vS l1,vI i2,vI i3,vI i4,vI i5]/\
 slt a3 i1 n3 fun b2 o2=>
 ∃ l2 i6 i7 i8,h_1.row b2 (o2+(i1).toNat * 4) [vS l2,vI i6,vI i7,vI i8]/\
 ((h_1.row b2 (o2+(i1).toNat * 4) [vS l2,vI i6,vI i7,vI i8])/\
 (tv [vL a3 n3 dck3])/\
 (h_1.row b1 (o1+(i1).toNat * 5) [vS l1,vI i2,vI i3,vI i4,vI i5])/\
 (tv [vL a1 n1 dck1])/\
 (h_1.row b2 (o2+(i1).toNat * 4) [vS l2,vI i6,vI i7,vI i8])/\
 (tv [vL a3 n3 dck3])/\
 (h_1.row b1 (o1+(i1).toNat * 5) [vS l1,vI i2,vI i3,vI i4,vI i5])/\
 (tv [vL a1 n1 dck1])/\
 (h_1.row b2 (o2+(i1).toNat * 4) [vS l2,vI i6,vI i7,vI i8])/\
 (tv [vL a3 n3 dck3])/\
 br (!(l1 == l2))
 (Q (vB false) h_1)
 (br (i2 != i6)
 (Q (vB false) h_1)
 (br (i3 != i7)
 (Q (vB false) h_1)
 (tp 17 [.pointer none,vI i4,vI i5,vI i8] h_1 fun v_1 h_2=>
 ∃ c1,v_1=vB c1/\
 br (!c1)
 (Q (vB false) h_2)
 (∃ m3,m3 < m1/\I_1 m3 (IntKind.i64.wrap (i1+1)) h_2/\
 tv [vL a3 n3 dck3,vL a4 n4 dck4]/\tv [vL a1 n1 dck1,vL a2 n2 dck2]/\True)))))/\
 ((h_1.row b2 (o2+(i1).toNat * 4) [vS l2,vI i6,vI i7,vI i8])/\
 (tv [vL a3 n3 dck3])/\
 (h_1.row b1 (o1+(i1).toNat * 5) [vS l1,vI i2,vI i3,vI i4,vI i5])/\
 (tv [vL a1 n1 dck1])/\
 (h_1.row b2 (o2+(i1).toNat * 4) [vS l2,vI i6,vI i7,vI i8])/\
 (tv [vL a3 n3 dck3])/\
 (h_1.row b1 (o1+(i1).toNat * 5) [vS l1,vI i2,vI i3,vI i4,vI i5])/\
 (tv [vL a1 n1 dck1])/\
 (h_1.row b2 (o2+(i1).toNat * 4) [vS l2,vI i6,vI i7,vI i8])/\
 (tv [vL a3 n3 dck3])/\
 br (!(l1 == l2))
 (Q (vB false) h_1)
 (br (i2 != i6)
 (Q (vB false) h_1)
 (br (i3 != i7)
 (Q (vB false) h_1)
 (tp 17 [.pointer none,vI i4,vI i5,vI i8] h_1 fun v_2 h_3=>
 ∃ c2,v_2=vB c2/\
 br (!c2)
 (Q (vB false) h_3)
 (∃ m4,m4 < m1/\I_1 m4 (IntKind.i64.wrap (i1+1)) h_3/\
 tv [vL a3 n3 dck3,vL a4 n4 dck4]/\tv [vL a1 n1 dck1,vL a2 n2 dck2]/\True))))))
 (∃ (I_2:Nat->Int->PHeap->Prop),(∃ m6,I_2 m6 0 h_1)/\
 ∀ m5 i9 h_4,I_2 m5 i9 h_4->
 br (decide (i9 < (n2:Int)))
 (slt a2 i9 n2 fun b3 o3=>
 ∃ l3 a5 n5 dck5 a6 n6 dck6 i10 i11,h_4.row b3 (o3+(i9).toNat * 5) [vS l3,vL a5 n5 dck5,vL a6 n6 dck6,vI i10,vI i11]/\
 slt a4 i9 n4 fun b4 o4=>
 ∃ l4 a7 n7 dck7 a8 n8 dck8 i12,h_4.row b4 (o4+(i9).toNat * 4) [vS l4,vL a7 n7 dck7,vL a8 n8 dck8,vI i12]/\
 ((h_4.row b4 (o4+(i9).toNat * 4) [vS l4,vL a7 n7 dck7,vL a8 n8 dck8,vI i12])/\
 (tv [vL a4 n4 dck4])/\
 (h_4.row b3 (o3+(i9).toNat * 5) [vS l3,vL a5 n5 dck5,vL a6 n6 dck6,vI i10,vI i11])/\
 (tv [vL a2 n2 dck2])/\
 (h_4.row b4 (o4+(i9).toNat * 4) [vS l4,vL a7 n7 dck7,vL a8 n8 dck8,vI i12])/\
 (tv [vL a4 n4 dck4])/\
 (h_4.row b3 (o3+(i9).toNat * 5) [vS l3,vL a5 n5 dck5,vL a6 n6 dck6,vI i10,vI i11])/\
 (tv [vL a2 n2 dck2])/\
 (h_4.row b4 (o4+(i9).toNat * 4) [vS l4,vL a7 n7 dck7,vL a8 n8 dck8,vI i12])/\
 (tv [vL a4 n4 dck4])/\
 br (!(l3 == l4))
 (Q (vB false) h_4)
 (br ((n5:Int) != (n7:Int))
 (Q (vB false) h_4)
 (tp 17 [.pointer none,vI i10,vI i11,vI i12] h_4 fun v_3 h_5=>
 ∃ c3,v_3=vB c3/\
 br (!c3)
 (Q (vB false) h_5)
 (tp 55 [vL a6 n6 dck6,vL a8 n8 dck8, .pointer none] h_5 fun v_4 h_6=>
 ∃ c4,v_4=vB c4/\
 br (!c4)
 (Q (vB false) h_6)
 (∃ (I_3:Nat->Int->PHeap->Prop),(∃ m8,I_3 m8 0 h_6)/\
 ∀ m7 i13 h_7,I_3 m7 i13 h_7->
 br (decide (i13 < (n5:Int)))
 (slt a5 i13 n5 fun b5 o5=>
 ∃ l5,h_7.cell b5 (o5+(i13).toNat * 1)=some (vS l5)/\
 slt a7 i13 n7 fun b6 o6=>
 ∃ l6,h_7.cell b6 (o6+(i13).toNat * 1)=some (vS l6)/\
 br (!(l5 == l6))
 (Q (vB false) h_7)
 (∃ m9,m9 < m7/\I_3 m9 (IntKind.i64.wrap (i13+1)) h_7/\
 tv [vS l4,vL a7 n7 dck7,vL a8 n8 dck8,vI i12]/\tv [vS l3,vL a5 n5 dck5,vL a6 n6 dck6,vI i10,vI i11]/\tv [vL a3 n3 dck3,vL a4 n4 dck4]/\tv [vL a1 n1 dck1,vL a2 n2 dck2]/\True))
 (∃ m10,m10 < m5/\I_2 m10 (IntKind.i64.wrap (i9+1)) h_7/\
 tv [vL a3 n3 dck3,vL a4 n4 dck4]/\tv [vL a1 n1 dck1,vL a2 n2 dck2]/\True))))))/\
 ((h_4.row b4 (o4+(i9).toNat * 4) [vS l4,vL a7 n7 dck7,vL a8 n8 dck8,vI i12])/\
 (tv [vL a4 n4 dck4])/\
 (h_4.row b3 (o3+(i9).toNat * 5) [vS l3,vL a5 n5 dck5,vL a6 n6 dck6,vI i10,vI i11])/\
 (tv [vL a2 n2 dck2])/\
 (h_4.row b4 (o4+(i9).toNat * 4) [vS l4,vL a7 n7 dck7,vL a8 n8 dck8,vI i12])/\
 (tv [vL a4 n4 dck4])/\
 (h_4.row b3 (o3+(i9).toNat * 5) [vS l3,vL a5 n5 dck5,vL a6 n6 dck6,vI i10,vI i11])/\
 (tv [vL a2 n2 dck2])/\
 (h_4.row b4 (o4+(i9).toNat * 4) [vS l4,vL a7 n7 dck7,vL a8 n8 dck8,vI i12])/\
 (tv [vL a4 n4 dck4])/\
 br (!(l3 == l4))
 (Q (vB false) h_4)
 (br ((n5:Int) != (n7:Int))
 (Q (vB false) h_4)
 (tp 17 [.pointer none,vI i10,vI i11,vI i12] h_4 fun v_5 h_8=>
 ∃ c5,v_5=vB c5/\
 br (!c5)
 (Q (vB false) h_8)
 (tp 55 [vL a6 n6 dck6,vL a8 n8 dck8, .pointer none] h_8 fun v_6 h_9=>
 ∃ c6,v_6=vB c6/\
 br (!c6)
 (Q (vB false) h_9)
 (∃ (I_4:Nat->Int->PHeap->Prop),(∃ m12,I_4 m12 0 h_9)/\
 ∀ m11 i14 h_10,I_4 m11 i14 h_10->
 br (decide (i14 < (n5:Int)))
 (slt a5 i14 n5 fun b7 o7=>
 ∃ l7,h_10.cell b7 (o7+(i14).toNat * 1)=some (vS l7)/\
 slt a7 i14 n7 fun b8 o8=>
 ∃ l8,h_10.cell b8 (o8+(i14).toNat * 1)=some (vS l8)/\
 br (!(l7 == l8))
 (Q (vB false) h_10)
 (∃ m13,m13 < m11/\I_4 m13 (IntKind.i64.wrap (i14+1)) h_10/\
 tv [vS l3,vL a5 n5 dck5,vL a6 n6 dck6,vI i10,vI i11]/\tv [vS l4,vL a7 n7 dck7,vL a8 n8 dck8,vI i12]/\tv [vL a3 n3 dck3,vL a4 n4 dck4]/\tv [vL a1 n1 dck1,vL a2 n2 dck2]/\True))
 (∃ m14,m14 < m5/\I_2 m14 (IntKind.i64.wrap (i9+1)) h_10/\
 tv [vL a3 n3 dck3,vL a4 n4 dck4]/\tv [vL a1 n1 dck1,vL a2 n2 dck2]/\True)))))))
 (Q (vB true) h_4))))
theorem T18ppn {a1 n1 dck1 a2 n2 dck2 a3 n3 dck3 a4 n4 dck4 h Q} (hR:R18ppn a1 n1 dck1 a2 n2 dck2 a3 n3 dck3 a4 n4 dck4 h Q):Tri Tryz.prog 18 [vA [vL a1 n1 dck1,vL a2 n2 dck2],vA [vL a3 n3 dck3,vL a4 n4 dck4], .pointer none] h Q:=
 tri_of_dn mixed Tryz.func18 rfl (by kernel_rfl) low18 (rs:=[.tmp 6]) (by kernel_rfl) rfl (Eq.mpr (by kernel_rfl) hR)
def d55:DCode:=up ⟨[(24, .l dck1),(28, .l dck7),(30, .l [qi]),(32, .l [qi]),(36, .l [.str]),(38, .l [.str]),(44, .l [qi]),(46, .l [qi]),(48, .l [qi]),(49, .c (.one false [.bool])),(54, .l [.slice]),(56, .l [.slice]),(58, .c (.one false [.bool])),(63, .l [.slice]),(65, .l [.slice]),(67, .c (.one false [.bool])),(72, .l [.slice]),(74, .l [.slice]),(76, .c (.one false [.bool]))],[],[(15,68,[(7,qi)],[])]⟩ (lw nf Tryz.f55)
theorem low55:lw nf Tryz.f55=some (eC d55):=by kernel_rfl
def R55ppn (a1:OA) (n1 dck1:Nat) (a2:OA) (n2 dck2:Nat) (h:PHeap) (Q:Value->PHeap->Prop):Prop:=
 br ((n1:Int) != (n2:Int))
 (Q (vB false) h)
 (∃ (I_1:Nat->Int->PHeap->Prop),(∃ m2,I_1 m2 0 h)/\
 ∀ m1 i1 h_1,I_1 m1 i1 h_1->
 br (decide (i1 < (n1:Int)))
 (slt a1 i1 n1 fun b1 o1=>
 ∃ i2 l1 a3 n3 dck3 a4 n4 dck4 a5 n5 dck5 i3 i4,h_1.row b1 (o1+(i1).toNat * 7) [vI i2,vS l1,vL a3 n3 dck3,vL a4 n4 dck4,vL a5 n5 dck5,vI i3,vI i4]/\
 slt a2 i1 n2 fun b2 o2=>
 ∃ i5 l2 a6 n6 dck6 a7 n7 dck7 a8 n8 dck8 i6,h_1.row b2 (o2+(i1).toNat * 6) [vI i5,vS l2,vL a6 n6 dck6,vL a7 n7 dck7,vL a8 n8 dck8,vI i6]/\
 ((h_1.row b2 (o2+(i1).toNat * 6) [vI i5,vS l2,vL a6 n6 dck6,vL a7 n7 dck7,vL a8 n8 dck8,vI i6])/\
 (h_1.row b1 (o1+(i1).toNat * 7) [vI i2,vS l1,vL a3 n3 dck3,vL a4 n4 dck4,vL a5 n5 dck5,vI i3,vI i4])/\
 (h_1.row b2 (o2+(i1).toNat * 6) [vI i5,vS l2,vL a6 n6 dck6,vL a7 n7 dck7,vL a8 n8 dck8,vI i6])/\
 (h_1.row b1 (o1+(i1).toNat * 7) [vI i2,vS l1,vL a3 n3 dck3,vL a4 n4 dck4,vL a5 n5 dck5,vI i3,vI i4])/\
 (h_1.row b2 (o2+(i1).toNat * 6) [vI i5,vS l2,vL a6 n6 dck6,vL a7 n7 dck7,vL a8 n8 dck8,vI i6])/\
 br (i2 != i5)
 (Q (vB false) h_1)
 (br (!(l1 == l2))
 (Q (vB false) h_1)
 (tp 17 [.pointer none,vI i3,vI i4,vI i6] h_1 fun v_1 h_2=>
 ∃ c1,v_1=vB c1/\
 br (!c1)
 (Q (vB false) h_2)
 (tp 97 [vL a3 n3 dck3,vL a6 n6 dck6, .pointer none] h_2 fun v_2 h_3=>
 ∃ c2,v_2=vB c2/\
 br (!c2)
 (Q (vB false) h_3)
 (tp 55 [vL a4 n4 dck4,vL a7 n7 dck7, .pointer none] h_3 fun v_3 h_4=>
 ∃ c3,v_3=vB c3/\
 br (!c3)
 (Q (vB false) h_4)
 (tp 55 [vL a5 n5 dck5,vL a8 n8 dck8, .pointer none] h_4 fun v_4 h_5=>
 ∃ c4,v_4=vB c4/\
 br (!c4)
 (Q (vB false) h_5)
 (∃ m3,m3 < m1/\I_1 m3 (IntKind.i64.wrap (i1+1)) h_5/\
 True)))))))/\
 ((h_1.row b2 (o2+(i1).toNat * 6) [vI i5,vS l2,vL a6 n6 dck6,vL a7 n7 dck7,vL a8 n8 dck8,vI i6])/\
 (h_1.row b1 (o1+(i1).toNat * 7) [vI i2,vS l1,vL a3 n3 dck3,vL a4 n4 dck4,vL a5 n5 dck5,vI i3,vI i4])/\
 (h_1.row b2 (o2+(i1).toNat * 6) [vI i5,vS l2,vL a6 n6 dck6,vL a7 n7 dck7,vL a8 n8 dck8,vI i6])/\
 (h_1.row b1 (o1+(i1).toNat * 7) [vI i2,vS l1,vL a3 n3 dck3,vL a4 n4 dck4,vL a5 n5 dck5,vI i3,vI i4])/\
 (h_1.row b2 (o2+(i1).toNat * 6) [vI i5,vS l2,vL a6 n6 dck6,vL a7 n7 dck7,vL a8 n8 dck8,vI i6])/\
 br (i2 != i5)
 (Q (vB false) h_1)
 (br (!(l1 == l2))
 (Q (vB false) h_1)
 (tp 17 [.pointer none,vI i3,vI i4,vI i6] h_1 fun v_5 h_6=>
 ∃ c5,v_5=vB c5/\
 br (!c5)
 (Q (vB false) h_6)
 (tp 97 [vL a3 n3 dck3,vL a6 n6 dck6, .pointer none] h_6 fun v_6 h_7=>
 ∃ c6,v_6=vB c6/\
 br (!c6)
 (Q (vB false) h_7)
 (tp 55 [vL a4 n4 dck4,vL a7 n7 dck7, .pointer none] h_7 fun v_7 h_8=>
 ∃ c7,v_7=vB c7/\
 br (!c7)
 (Q (vB false) h_8)
 (tp 55 [vL a5 n5 dck5,vL a8 n8 dck8, .pointer none] h_8 fun v_8 h_9=>
 ∃ c8,v_8=vB c8/\
 br (!c8)
 (Q (vB false) h_9)
 (∃ m4,m4 < m1/\I_1 m4 (IntKind.i64.wrap (i1+1)) h_9/\
 True))))))))
 (Q (vB true) h_1))
theorem T55ppn {a1 n1 dck1 a2 n2 dck2 h Q} (hR:R55ppn a1 n1 dck1 a2 n2 dck2 h Q):Tri Tryz.prog 55 [vL a1 n1 dck1,vL a2 n2 dck2, .pointer none] h Q:=
 tri_of_dn mixed Tryz.func55 rfl (by kernel_rfl) low55 (rs:=[.tmp 6]) (by kernel_rfl) rfl (Eq.mpr (by kernel_rfl) hR)
def d97:DCode:=up ⟨[(24, .l dck4),(28, .l dck8),(30, .l [qi]),(32, .l [qi]),(36, .l [.str]),(38, .l [.str]),(43, .l [.str]),(45, .l [.str]),(50, .l [qi]),(52, .l [qi]),(57, .l [.str]),(59, .l [.str]),(65, .l [qi]),(67, .l [qi]),(69, .l [qi]),(70, .c (.one false [.bool])),(75, .l [.slice]),(77, .l [.slice]),(79, .c (.one false [.bool]))],[],[(15,71,[(7,qi)],[])]⟩ (lw nf Tryz.f97)
theorem low97:lw nf Tryz.f97=some (eC d97):=by kernel_rfl
def R97ppn (a1:OA) (n1 dck1:Nat) (a2:OA) (n2 dck2:Nat) (h:PHeap) (Q:Value->PHeap->Prop):Prop:=
 br ((n1:Int) != (n2:Int))
 (Q (vB false) h)
 (∃ (I_1:Nat->Int->PHeap->Prop),(∃ m2,I_1 m2 0 h)/\
 ∀ m1 i1 h_1,I_1 m1 i1 h_1->
 br (decide (i1 < (n1:Int)))
 (slt a1 i1 n1 fun b1 o1=>
 ∃ i2 l1 l2 i3 l3 a3 n3 dck3 i4 i5,h_1.row b1 (o1+(i1).toNat * 8) [vI i2,vS l1,vS l2,vI i3,vS l3,vL a3 n3 dck3,vI i4,vI i5]/\
 slt a2 i1 n2 fun b2 o2=>
 ∃ i6 l4 l5 i7 l6 a4 n4 dck4 i8,h_1.row b2 (o2+(i1).toNat * 7) [vI i6,vS l4,vS l5,vI i7,vS l6,vL a4 n4 dck4,vI i8]/\
 ((h_1.row b2 (o2+(i1).toNat * 7) [vI i6,vS l4,vS l5,vI i7,vS l6,vL a4 n4 dck4,vI i8])/\
 (h_1.row b1 (o1+(i1).toNat * 8) [vI i2,vS l1,vS l2,vI i3,vS l3,vL a3 n3 dck3,vI i4,vI i5])/\
 (h_1.row b2 (o2+(i1).toNat * 7) [vI i6,vS l4,vS l5,vI i7,vS l6,vL a4 n4 dck4,vI i8])/\
 (h_1.row b1 (o1+(i1).toNat * 8) [vI i2,vS l1,vS l2,vI i3,vS l3,vL a3 n3 dck3,vI i4,vI i5])/\
 (h_1.row b2 (o2+(i1).toNat * 7) [vI i6,vS l4,vS l5,vI i7,vS l6,vL a4 n4 dck4,vI i8])/\
 br (i2 != i6)
 (Q (vB false) h_1)
 (br (!(l1 == l4))
 (Q (vB false) h_1)
 (br (!(l2 == l5))
 (Q (vB false) h_1)
 (br (i3 != i7)
 (Q (vB false) h_1)
 (br (!(l3 == l6))
 (Q (vB false) h_1)
 (tp 17 [.pointer none,vI i4,vI i5,vI i8] h_1 fun v_1 h_2=>
 ∃ c1,v_1=vB c1/\
 br (!c1)
 (Q (vB false) h_2)
 (tp 97 [vL a3 n3 dck3,vL a4 n4 dck4, .pointer none] h_2 fun v_2 h_3=>
 ∃ c2,v_2=vB c2/\
 br (!c2)
 (Q (vB false) h_3)
 (∃ m3,m3 < m1/\I_1 m3 (IntKind.i64.wrap (i1+1)) h_3/\
 True))))))))/\
 ((h_1.row b2 (o2+(i1).toNat * 7) [vI i6,vS l4,vS l5,vI i7,vS l6,vL a4 n4 dck4,vI i8])/\
 (h_1.row b1 (o1+(i1).toNat * 8) [vI i2,vS l1,vS l2,vI i3,vS l3,vL a3 n3 dck3,vI i4,vI i5])/\
 (h_1.row b2 (o2+(i1).toNat * 7) [vI i6,vS l4,vS l5,vI i7,vS l6,vL a4 n4 dck4,vI i8])/\
 (h_1.row b1 (o1+(i1).toNat * 8) [vI i2,vS l1,vS l2,vI i3,vS l3,vL a3 n3 dck3,vI i4,vI i5])/\
 (h_1.row b2 (o2+(i1).toNat * 7) [vI i6,vS l4,vS l5,vI i7,vS l6,vL a4 n4 dck4,vI i8])/\
 br (i2 != i6)
 (Q (vB false) h_1)
 (br (!(l1 == l4))
 (Q (vB false) h_1)
 (br (!(l2 == l5))
 (Q (vB false) h_1)
 (br (i3 != i7)
 (Q (vB false) h_1)
 (br (!(l3 == l6))
 (Q (vB false) h_1)
 (tp 17 [.pointer none,vI i4,vI i5,vI i8] h_1 fun v_3 h_4=>
 ∃ c3,v_3=vB c3/\
 br (!c3)
 (Q (vB false) h_4)
 (tp 97 [vL a3 n3 dck3,vL a4 n4 dck4, .pointer none] h_4 fun v_4 h_5=>
 ∃ c4,v_4=vB c4/\
 br (!c4)
 (Q (vB false) h_5)
 (∃ m4,m4 < m1/\I_1 m4 (IntKind.i64.wrap (i1+1)) h_5/\
 True)))))))))
 (Q (vB true) h_1))
theorem T97ppn {a1 n1 dck1 a2 n2 dck2 h Q} (hR:R97ppn a1 n1 dck1 a2 n2 dck2 h Q):Tri Tryz.prog 97 [vL a1 n1 dck1,vL a2 n2 dck2, .pointer none] h Q:=
 tri_of_dn mixed Tryz.func97 rfl (by kernel_rfl) low97 (rs:=[.tmp 6]) (by kernel_rfl) rfl (Eq.mpr (by kernel_rfl) hR)
end
end Go.Proofs.D
namespace Go.Proofs.D
open Go Go.Den Go.Sx
theorem br_and {a r res:Bool} {X Y:Prop} (hres:(a && r)=res) (hf:res=false->X) (ht:a=true->r=res->Y):br (!a) X Y:=by
 cases a with
 | false=>exact hf hres.symm
 | true=>exact ht rfl hres
theorem br_and2 {a r res:Bool} {X Y:Prop} (hres:(a && r)=res) (hf:res=false->X) (ht:a=true->r=res->Y):br a Y X:=by
 cases a with
 | false=>exact hf hres.symm
 | true=>exact ht rfl hres
theorem int_beq (a b:Nat):(((a:Nat):Int) == ((b:Nat):Int))=(a == b):=by rw [Bool.eq_iff_iff,beq_iff_eq,beq_iff_eq];omega
theorem int_bne (a b:Nat):(((a:Nat):Int) != ((b:Nat):Int))= !(a == b):=by rw [bne,int_beq]
theorem eqE_c {k k' v v' p p':Nat} {o o' n n' t t':Bytes} {a a':List E} (r:Bool):(eqE (.mk k o n v t a p) (.mk k' o' n' v' t' a' p') && r)=(k == k' && (o == o' && (n == n' && (v == v' && (t == t' && (eqEs a a' && r)))))):=by simp [eqE,Bool.and_assoc]
end Go.Proofs.D
namespace Go.Proofs.D
open Go Go.Den Go.Sx
set_option maxRecDepth 100000
attribute [local irreducible] IntKind.wrap Tri parseS
def xa:E->List E | .mk _ _ _ _ _ args _=>args
theorem eqS_c {k k' p p':Nat} {n n':Bytes} {a a':List E} {b b' e e':List S} (r:Bool):(eqS (.mk k n a b e p) (.mk k' n' a' b' e' p') && r)=(k == k' && (n == n' && (eqEs a a' && (eqSs b b' && (eqSs e e' && r))))):=by simp [eqS,Bool.and_assoc]
theorem eqG_c {g g':G} (r:Bool):(eqG g g' && r)=(g.name == g'.name && (g.size == g'.size && (g.value == g'.value && r))):=by simp [eqG,Bool.and_assoc]
theorem beqL_len {l m:List Bytes} (h:l.length≠m.length):(l == m)=false:=by
 rw [beq_eq_false_iff_ne];intro e;exact h (by rw [e])
theorem beqL_drop {l m:List Bytes} {j:Nat} (hl:j < l.length) (hm:j < m.length):(l.drop j == m.drop j)=(l[j] == m[j] && (l.drop (j+1) == m.drop (j+1))):=by
 rw [List.drop_eq_getElem_cons hl,List.drop_eq_getElem_cons hm];rfl
theorem place_n {i j k:Int} {h:PHeap}:Tri Tryz.prog 17 [.pointer none,vI i,vI j,vI k] h fun v h'=>v=vB true/\h'=h:=by
 refine T17nppp ?_
 unfold R17nppp
 exact ⟨rfl,rfl⟩
section
variable {s : Bytes} {h : PHeap}
def EN (s:Bytes) (h:PHeap) (es es':List E):Prop:=∀ (a a':Option Addr) (c c':Nat),At 8 (RE (plP s) 8) h a es->At 7 (RE plR 7) h a' es'->
 Tri Tryz.prog 97 [vL a es.length c,vL a' es'.length c', .pointer none] h fun v h'=>v=vB (eqEs es es')/\h'=h
theorem exprs_n1 {es es':List E} (hl:es.length<=100000) (ih:∀ e∈es,∀ e'∈es',EN s h (xa e) (xa e')):EN s h es es':=by
 intro a a' c c' hA hA'
 refine T97ppn ?_
 unfold R97ppn
 by_cases hlen:es.length=es'.length
 . refine br_neg (by simp [hlen]) ?_
   refine ⟨fun m i h'=>h'=h/\∃ j:Nat,i=j/\j+m=es.length/\eqEs (es.drop j) (es'.drop j)=eqEs es es',⟨es.length,rfl,0,rfl,by omega,rfl⟩,?_⟩
   rintro m _ h1 ⟨rfl,j,rfl,hjm,hres⟩
   refine br_split (fun e=>?_) (fun e=>?_)
   . have hj:j < es.length:=by have:=of_decide_eq_true e;omega
     have hj':j < es'.length:=by omega
     obtain ⟨b,o,cs,ha,hr,hrel⟩:=hA.get hj
     obtain ⟨b',o',cs',ha',hr',hrel'⟩:=hA'.get hj'
     have ihj:=ih _ (List.getElem_mem hj) _ (List.getElem_mem hj')
     rw [eqEs_L,eqL_drop hj hj',←eqEs_L] at hres
     generalize es[j]=x at *
     generalize es'[j]=y at *
     match x,y,hrel,hrel',ihj,hres with
     | .mk kd op nm vl tx args pos, .mk kd' op' nm' vl' tx' args' pos',hrel,hrel',ihj,hres=>
     obtain ⟨a1,c1,rfl,hA1⟩:=RE_iff.1 hrel
     obtain ⟨a2,c2,rfl,hA2⟩:=RE_iff.1 hrel'
     rw [eqE_c] at hres
     refine ⟨b,o,ha,⟨by omega,by omega⟩,_,_,_,_,_,_,_,_,_,_,hr,b',o',ha',⟨by omega,by omega⟩,_,_,_,_,_,_,_,_,_,hr',⟨hr',hr,hr',hr,hr',?_⟩,⟨hr',hr,hr',hr,hr',?_⟩⟩
     all_goals
      rw [int_bne]
      refine br_and hres (fun e=>⟨by rw [e],rfl⟩) (fun _ hres=>?_)
      refine br_and hres (fun e=>⟨by rw [e],rfl⟩) (fun _ hres=>?_)
      refine br_and hres (fun e=>⟨by rw [e],rfl⟩) (fun _ hres=>?_)
      rw [int_bne]
      refine br_and hres (fun e=>⟨by rw [e],rfl⟩) (fun _ hres=>?_)
      refine br_and hres (fun e=>⟨by rw [e],rfl⟩) (fun _ hres=>?_)
      refine Tri.mono place_n ?_
      rintro _ h ⟨rfl,rfl⟩
      refine ⟨_,rfl,br_neg rfl ?_⟩
      refine Tri.mono (ihj a1 a2 c1 c2 hA1 hA2) ?_
      rintro _ h ⟨rfl,rfl⟩
      refine ⟨_,rfl,br_and hres (fun e=>⟨by rw [e],rfl⟩) (fun _ hres=>?_)⟩
      refine ⟨m - 1,by omega,⟨rfl,j+1,?_,by omega,hres⟩,trivial⟩
      rw [wrap64 (by omega) (by omega)];rfl
   . have hj:es.length<=j:=by have:=of_decide_eq_false e;omega
     rw [List.drop_eq_nil_of_le hj,List.drop_eq_nil_of_le (by omega)] at hres
     exact ⟨by rw [←hres];rfl,rfl⟩
 . refine br_pos (by rw [int_bne];simp [hlen]) ⟨?_,rfl⟩
   rw [eqEs_L,eqL_len hlen]
theorem exprs_n:∀ k (es es':List E),cntEs es<=k->k<=100000->EN s h es es':=by
 intro k
 induction k with
 | zero=>
   intro es es' hc _
   have hl:=cntEs_len es
   have:es=[]:=List.eq_nil_of_length_eq_zero (by omega)
   subst this
   exact exprs_n1 (by simp) (fun e he=>by cases he)
 | succ k ih=>
   intro es es' hc hk
   have hl:=cntEs_len es
   refine exprs_n1 (by omega) (fun e he e' _=>ih _ _ ?_ (by omega))
   have:=cntEs_mem he
   cases e with
   | mk kd op nm vl tx args pos=>simp only [cntE] at this;simp only [xa];omega
def SN (s:Bytes) (h:PHeap) (es es':List S):Prop:=∀ (a a':Option Addr) (c c':Nat),At 7 (RS (plP s) 8 7) h a es->At 6 (RS plR 7 6) h a' es'->
 Tri Tryz.prog 55 [vL a es.length c,vL a' es'.length c', .pointer none] h fun v h'=>v=vB (eqSs es es')/\h'=h
def sa:S->List E | .mk _ _ a _ _ _=>a
def sb:S->List S | .mk _ _ _ b _ _=>b
def se:S->List S | .mk _ _ _ _ e _=>e
theorem stmts_n1 {es es':List S} (hl:es.length<=100000) (ih0:∀ e∈es,cntEs (sa e)<=100000) (ih:∀ e∈es,∀ e'∈es',SN s h (sb e) (sb e')/\SN s h (se e) (se e')):SN s h es es':=by
 intro a a' c c' hA hA'
 refine T55ppn ?_
 unfold R55ppn
 by_cases hlen:es.length=es'.length
 . refine br_neg (by simp [hlen]) ?_
   refine ⟨fun m i h'=>h'=h/\∃ j:Nat,i=j/\j+m=es.length/\eqSs (es.drop j) (es'.drop j)=eqSs es es',⟨es.length,rfl,0,rfl,by omega,rfl⟩,?_⟩
   rintro m _ h1 ⟨rfl,j,rfl,hjm,hres⟩
   refine br_split (fun e=>?_) (fun e=>?_)
   . have hj:j < es.length:=by have:=of_decide_eq_true e;omega
     have hj':j < es'.length:=by omega
     obtain ⟨b,o,cs,ha,hr,hrel⟩:=hA.get hj
     obtain ⟨b',o',cs',ha',hr',hrel'⟩:=hA'.get hj'
     have ihj:=ih _ (List.getElem_mem hj) _ (List.getElem_mem hj')
     have ih0j:=ih0 _ (List.getElem_mem hj)
     rw [eqSs_L,eqL_drop hj hj',←eqSs_L] at hres
     generalize es[j]=x at *
     generalize es'[j]=y at *
     match x,y,hrel,hrel',ihj,hres,ih0j with
     | .mk kd nm args body els pos, .mk kd' nm' args' body' els' pos',hrel,hrel',ihj,hres,ih0j=>
     obtain ⟨a1,c1,b1,d1,e1,f1,rfl,hA1,hB1,hE1⟩:=RS_iff.1 hrel
     obtain ⟨a2,c2,b2,d2,e2,f2,rfl,hA2,hB2,hE2⟩:=RS_iff.1 hrel'
     rw [eqS_c] at hres
     refine ⟨b,o,ha,⟨by omega,by omega⟩,_,_,_,_,_,_,_,_,_,_,_,_,_,hr,b',o',ha',⟨by omega,by omega⟩,_,_,_,_,_,_,_,_,_,_,_,_,hr',⟨hr',hr,hr',hr,hr',?_⟩,⟨hr',hr,hr',hr,hr',?_⟩⟩
     all_goals
      rw [int_bne]
      refine br_and hres (fun e=>⟨by rw [e],rfl⟩) (fun _ hres=>?_)
      refine br_and hres (fun e=>⟨by rw [e],rfl⟩) (fun _ hres=>?_)
      refine Tri.mono place_n ?_
      rintro _ h ⟨rfl,rfl⟩
      refine ⟨_,rfl,br_neg rfl ?_⟩
      refine Tri.mono (exprs_n 100000 args args' ih0j (Nat.le_refl _) a1 a2 c1 c2 hA1 hA2) ?_
      rintro _ h ⟨rfl,rfl⟩
      refine ⟨_,rfl,br_and hres (fun e=>⟨by rw [e],rfl⟩) (fun _ hres=>?_)⟩
      refine Tri.mono (ihj.1 b1 b2 d1 d2 hB1 hB2) ?_
      rintro _ h ⟨rfl,rfl⟩
      refine ⟨_,rfl,br_and hres (fun e=>⟨by rw [e],rfl⟩) (fun _ hres=>?_)⟩
      refine Tri.mono (ihj.2 e1 e2 f1 f2 hE1 hE2) ?_
      rintro _ h ⟨rfl,rfl⟩
      refine ⟨_,rfl,br_and hres (fun e=>⟨by rw [e],rfl⟩) (fun _ hres=>?_)⟩
      refine ⟨m - 1,by omega,⟨rfl,j+1,?_,by omega,hres⟩,trivial⟩
      rw [wrap64 (by omega) (by omega)];rfl
   . have hj:es.length<=j:=by have:=of_decide_eq_false e;omega
     rw [List.drop_eq_nil_of_le hj,List.drop_eq_nil_of_le (by omega)] at hres
     exact ⟨by rw [←hres];rfl,rfl⟩
 . refine br_pos (by rw [int_bne];simp [hlen]) ⟨?_,rfl⟩
   rw [eqSs_L,eqL_len hlen]
theorem cnt_parts {e:S} {es:List S} {k:Nat} (he:e∈es) (hc:cntSs es<=k+1):cntEs (sa e)<=k/\cntSs (sb e)<=k/\cntSs (se e)<=k:=by
 have:=cntSs_mem he
 cases e with
 | mk kd nm args body els pos=>simp only [cntS] at this;simp only [sa,sb,se];omega
theorem stmts_n:∀ k (es es':List S),cntSs es<=k->k<=100000->SN s h es es':=by
 intro k
 induction k with
 | zero=>
   intro es es' hc _
   have hl:=cntSs_len es
   have:es=[]:=List.eq_nil_of_length_eq_zero (by omega)
   subst this
   exact stmts_n1 (by simp) (fun e he=>by cases he) (fun e he=>by cases he)
 | succ k ih=>
   intro es es' hc hk
   have hl:=cntSs_len es
   exact stmts_n1 (by omega) (fun e he=>by have:=cnt_parts he hc;omega) (fun e he e' _=>⟨ih _ _ (cnt_parts he hc).2.1 (by omega),ih _ _ (cnt_parts he hc).2.2 (by omega)⟩)
theorem eqF_c {g g':F} (r:Bool):(eqF g g' && r)=(g.name == g'.name && (g.params == g'.params && (eqSs g.body g'.body && r))):=by simp [eqF,Bool.and_assoc]
theorem eqL_nil {α:Type} {q:α->α->Bool} {l m:List α} {j:Nat} (h:l.length<=j) (h':m.length<=j):eqL q (l.drop j) (m.drop j)=true:=by
 rw [List.drop_eq_nil_of_le h,List.drop_eq_nil_of_le h'];rfl
theorem same_n (p q:Pg) (hc:cntP p<=10000)
 {ga fa ga' fa':Option Addr} {gc fc gc' fc':Nat} (hG:At 5 (RG (plP s)) h ga p.globals) (hF:At 5 (RF (plP s) 8 7) h fa p.funcs) (hG':At 4 (RG plR) h ga' q.globals) (hF':At 4 (RF plR 7 6) h fa' q.funcs):
 Tri Tryz.prog 18 [vA [vL ga p.globals.length gc,vL fa p.funcs.length fc],vA [vL ga' q.globals.length gc',vL fa' q.funcs.length fc'], .pointer none] h fun v h'=>v=vB (eqP p q)/\h'=h:=by
 refine T18ppn ?_
 unfold R18ppn
 have hfl:=cntFs_len p.funcs
 simp only [cntP] at hc
 by_cases hlg:p.globals.length≠q.globals.length
 . refine br_pos (by rw [int_bne];simp [hlg]) ⟨?_,rfl⟩
   rw [eqP,eqL_len hlg];rfl
 have hlg:=Decidable.not_not.1 hlg
 refine br_neg (by simp [hlg]) ?_
 by_cases hlf:p.funcs.length≠q.funcs.length
 . refine br_pos (by rw [int_bne];simp [hlf]) ⟨?_,rfl⟩
   rw [eqP,eqL_len hlf,Bool.and_false]
 have hlf:=Decidable.not_not.1 hlf
 refine br_neg (by simp [hlf]) ?_
 refine ⟨fun m i h'=>h'=h/\∃ n:Nat,i=n/\n+m=p.globals.length/\(eqL eqG (p.globals.drop n) (q.globals.drop n) && eqL eqF p.funcs q.funcs)=eqP p q,⟨p.globals.length,rfl,0,rfl,by omega,rfl⟩,?_⟩
 rintro m _ h ⟨rfl,n,rfl,hnm,hres⟩
 refine br_split (fun e=>?_) (fun e=>?_)
 . have hn:n < p.globals.length:=by
    have:=of_decide_eq_true e
    omega
   have hn':n < q.globals.length:=by omega
   obtain ⟨b,o,cs,ha,hr,hrel⟩:=hG.get hn
   obtain ⟨b',o',cs',ha',hr',hrel'⟩:=hG'.get hn'
   rw [eqL_drop hn hn',Bool.and_assoc,eqG_c] at hres
   generalize p.globals[n]=x at *
   generalize q.globals[n]=y at *
   have hrel:cs=[vS x.name,vI x.size,vI x.value]++plP s x.pos:=hrel
   have hrel':cs'=[vS y.name,vI y.size,vI y.value]++plR y.pos:=hrel'
   subst hrel;subst hrel'
   refine ⟨b,o,ha,⟨by omega,by omega⟩,_,_,_,_,_,hr,b',o',ha',⟨by omega,by omega⟩,_,_,_,_,hr',⟨hr',rfl,hr,rfl,hr',rfl,hr,rfl,hr',rfl,?_⟩,⟨hr',rfl,hr,rfl,hr',rfl,hr,rfl,hr',rfl,?_⟩⟩
   all_goals
    refine br_and hres (fun e=>⟨by rw [e],rfl⟩) (fun _ hres=>?_)
    rw [int_bne]
    refine br_and hres (fun e=>⟨by rw [e],rfl⟩) (fun _ hres=>?_)
    rw [int_bne]
    refine br_and hres (fun e=>⟨by rw [e],rfl⟩) (fun _ hres=>?_)
    refine Tri.mono place_n ?_
    rintro _ h ⟨rfl,rfl⟩
    refine ⟨_,rfl,br_neg rfl ⟨m - 1,by omega,⟨rfl,n+1,?_,by omega,hres⟩,rfl,rfl,trivial⟩⟩
    rw [wrap64 (by omega) (by omega)];rfl
 . have hn:p.globals.length<=n:=by have:=of_decide_eq_false e;omega
   rw [eqL_nil hn (by omega),Bool.true_and] at hres
   refine ⟨fun m i h'=>h'=h/\∃ n:Nat,i=n/\n+m=p.funcs.length/\eqL eqF (p.funcs.drop n) (q.funcs.drop n)=eqP p q,⟨p.funcs.length,rfl,0,rfl,by omega,hres⟩,?_⟩
   clear hres
   rintro m _ h ⟨rfl,n,rfl,hnm,hres⟩
   refine br_split (fun e=>?_) (fun e=>?_)
   . have hn:n < p.funcs.length:=by
      have:=of_decide_eq_true e
      omega
     have hn':n < q.funcs.length:=by omega
     obtain ⟨b,o,cs,ha,hr,hrel⟩:=hF.get hn
     obtain ⟨b',o',cs',ha',hr',hrel'⟩:=hF'.get hn'
     have hcf:=cntFs_mem (List.getElem_mem hn)
     rw [eqL_drop hn hn',eqF_c] at hres
     generalize p.funcs[n]=x at *
     generalize q.funcs[n]=y at *
     obtain ⟨a1,c1,b1,d1,rfl,hP1,hB1,_⟩:=hrel
     obtain ⟨a2,c2,b2,d2,rfl,hP2,hB2,_⟩:=hrel'
     simp only [cntF] at hcf
     refine ⟨b,o,ha,⟨by omega,by omega⟩,_,_,_,_,_,_,_,_,_,hr,b',o',ha',⟨by omega,by omega⟩,_,_,_,_,_,_,_,_,hr',⟨hr',rfl,hr,rfl,hr',rfl,hr,rfl,hr',rfl,?_⟩,⟨hr',rfl,hr,rfl,hr',rfl,hr,rfl,hr',rfl,?_⟩⟩
     all_goals
      refine br_and hres (fun e=>⟨by rw [e],rfl⟩) (fun _ hres=>?_)
      by_cases hlp:x.params.length≠y.params.length
      . refine br_pos (by rw [int_bne];simp [hlp]) ⟨?_,rfl⟩
        rw [beqL_len hlp] at hres
        rw [←hres];rfl
      have hlp:=Decidable.not_not.1 hlp
      refine br_neg (by simp [hlp]) ?_
      refine Tri.mono place_n ?_
      rintro _ h ⟨rfl,rfl⟩
      refine ⟨_,rfl,br_neg rfl ?_⟩
      refine Tri.mono (stmts_n 100000 x.body y.body (by omega) (Nat.le_refl _) b1 b2 d1 d2 hB1 hB2) ?_
      rintro _ h ⟨rfl,rfl⟩
      rw [Bool.and_left_comm] at hres
      refine ⟨_,rfl,br_and hres (fun e=>⟨by rw [e],rfl⟩) (fun _ hres=>?_)⟩
      refine ⟨fun m' i h'=>h'=h/\∃ q':Nat,i=q'/\q'+m'=x.params.length/\(x.params.drop q' == y.params.drop q' && eqL eqF (p.funcs.drop (n+1)) (q.funcs.drop (n+1)))=eqP p q,⟨x.params.length,rfl,0,rfl,by omega,hres⟩,?_⟩
      clear hres
      rintro m' _ h ⟨rfl,q',rfl,hqm,hres⟩
      refine br_split (fun e2=>?_) (fun e2=>?_)
      . have hq:q' < x.params.length:=by
         have:=of_decide_eq_true e2
         omega
        have hq':q' < y.params.length:=by omega
        obtain ⟨b3,o3,cs3,ha3,hr3,hrel3⟩:=hP1.get hq
        obtain ⟨b4,o4,cs4,ha4,hr4,hrel4⟩:=hP2.get hq'
        have hrel3:cs3=[vS x.params[q']]:=hrel3
        have hrel4:cs4=[vS y.params[q']]:=hrel4
        subst hrel3;subst hrel4
        rw [beqL_drop hq hq',Bool.and_assoc] at hres
        refine ⟨b3,o3,ha3,⟨by omega,by omega⟩,_,hr3,b4,o4,ha4,⟨by omega,by omega⟩,_,hr4,br_and hres (fun e=>⟨by rw [e],rfl⟩) (fun _ hres=>⟨m' - 1,by omega,⟨rfl,q'+1,?_,by omega,hres⟩,rfl,rfl,rfl,rfl,trivial⟩)⟩
        rw [wrap64 (by omega) (by omega)];rfl
      . have hq:x.params.length<=q':=by have:=of_decide_eq_false e2;omega
        rw [List.drop_eq_nil_of_le hq,List.drop_eq_nil_of_le (by omega)] at hres
        have hres:eqL eqF (p.funcs.drop (n+1)) (q.funcs.drop (n+1))=eqP p q:=by simpa using hres
        refine ⟨m - 1,by omega,⟨rfl,n+1,?_,by omega,hres⟩,rfl,rfl,trivial⟩
        rw [wrap64 (by omega) (by omega)];rfl
   . have hn:p.funcs.length<=n:=by have:=of_decide_eq_false e;omega
     rw [eqL_nil hn (by omega)] at hres
     exact ⟨by rw [←hres],rfl⟩
end
end Go.Proofs.D
namespace Go.Proofs.D
open Go Go.Den Go.Sx
set_option maxRecDepth 100000
attribute [local irreducible] IntKind.wrap Tri parseS
section
variable {s t : Bytes} {h : PHeap}
def EE (s t:Bytes) (h:PHeap) (e e':E):Prop:=∀ cs cs',RE (plP s) 8 h e cs->RE (plP t) 8 h e' cs'->Tri Tryz.prog 122 [vA cs,vA cs'] h fun v h'=>v=vB (eqE e e')/\h'=h
theorem sameEs1 {es es':List E} (hl:es.length<=100000) (ih:∀ e∈es,∀ e'∈es',EE s t h e e') {a a':Option Addr} {c c':Nat} (hA:At 8 (RE (plP s) 8) h a es) (hA':At 8 (RE (plP t) 8) h a' es'):
 Tri Tryz.prog 121 [vL a es.length c,vL a' es'.length c',vF 122 [] []] h fun v h'=>v=vB (eqEs es es')/\h'=h:=by
 refine T121 ?_
 unfold R121
 by_cases hlen:es.length=es'.length
 . refine br_neg (by simp [hlen]) ?_
   refine ⟨fun m i h'=>h'=h/\∃ j:Nat,i=j/\j+m=es.length/\eqEs (es.drop j) (es'.drop j)=eqEs es es',⟨es.length,rfl,0,rfl,by omega,rfl⟩,?_⟩
   rintro m _ h1 ⟨rfl,j,rfl,hjm,hres⟩
   refine br_split (fun e=>?_) (fun e=>?_)
   . have hj:j < es.length:=by have:=of_decide_eq_true e;omega
     have hj':j < es'.length:=by omega
     obtain ⟨b,o,cs,ha,hr,hrel⟩:=hA.get hj
     obtain ⟨b',o',cs',ha',hr',hrel'⟩:=hA'.get hj'
     have ihj:=ih _ (List.getElem_mem hj) _ (List.getElem_mem hj') _ _ hrel hrel'
     rw [eqEs_L,eqL_drop hj hj',←eqEs_L] at hres
     generalize es[j]=x at *
     generalize es'[j]=y at *
     match x,y,hrel,hrel' with
     | .mk kd op nm vl tx args pos, .mk kd' op' nm' vl' tx' args' pos',hrel,hrel'=>
     obtain ⟨a1,c1,rfl,hA1⟩:=RE_iff.1 hrel
     obtain ⟨a2,c2,rfl,hA2⟩:=RE_iff.1 hrel'
     refine ⟨b,o,ha,⟨by omega,by omega⟩,_,_,_,_,_,_,_,_,_,_,hr,b',o',ha',⟨by omega,by omega⟩,_,_,_,_,_,_,_,_,_,_,hr',?_⟩
     refine Tri.mono ihj ?_
     rintro _ h ⟨rfl,rfl⟩
     refine ⟨_,rfl,br_and hres (fun e=>⟨by rw [e],rfl⟩) (fun _ hres=>?_)⟩
     refine ⟨m - 1,by omega,⟨rfl,j+1,?_,by omega,hres⟩,trivial⟩
     rw [wrap64 (by omega) (by omega)];rfl
   . have hj:es.length<=j:=by have:=of_decide_eq_false e;omega
     rw [List.drop_eq_nil_of_le hj,List.drop_eq_nil_of_le (by omega)] at hres
     exact ⟨by rw [←hres];rfl,rfl⟩
 . refine br_pos (by rw [int_bne];simp [hlen]) ⟨?_,rfl⟩
   rw [eqEs_L,eqL_len hlen]
theorem sameE:∀ k (e e':E),cntE e<=k->k<=100000->EE s t h e e':=by
 intro k
 induction k with
 | zero=>intro e e' hc;have:=cntE_pos e;omega
 | succ k ih=>
   intro e e' hc hk cs cs' hrel hrel'
   match e,e',hc,hrel,hrel' with
   | .mk kd op nm vl tx args pos, .mk kd' op' nm' vl' tx' args' pos',hc,hrel,hrel'=>
   obtain ⟨a1,c1,rfl,hA1⟩:=RE_iff.1 hrel
   obtain ⟨a2,c2,rfl,hA2⟩:=RE_iff.1 hrel'
   simp only [cntE] at hc
   have hl:=cntEs_len args
   have hres:=eqE_c (k:=kd) (k':=kd') (v:=vl) (v':=vl') (p:=pos) (p':=pos') (o:=op) (o':=op') (n:=nm) (n':=nm') (t:=tx) (t':=tx') (a:=args) (a':=args') true
   rw [Bool.and_true] at hres
   replace hres:=hres.symm
   refine T122 ?_
   unfold R122
   rw [int_beq]
   refine br_and2 hres (fun e=>⟨by rw [e],rfl⟩) (fun _ hres=>?_)
   refine br_and2 hres (fun e=>⟨by rw [e],rfl⟩) (fun _ hres=>?_)
   refine br_and2 hres (fun e=>⟨by rw [e],rfl⟩) (fun _ hres=>?_)
   rw [int_beq]
   refine br_and2 hres (fun e=>⟨by rw [e],rfl⟩) (fun _ hres=>?_)
   refine br_and2 hres (fun e=>⟨by rw [e],rfl⟩) (fun _ hres=>?_)
   refine Tri.mono (sameEs1 (by omega) (fun e he e' _=>ih e e' (by have:=cntEs_mem he;omega) (by omega)) hA1 hA2) ?_
   rintro _ h ⟨rfl,rfl⟩
   exact ⟨_,rfl,by rw [←hres,Bool.and_true],rfl⟩
theorem sameEs {es es':List E} (hc:cntEs es<=100000) {a a':Option Addr} {c c':Nat} (hA:At 8 (RE (plP s) 8) h a es) (hA':At 8 (RE (plP t) 8) h a' es'):
 Tri Tryz.prog 121 [vL a es.length c,vL a' es'.length c',vF 122 [] []] h fun v h'=>v=vB (eqEs es es')/\h'=h:=
 sameEs1 (by have:=cntEs_len es;omega) (fun e he e' _=>sameE 100000 e e' (by have:=cntEs_mem he;omega) (Nat.le_refl _)) hA hA'
def SE (s t:Bytes) (h:PHeap) (e e':S):Prop:=∀ cs cs',RS (plP s) 8 7 h e cs->RS (plP t) 8 7 h e' cs'->Tri Tryz.prog 76 [vA cs,vA cs'] h fun v h'=>v=vB (eqS e e')/\h'=h
theorem sameSs1 {es es':List S} (hl:es.length<=100000) (ih:∀ e∈es,∀ e'∈es',SE s t h e e') {a a':Option Addr} {c c':Nat} (hA:At 7 (RS (plP s) 8 7) h a es) (hA':At 7 (RS (plP t) 8 7) h a' es'):
 Tri Tryz.prog 75 [vL a es.length c,vL a' es'.length c',vF 76 [] []] h fun v h'=>v=vB (eqSs es es')/\h'=h:=by
 refine T75 ?_
 unfold R75
 by_cases hlen:es.length=es'.length
 . refine br_neg (by simp [hlen]) ?_
   refine ⟨fun m i h'=>h'=h/\∃ j:Nat,i=j/\j+m=es.length/\eqSs (es.drop j) (es'.drop j)=eqSs es es',⟨es.length,rfl,0,rfl,by omega,rfl⟩,?_⟩
   rintro m _ h1 ⟨rfl,j,rfl,hjm,hres⟩
   refine br_split (fun e=>?_) (fun e=>?_)
   . have hj:j < es.length:=by have:=of_decide_eq_true e;omega
     have hj':j < es'.length:=by omega
     obtain ⟨b,o,cs,ha,hr,hrel⟩:=hA.get hj
     obtain ⟨b',o',cs',ha',hr',hrel'⟩:=hA'.get hj'
     have ihj:=ih _ (List.getElem_mem hj) _ (List.getElem_mem hj') _ _ hrel hrel'
     rw [eqSs_L,eqL_drop hj hj',←eqSs_L] at hres
     generalize es[j]=x at *
     generalize es'[j]=y at *
     match x,y,hrel,hrel' with
     | .mk kd nm args body els pos, .mk kd' nm' args' body' els' pos',hrel,hrel'=>
     obtain ⟨a1,c1,b1,d1,e1,f1,rfl,hA1,hB1,hE1⟩:=RS_iff.1 hrel
     obtain ⟨a2,c2,b2,d2,e2,f2,rfl,hA2,hB2,hE2⟩:=RS_iff.1 hrel'
     refine ⟨b,o,ha,⟨by omega,by omega⟩,_,_,_,_,_,_,_,_,_,_,_,_,_,hr,b',o',ha',⟨by omega,by omega⟩,_,_,_,_,_,_,_,_,_,_,_,_,_,hr',?_⟩
     refine Tri.mono ihj ?_
     rintro _ h ⟨rfl,rfl⟩
     refine ⟨_,rfl,br_and hres (fun e=>⟨by rw [e],rfl⟩) (fun _ hres=>?_)⟩
     refine ⟨m - 1,by omega,⟨rfl,j+1,?_,by omega,hres⟩,trivial⟩
     rw [wrap64 (by omega) (by omega)];rfl
   . have hj:es.length<=j:=by have:=of_decide_eq_false e;omega
     rw [List.drop_eq_nil_of_le hj,List.drop_eq_nil_of_le (by omega)] at hres
     exact ⟨by rw [←hres];rfl,rfl⟩
 . refine br_pos (by rw [int_bne];simp [hlen]) ⟨?_,rfl⟩
   rw [eqSs_L,eqL_len hlen]
theorem sameS:∀ k (e e':S),cntS e<=k->k<=100000->SE s t h e e':=by
 intro k
 induction k with
 | zero=>intro e e' hc;have:=cntS_pos e;omega
 | succ k ih=>
   intro e e' hc hk cs cs' hrel hrel'
   match e,e',hc,hrel,hrel' with
   | .mk kd nm args body els pos, .mk kd' nm' args' body' els' pos',hc,hrel,hrel'=>
   obtain ⟨a1,c1,b1,d1,e1,f1,rfl,hA1,hB1,hE1⟩:=RS_iff.1 hrel
   obtain ⟨a2,c2,b2,d2,e2,f2,rfl,hA2,hB2,hE2⟩:=RS_iff.1 hrel'
   simp only [cntS] at hc
   have hl1:=cntSs_len body
   have hl2:=cntSs_len els
   have hres:=eqS_c (k:=kd) (k':=kd') (p:=pos) (p':=pos') (n:=nm) (n':=nm') (a:=args) (a':=args') (b:=body) (b':=body') (e:=els) (e':=els') true
   rw [Bool.and_true] at hres
   replace hres:=hres.symm
   refine T76 ?_
   unfold R76
   rw [int_beq]
   refine br_and2 hres (fun e=>⟨by rw [e],rfl⟩) (fun _ hres=>?_)
   refine br_and2 hres (fun e=>⟨by rw [e],rfl⟩) (fun _ hres=>?_)
   refine Tri.mono (sameEs (by omega) hA1 hA2) ?_
   rintro _ h ⟨rfl,rfl⟩
   refine ⟨_,rfl,br_and2 hres (fun e=>⟨by rw [e],rfl⟩) (fun _ hres=>?_)⟩
   refine Tri.mono (sameSs1 (by omega) (fun e he e' _=>ih e e' (by have:=cntSs_mem he;omega) (by omega)) hB1 hB2) ?_
   rintro _ h ⟨rfl,rfl⟩
   refine ⟨_,rfl,br_and2 hres (fun e=>⟨by rw [e],rfl⟩) (fun _ hres=>?_)⟩
   refine Tri.mono (sameSs1 (by omega) (fun e he e' _=>ih e e' (by have:=cntSs_mem he;omega) (by omega)) hE1 hE2) ?_
   rintro _ h ⟨rfl,rfl⟩
   exact ⟨_,rfl,by rw [←hres,Bool.and_true],rfl⟩
theorem sameSs {es es':List S} (hc:cntSs es<=100000) {a a':Option Addr} {c c':Nat} (hA:At 7 (RS (plP s) 8 7) h a es) (hA':At 7 (RS (plP t) 8 7) h a' es'):
 Tri Tryz.prog 75 [vL a es.length c,vL a' es'.length c',vF 76 [] []] h fun v h'=>v=vB (eqSs es es')/\h'=h:=
 sameSs1 (by have:=cntSs_len es;omega) (fun e he e' _=>sameS 100000 e e' (by have:=cntSs_mem he;omega) (Nat.le_refl _)) hA hA'
theorem equal_t {l l':List Bytes} (hl:l.length<=100000) {a a':Option Addr} {c c':Nat} (hA:At 1 (fun _ x cs=>cs=[vS x]) h a l) (hA':At 1 (fun _ x cs=>cs=[vS x]) h a' l'):
 Tri Tryz.prog 74 [vL a l.length c,vL a' l'.length c'] h fun v h'=>v=vB (l == l')/\h'=h:=by
 refine T74 ?_
 unfold R74
 by_cases hlen:l.length=l'.length
 . refine br_neg (by simp [hlen]) ?_
   refine ⟨fun m i h'=>h'=h/\∃ j:Nat,i=j/\j+m=l.length/\(l.drop j == l'.drop j)=(l == l'),⟨l.length,rfl,0,rfl,by omega,rfl⟩,?_⟩
   rintro m _ h1 ⟨rfl,j,rfl,hjm,hres⟩
   refine br_split (fun e=>?_) (fun e=>?_)
   . have hj:j < l.length:=by have:=of_decide_eq_true e;omega
     have hj':j < l'.length:=by omega
     obtain ⟨b,o,cs,ha,hr,hrel⟩:=hA.get hj
     obtain ⟨b',o',cs',ha',hr',hrel'⟩:=hA'.get hj'
     have hrel:cs=[vS l[j]]:=hrel
     have hrel':cs'=[vS l'[j]]:=hrel'
     subst hrel;subst hrel'
     rw [beqL_drop hj hj'] at hres
     refine ⟨b,o,ha,⟨by omega,by omega⟩,_,hr,b',o',ha',⟨by omega,by omega⟩,_,hr',br_and hres (fun e=>⟨by rw [e],rfl⟩) (fun _ hres=>?_)⟩
     refine ⟨m - 1,by omega,⟨rfl,j+1,?_,by omega,hres⟩,trivial⟩
     rw [wrap64 (by omega) (by omega)];rfl
   . have hj:l.length<=j:=by have:=of_decide_eq_false e;omega
     rw [List.drop_eq_nil_of_le hj,List.drop_eq_nil_of_le (by omega)] at hres
     exact ⟨by rw [←hres];rfl,rfl⟩
 . refine br_pos (by rw [int_bne];simp [hlen]) ⟨?_,rfl⟩
   rw [beqL_len hlen]
theorem sameGs {es es':List G} (hl:es.length<=100000) {a a':Option Addr} {c c':Nat} (hA:At 5 (RG (plP s)) h a es) (hA':At 5 (RG (plP t)) h a' es'):
 Tri Tryz.prog 77 [vL a es.length c,vL a' es'.length c',vF 72 [] []] h fun v h'=>v=vB (eqL eqG es es')/\h'=h:=by
 refine T77 ?_
 unfold R77
 by_cases hlen:es.length=es'.length
 . refine br_neg (by simp [hlen]) ?_
   refine ⟨fun m i h'=>h'=h/\∃ j:Nat,i=j/\j+m=es.length/\eqL eqG (es.drop j) (es'.drop j)=eqL eqG es es',⟨es.length,rfl,0,rfl,by omega,rfl⟩,?_⟩
   rintro m _ h1 ⟨rfl,j,rfl,hjm,hres⟩
   refine br_split (fun e=>?_) (fun e=>?_)
   . have hj:j < es.length:=by have:=of_decide_eq_true e;omega
     have hj':j < es'.length:=by omega
     obtain ⟨b,o,cs,ha,hr,hrel⟩:=hA.get hj
     obtain ⟨b',o',cs',ha',hr',hrel'⟩:=hA'.get hj'
     rw [eqL_drop hj hj'] at hres
     generalize es[j]=x at *
     generalize es'[j]=y at *
     have hrel:cs=[vS x.name,vI x.size,vI x.value]++plP s x.pos:=hrel
     have hrel':cs'=[vS y.name,vI y.size,vI y.value]++plP t y.pos:=hrel'
     subst hrel;subst hrel'
     have hE:Tri Tryz.prog 72 [vA ([vS x.name,vI x.size,vI x.value]++plP s x.pos),vA ([vS y.name,vI y.size,vI y.value]++plP t y.pos)] h1 fun v h'=>v=vB (eqG x y)/\h'=h1:=by
      refine T72 ?_
      unfold R72
      have hg:=eqG_c (g:=x) (g':=y) true
      rw [Bool.and_true] at hg
      replace hg:=hg.symm
      refine br_and2 hg (fun e=>⟨by rw [e],rfl⟩) (fun _ hg=>?_)
      rw [int_beq,int_beq]
      refine br_and2 hg (fun e=>⟨by rw [e],rfl⟩) (fun _ hg=>?_)
      exact ⟨by rw [←hg,Bool.and_true],rfl⟩
     refine ⟨b,o,ha,⟨by omega,by omega⟩,_,_,_,_,_,hr,b',o',ha',⟨by omega,by omega⟩,_,_,_,_,_,hr',?_⟩
     refine Tri.mono hE ?_
     rintro _ h ⟨rfl,rfl⟩
     refine ⟨_,rfl,br_and hres (fun e=>⟨by rw [e],rfl⟩) (fun _ hres=>?_)⟩
     refine ⟨m - 1,by omega,⟨rfl,j+1,?_,by omega,hres⟩,trivial⟩
     rw [wrap64 (by omega) (by omega)];rfl
   . have hj:es.length<=j:=by have:=of_decide_eq_false e;omega
     rw [eqL_nil hj (by omega)] at hres
     exact ⟨by rw [←hres],rfl⟩
 . refine br_pos (by rw [int_bne];simp [hlen]) ⟨?_,rfl⟩
   rw [eqL_len hlen]
theorem sameFs {es es':List F} (hc:cntFs es<=100000) {a a':Option Addr} {c c':Nat} (hA:At 5 (RF (plP s) 8 7) h a es) (hA':At 5 (RF (plP t) 8 7) h a' es'):
 Tri Tryz.prog 78 [vL a es.length c,vL a' es'.length c',vF 73 [] []] h fun v h'=>v=vB (eqL eqF es es')/\h'=h:=by
 have hfl:=cntFs_len es
 refine T78 ?_
 unfold R78
 by_cases hlen:es.length=es'.length
 . refine br_neg (by simp [hlen]) ?_
   refine ⟨fun m i h'=>h'=h/\∃ j:Nat,i=j/\j+m=es.length/\eqL eqF (es.drop j) (es'.drop j)=eqL eqF es es',⟨es.length,rfl,0,rfl,by omega,rfl⟩,?_⟩
   rintro m _ h1 ⟨rfl,j,rfl,hjm,hres⟩
   refine br_split (fun e=>?_) (fun e=>?_)
   . have hj:j < es.length:=by have:=of_decide_eq_true e;omega
     have hj':j < es'.length:=by omega
     obtain ⟨b,o,cs,ha,hr,hrel⟩:=hA.get hj
     obtain ⟨b',o',cs',ha',hr',hrel'⟩:=hA'.get hj'
     have hcf:=cntFs_mem (List.getElem_mem hj)
     rw [eqL_drop hj hj'] at hres
     generalize es[j]=x at *
     generalize es'[j]=y at *
     obtain ⟨a1,c1,b1,d1,rfl,hP1,hB1,_⟩:=hrel
     obtain ⟨a2,c2,b2,d2,rfl,hP2,hB2,_⟩:=hrel'
     simp only [cntF] at hcf
     have hE:Tri Tryz.prog 73 [vA ([vS x.name,vL a1 x.params.length c1,vL b1 x.body.length d1]++plP s x.pos),vA ([vS y.name,vL a2 y.params.length c2,vL b2 y.body.length d2]++plP t y.pos)] h1 fun v h'=>v=vB (eqF x y)/\h'=h1:=by
      refine T73 ?_
      unfold R73
      have hg:=eqF_c (g:=x) (g':=y) true
      rw [Bool.and_true] at hg
      replace hg:=hg.symm
      refine br_and2 hg (fun e=>⟨by rw [e],rfl⟩) (fun _ hg=>?_)
      refine Tri.mono (equal_t (by omega) hP1 hP2) ?_
      rintro _ h ⟨rfl,rfl⟩
      refine ⟨_,rfl,br_and2 hg (fun e=>⟨by rw [e],rfl⟩) (fun _ hg=>?_)⟩
      refine Tri.mono (sameSs (by omega) hB1 hB2) ?_
      rintro _ h ⟨rfl,rfl⟩
      exact ⟨_,rfl,by rw [←hg,Bool.and_true],rfl⟩
     refine ⟨b,o,ha,⟨by omega,by omega⟩,_,_,_,_,_,_,_,_,_,hr,b',o',ha',⟨by omega,by omega⟩,_,_,_,_,_,_,_,_,_,hr',?_⟩
     refine Tri.mono hE ?_
     rintro _ h ⟨rfl,rfl⟩
     refine ⟨_,rfl,br_and hres (fun e=>⟨by rw [e],rfl⟩) (fun _ hres=>?_)⟩
     refine ⟨m - 1,by omega,⟨rfl,j+1,?_,by omega,hres⟩,trivial⟩
     rw [wrap64 (by omega) (by omega)];rfl
   . have hj:es.length<=j:=by have:=of_decide_eq_false e;omega
     rw [eqL_nil hj (by omega)] at hres
     exact ⟨by rw [←hres],rfl⟩
 . refine br_pos (by rw [int_bne];simp [hlen]) ⟨?_,rfl⟩
   rw [eqL_len hlen]
theorem same_p {p q:Pg} (hw:∀ f∈p.funcs,wfSs f.body) (hc:cntP p<=4097) (hw':∀ f∈q.funcs,wfSs f.body) (hc':cntP q<=4097)
 {ga fa ga' fa':Option Addr} {gc fc gc' fc':Nat} (hG:At 5 (RG (plP s)) h ga p.globals) (hF:At 5 (RF (plP s) 8 7) h fa p.funcs) (hG':At 5 (RG (plP t)) h ga' q.globals) (hF':At 5 (RF (plP t) 8 7) h fa' q.funcs):
 Tri Tryz.prog 32 [vA [vL ga p.globals.length gc,vL fa p.funcs.length fc],vA [vL ga' q.globals.length gc',vL fa' q.funcs.length fc']] h fun v h'=>v=vB (eqP p q)/\Ext h h':=by
 refine T32 ?_
 unfold R32
 refine Tri.mono (tree_tri hw hc hF) ?_
 rintro _ h1 ⟨rfl,hx1⟩
 refine ⟨_,rfl,br_neg rfl ?_⟩
 refine Tri.mono (tree_tri hw' hc' (hF'.ext (RF_mono _ _ _) hx1)) ?_
 rintro _ h2 ⟨rfl,hx2⟩
 have hx:=hx1.trans hx2
 refine ⟨_,rfl,br_neg rfl ?_⟩
 simp only [cntP] at hc
 refine Tri.mono (sameGs (by omega) (hG.ext (RG_mono _) hx) (hG'.ext (RG_mono _) hx)) ?_
 rintro _ h3 ⟨rfl,rfl⟩
 refine ⟨_,rfl,br_and2 (r:=eqL eqF p.funcs q.funcs) (res:=eqP p q) rfl (fun e=>⟨by rw [e],hx⟩) (fun _ hres=>?_)⟩
 refine Tri.mono (sameFs (by omega) (hF.ext (RF_mono _ _ _) hx) (hF'.ext (RF_mono _ _ _) hx)) ?_
 rintro _ h4 ⟨rfl,rfl⟩
 exact ⟨_,rfl,by rw [hres],hx⟩
end
end Go.Proofs.D
namespace Go.Proofs.D
open Go Go.Den Go.Sx
set_option maxRecDepth 100000
attribute [local irreducible] IntKind.wrap Tri parseS
section
variable {s : Bytes} {pb po : Nat} {h : PHeap}
end
theorem short_min (n:Int):PureRun Tryz.prog (execOp (rho [(5,vI n)]) (mkO o13_0 3)) (vI (if 1500 < n then 1500 else n)):=pureVal_run _ (by kernel_rfl)
theorem short_tri (s:Bytes) (h:PHeap):Tri Tryz.prog 13 [vS s] h fun v h'=>v=vS (s.take 1500)/\h'=h:=by
 refine T13 ?_
 unfold R13
 refine ⟨_,short_min _,?_⟩
 split
 . rename_i hl
   refine ⟨⟨Int.le_refl _,by omega,by omega⟩,?_,rfl⟩
   rw [List.drop_zero];rfl
 . rename_i hl
   refine ⟨⟨Int.le_refl _,by omega,Int.le_refl _⟩,?_,rfl⟩
   rw [List.drop_zero,Int.toNat_natCast,Nat.sub_zero,List.take_of_length_le (by omega),List.take_of_length_le (by omega)]
end Go.Proofs.D
namespace Go.Proofs.D
open Go Go.Den Go.Sx
set_option maxRecDepth 100000
attribute [local irreducible] IntKind.wrap Tri parseS
theorem prints_tri {h:PHeap} (ht:L.EscTab h) (hpt:PowTab h) (s:Bytes):Tri Tryz.prog 12 [vS s] h fun v h'=>v=vB true/\Ext h h':=by
 refine T12 ?_
 unfold R12
 refine Tri.mono (short_tri s h) ?_
 rintro _ h ⟨rfl,rfl⟩
 refine ⟨_,rfl,?_⟩
 have hl15:(s.take 1500).length<=1500:=by rw [List.length_take];omega
 generalize s.take 1500=s at *
 refine Tri.mono (parse_r s h) ?_
 rintro v1 h1 ⟨hx1,hv1⟩
 cases hp:parseS s with
 | error e=>
   rw [hp] at hv1
   have hv1:v1=_:=hv1
   have he:=parseS_err hp
   refine ⟨_,_,_,_,_,_,_,_,hv1,?_⟩
   refine Tri.mono (known_ok h1 (ht.ext hx1)) ?_
   rintro _ h3 ⟨rfl,hx3⟩
   refine ⟨_,rfl,br_neg rfl (br_pos (by have:(e.1:Int)≠0:=by omega
                                        simpa using this) ?_)⟩
   refine Tri.mono (known_ok h3 (ht.ext (hx1.trans hx3))) ?_
   rintro _ h4 ⟨rfl,hx4⟩
   exact ⟨_,rfl,rfl,(hx1.trans hx3).trans hx4⟩
 | ok p=>
   rw [hp] at hv1
   obtain ⟨ga,gc,fa,fc,rfl,hG,hF⟩:=hv1
   have hG:=hG.whole (RG_mono _) (Ext.refl _)
   have hF:=hF.whole (RF_mono _ _ _) (Ext.refl _)
   refine ⟨_,_,_,_,_,_,_,_,rfl,?_⟩
   refine Tri.mono (known_ok h1 (ht.ext hx1)) ?_
   rintro _ h3 ⟨rfl,hx3⟩
   refine ⟨_,rfl,br_neg rfl (br_neg rfl ?_)⟩
   have hx03:=hx1.trans hx3
   have hokp:=parse_okP hl15 hp
   have hcp:=parseS_cnt hp
   have hback:=read_back hokp
   refine Tri.mono (parse_tri s h3 (ht.ext hx03)) ?_
   rintro v4 h4 ⟨hx4,hv4⟩
   rw [hp] at hv4
   obtain ⟨ga4,gc4,fa4,fc4,rfl,hG4,hF4⟩:=hv4
   have hG4:=hG4.whole (RG_mono _) (Ext.refl _)
   have hF4:=hF4.whole (RF_mono _ _ _) (Ext.refl _)
   have hx04:=hx03.trans hx4
   refine ⟨_,_,_,_,_,_,_,_,_,rfl,?_⟩
   refine Tri.mono (print_t (OkP.t hokp) (parseS_wf hp) hcp (hpt.ext hx04) hG4 hF4) ?_
   rintro _ h5 ⟨rfl,hx5⟩
   have hx05:=hx04.trans hx5
   refine ⟨_,rfl,?_⟩
   refine Tri.mono (parse_tri (prP p) h5 (ht.ext hx05)) ?_
   rintro v6 h6 ⟨hx6,hv6⟩
   have hx06:=hx05.trans hx6
   cases ho:parseS (prP p) with
   | error e=>rw [ho] at hback;cases hback
   | ok o=>
     rw [ho] at hv6 hback
     have hz:zP o=zP p:=by injection hback
     obtain ⟨ga6,gc6,fa6,fc6,rfl,hG6,hF6⟩:=hv6
     have hG6:=hG6.whole (RG_mono _) (Ext.refl _)
     have hF6:=hF6.whole (RF_mono _ _ _) (Ext.refl _)
     refine ⟨_,_,_,_,_,_,_,_,_,rfl,br_pos rfl ?_⟩
     have hpo:prP o=prP p:=by rw [←prP_z o,hz,prP_z]
     have hoko:OkT o:=parse_okT ho (by rw [hpo];exact hokp.text)
     have hco:=parseS_cnt ho
     have hx16:=((hx3.trans hx4).trans hx5).trans hx6
     refine Tri.mono (print_r (OkP.t hokp) (by omega) (hG.ext (RG_mono _) hx16) (hF.ext (RF_mono _ _ _) hx16)) ?_
     rintro _ h7 ⟨rfl,hx7⟩
     have hx07:=hx06.trans hx7
     refine ⟨_,rfl,br_pos (by simp) (br_pos rfl ?_)⟩
     refine Tri.mono (same_n (s:=prP p) o p (by omega) (hG6.ext (RG_mono _) hx7) (hF6.ext (RF_mono _ _ _) hx7) (hG.ext (RG_mono _) (hx16.trans hx7)) (hF.ext (RF_mono _ _ _) (hx16.trans hx7))) ?_
     rintro _ h8 ⟨rfl,rfl⟩
     refine ⟨_,rfl,br_pos ((eqP_z o p).2 hz) ?_⟩
     have hx48:=(hx5.trans hx6).trans hx7
     refine Tri.mono (same_p (parseS_wf hp) hcp (parseS_wf ho) hco (hG4.ext (RG_mono _) hx48) (hF4.ext (RF_mono _ _ _) hx48) (hG6.ext (RG_mono _) hx7) (hF6.ext (RF_mono _ _ _) hx7)) ?_
     rintro _ h9 ⟨rfl,hx9⟩
     have hx09:=hx07.trans hx9
     refine ⟨_,rfl,br_pos ((eqP_z p o).2 hz.symm) ?_⟩
     refine Tri.mono (print_t hoko (parseS_wf ho) hco (hpt.ext hx09) (hG6.ext (RG_mono _) (hx7.trans hx9)) (hF6.ext (RF_mono _ _ _) (hx7.trans hx9))) ?_
     rintro _ h10 ⟨rfl,hx10⟩
     exact ⟨_,rfl,by rw [hpo];simp,hx09.trans hx10⟩
end Go.Proofs.D
namespace Go.Fr
open Go Go.Den Go.ChangeShapes Go.RowKit
def Kept (w w':World):Prop:=w'.os=w.os/\w'.output=w.output/\w.heap.size<=w'.heap.size/\∀ k,k < w.heap.size->w'.heap[k]? =w.heap[k]?
theorem calls_of_tri {P:Program} {f:FuncId} {fn:Func} {args:List Value} {Q:Value->Prop} {h:PHeap} (ht:Tri P f args h fun v h'=>Q v/\∀ k o,h k=some o->h' k=some o) (hf:P.funcs[f]? =some fn) (hb:fn.body.isSome=true) (hname:(fn.name == "runtime.NumGoroutine")=false) (w:World) (hs:Sub w h):
 Calls P f args.toArray w fun e w'=>∃ v,e= .returned v/\Q v/\Kept w w':=by
 have h1:=ht w hs
 unfold CallR at h1
 have hcall:(callFunc f args.toArray).run P w= .ok (.enter f args.toArray) w:=by
  unfold callFunc
  have hname':¬ fn.name="runtime.NumGoroutine":=fun e=>by rw [e] at hname;simp at hname
  cases hbb:fn.body with
  | none=>rw [hbb] at hb;cases hb
  | some c=>simp [program,Sem.run,hf,hname',hbb]
 rw [hcall] at h1
 refine Calls.mono h1 fun e w' he=>?_
 cases e with
 | returned v=>
   obtain ⟨h',⟨hq,hx⟩,hs',hk⟩:=he
   refine ⟨v,rfl,hq,hk.os,hk.output,hk.size,fun k hk'=>?_⟩
   cases hh:h k with
   | none=>exact (hk.out k hk' hh).2
   | some o=>rw [hs k o hh,hs' k o (hx k o hh)]
 | _=>exact he.elim
def one (w:World) (b:Nat):PHeap:=fun k=>if k=b then w.heap[b]? else none
theorem one_cell {w:World} {b i:Nat} {v:Value} (h:w.cell? ⟨b,i,none⟩=some v):(one w b).cell b i=some v:=by
 unfold World.cell? at h
 unfold PHeap.cell one
 rw [if_pos rfl]
 cases hb:w.heap[b]? with
 | none=>simp [hb] at h
 | some o=>
   cases o with
   | cells c t z=>simpa [hb] using h
   | _=>simp [hb] at h
theorem Kept.but {w w':World} (h:Kept w w') (may:MemPlace->Prop):w.keptBut w' may:=by
 obtain ⟨h1,h2,h3,h4⟩:=h
 obtain ⟨_,_,r⟩:=World.keptBut_refl w may
 refine ⟨h1,h2,fun i hi=>?_⟩
 have:=r i hi
 rw [h4 i hi]
 exact this
theorem Kept.frozen {w w':World} (h:Kept w w') (b off:Nat) (hb:b < w.heap.size):w'.frozen? ⟨b,off,none⟩=w.frozen? ⟨b,off,none⟩:=by
 simp only [World.frozen?,h.2.2.2 b hb]
section
variable {H : Type} {enc : TypeId × Value → H} {P : Program}
theorem post_kept {f:Func} {s:ChangeSpec} {apart fresh handsOn again:Bool} {W W':World} {args:Array Value} {v:Value} {ds gs:List (DataW H)} {before pa pv:List MemPlace}
 (hW:DataW.Whole enc P f.params.toList s.vars apart W args.toList ds gs before)
 (hres:∀ (b:Nat) (sp:Nat->Bool) (hd:Bool),DataW.TrodAll enc P W' b sp hd f.resultTypes.toList (v.resultList f.resultTypes.size) (s.fn H (ds++gs)).results [])
 (hargs:∀ sp:Nat->Bool,(∀ p∈before,sp p.block=true)->DataW.TrodAll enc P W' 0 sp true f.params.toList args.toList (s.fn H (ds++gs)).args pa)
 (hvars:∀ sp:Nat->Bool,(∀ p∈before,sp p.block=true)->DataW.TrodVars enc P W' sp s.vars (s.fn H (ds++gs)).vars pv)
 (hps:before=pa++pv) (hk:Kept W W')
 (hok:∀ (j:Nat) (t:TypeId) (r:Value),f.resultTypes[j]? =some t->(v.resultList f.resultTypes.size)[j]? =some r->Value.okWide P W' .any 0 t r):
 s.post enc P f apart fresh handsOn again W args v W':=by
 have hlt:∀ p∈before,p.block < W.heap.size:=fun p hp=>hW.lt p hp
 have hold:∀ p∈before,(fun b=>decide (b < W.heap.size)) p.block=true:=fun p hp=>by simpa using hlt p hp
 refine ⟨ds,gs,before,[],pa,pv,hW,hres _ _ _,hargs _ hold,hvars _ hold,World.keptBut_mono (fun p hp=>⟨hp,?_⟩) (hk.but _),fun _=>?_⟩
 . rw [hps,List.mem_append] at hp
   exact Or.inr hp
 . obtain ⟨_,_,_,_,_,hz,hn⟩:=hW
   refine ⟨hok,_,_,([]++pa)++pv,⟨[]++pa,pv,trodAll_append (hargs _ (fun _ _=>rfl)) (hres _ _ _),hvars _ (fun _ _=>rfl),rfl,?_,?_⟩,?_⟩
   . intro b off hp
     have hp':MemPlace.cell b off∈before:=by rw [hps];simpa using hp
     rw [hk.frozen b off (hlt _ hp')]
     exact hz b off hp'
   . intro ha
     have:=hn ha
     rw [hps] at this
     simpa using this
   . intro p hp _
     rw [hps]
     simpa using hp
end
end Go.Fr
namespace Go.Fr
open Go Go.Den Go.ChangeShapes Go.WideShapes Go.RowKit Go.ChangeAt
section
variable {H : Type} {enc : TypeId × Value → H} {P : Program}
end
def two (w:World) (b c:Nat):PHeap:=fun k=>if k=b∨k=c then w.heap[k]? else none
end Go.Fr
namespace Go.Fr
open Go Go.Den Go.ChangeShapes Go.WideShapes Go.RowKit
def all (w:World):PHeap:=fun k=>w.heap[k]?
theorem all_sub (w:World):Sub w (all w):=fun _ _ hk=>hk
theorem all_one (w:World) (b:Nat):∀ k o,one w b k=some o->all w k=some o:=fun k o hk=>by
 unfold one at hk
 split at hk
 . rename_i e;subst e;exact hk
 . cases hk
theorem pow_all {W:World} (h:Lib.TabIs Go.Proofs.Tryz.prog W "internal/strconv.uint64pow10" .u64 Lib.pow10Tab):Go.Proofs.D.PowTab (all W):=by
 unfold Lib.TabIs World.var? at h
 rw [show Go.Proofs.Tryz.prog.globalNamed "internal/strconv.uint64pow10"=some 0 by kernel_rfl] at h
 simp only [Option.bind_some] at h
 unfold Go.Proofs.D.PowTab all
 cases hb:W.heap[0]? with
 | none=>rw [hb] at h;simp at h
 | some o=>
   rw [hb] at h
   cases o with
   | cells c t z=>
     simp only [Option.some.injEq] at h
     exact ⟨t,z,by rw [h]⟩
   | _=>simp at h
end Go.Fr
