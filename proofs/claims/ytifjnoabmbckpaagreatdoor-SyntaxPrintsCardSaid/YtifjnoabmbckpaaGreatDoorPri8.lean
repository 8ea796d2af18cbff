import Derived.Test.YtifjnoabmbckpaaGreatDoorPri7
import Derived.Shelf.Strings.Repeat
import Derived.Lib.BufferMore
import Derived.Lib.UnsafeStr
namespace Go.Proofs.D
open Go Go.Den Go.Sx
set_option maxRecDepth 100000
attribute [local irreducible] IntKind.wrap Tri marks words
def rkV (s:Bytes) (n:Nat):Except (Nat×Nat) (Nat×Nat×Nat×Bytes)->Value
 | .ok (k,len,v,b)=>vT [vA [vI k,vS ((s.drop n).take len),vI v,vS b,vI n],vI ((n+len:Nat):Int),vI 0,vI 0]
 | .error (e,i)=>vT [vA [vI 0,vS [],vI 0,vS [],vI 0],vI n,vI e,vI ((n+i:Nat):Int)]
theorem charS_ok {l:Bytes} {b:UInt8} {k:Nat} (h:charS l= .ok (b,k)):0 < k/\k<=l.length:=(L.charS_err l).2 _ _ h
theorem charS_e {l:Bytes} {e k:Nat} (h:charS l= .error (e,k)):e≠0:=(L.charS_err l).1 _ _ h
theorem SlS (s:Bytes) (n k:Nat):((s.drop ((n:Int)).toNat).take ((((n+k:Nat):Int)).toNat - ((n:Int)).toNat))=(s.drop n).take k:=by
 simp only [Int.toNat_natCast,Nat.add_sub_cancel_left]
theorem chr_r {s r:Bytes} {n:Nat} (h:PHeap) (hl:s.length<=1000000) (hd:s.drop n=39::r):Tri Tryz.prog 119 [vS s,vI n] h fun v h'=>v=rkV s n (L.charO r (L.oneQ 39 r))/\Ext h h':=by
 refine T119 ?_
 unfold R119
 have hlt:n < s.length:=by
  have:=congrArg List.length hd
  simp at this;omega
 have hg:s[((n:Int)).toNat]? =some 39:=by simpa using drop_head hd
 have ht:s.drop (n+1)=r:=drop_tail hd
 have hrl:r.length+n+1=s.length:=by
  have:=congrArg List.length hd
  simp at this;omega
 have w1:IntKind.i64.wrap ((n:Int)+1)=((n+1:Nat):Int):=by rw [wrap64 (by omega) (by omega)];rfl
 rw [w1]
 refine ⟨by omega,39,hg,br_pos rfl ?_⟩
 have rest:L.oneQ 39 r=charS r->Tri Tryz.prog 155 [vS s,vI ((n+1:Nat):Int)] h fun v_1 h_1=>
  ∃ (i1 i2 i3 i4:Int),v_1=vT [vU i1,vI i2,vI i3,vI i4]/\
  br (i3 == 0)
  (br (decide (i2≥(s.length:Int)))
   (vT [vA [vI 0,vS [],vI 0,vS [],vI 0],vI n,vI 4,vI n]=rkV s n (L.charO r (L.oneQ 39 r))/\Ext h h_1)
   (br (i3 == 4)
    (vT [vA [vI 0,vS [],vI 0,vS [],vI 0],vI n,vI 4,vI n]=rkV s n (L.charO r (L.oneQ 39 r))/\Ext h h_1)
    (br (i3 != 0)
     (vT [vA [vI 0,vS [],vI 0,vS [],vI 0],vI n,vI i3,vI i4]=rkV s n (L.charO r (L.oneQ 39 r))/\Ext h h_1)
     (0<=i2/\∃ (c3:UInt8),(s)[(i2).toNat]? =some c3/\
      br ((c3.toNat:Int) != 39)
      (vT [vA [vI 0,vS [],vI 0,vS [],vI 0],vI n,vI 6,vI i2]=rkV s n (L.charO r (L.oneQ 39 r))/\Ext h h_1)
      ((0<=(n:Int)/\(n:Int)<=(IntKind.i64.wrap (i2+1))/\(IntKind.i64.wrap (i2+1))<=(s.length:Int))/\
        vT [vA [vI 2,vS ((s.drop ((n:Int)).toNat).take ((IntKind.i64.wrap (i2+1)).toNat - ((n:Int)).toNat)),vI (IntKind.i64.wrap (i1)),vS [],vI n],vI (IntKind.i64.wrap (i2+1)),vI 0,vI 0]=rkV s n (L.charO r (L.oneQ 39 r))/\Ext h h_1)))))
  (br (i3 == 4)
   (vT [vA [vI 0,vS [],vI 0,vS [],vI 0],vI n,vI 4,vI n]=rkV s n (L.charO r (L.oneQ 39 r))/\Ext h h_1)
   (br (i3 != 0)
    (vT [vA [vI 0,vS [],vI 0,vS [],vI 0],vI n,vI i3,vI i4]=rkV s n (L.charO r (L.oneQ 39 r))/\Ext h h_1)
    (0<=i2/\∃ (c4:UInt8),(s)[(i2).toNat]? =some c4/\
     br ((c4.toNat:Int) != 39)
     (vT [vA [vI 0,vS [],vI 0,vS [],vI 0],vI n,vI 6,vI i2]=rkV s n (L.charO r (L.oneQ 39 r))/\Ext h h_1)
     ((0<=(n:Int)/\(n:Int)<=(IntKind.i64.wrap (i2+1))/\(IntKind.i64.wrap (i2+1))<=(s.length:Int))/\
       vT [vA [vI 2,vS ((s.drop ((n:Int)).toNat).take ((IntKind.i64.wrap (i2+1)).toNat - ((n:Int)).toNat)),vI (IntKind.i64.wrap (i1)),vS [],vI n],vI (IntKind.i64.wrap (i2+1)),vI 0,vI 0]=rkV s n (L.charO r (L.oneQ 39 r))/\Ext h h_1)))):=by
  intro hq
  rw [hq]
  refine Tri.mono (char_r h (by omega) hl) ?_
  rintro _ h ⟨rfl,rfl⟩
  rw [ht]
  cases hc:charS r with
  | error p=>
    obtain ⟨e,k⟩:=p
    have h0:=charS_e hc
    refine ⟨_,_,_,_,rfl,br_neg ?_ ?_⟩
    . have:(e:Int)≠0:=by omega
      simpa using this
    refine br_split (fun e4=>?_) (fun e4=>?_)
    . have:e=4:=by
       have:(e:Int)=4:=by simpa using e4
       omega
      subst this
      exact ⟨rfl,Ext.refl _⟩
    . have:e≠4:=by
       have:¬ (e:Int)=4:=by simpa using e4
       omega
      refine br_pos ?_ ⟨?_,Ext.refl _⟩
      . have:(e:Int)≠0:=by omega
        simpa using this
      . simp only [L.charO,if_neg this,rkV]
        rw [show n+1+k=n+(k+1) by omega]
  | ok p=>
    obtain ⟨b,k⟩:=p
    have hk:=charS_ok hc
    refine ⟨_,_,_,_,rfl,br_pos rfl (br_split (fun f1=>?_) (fun f1=>?_))⟩
    . have:s.length<=n+1+k:=by
       have:=of_decide_eq_true f1
       omega
      have hnil:r.drop k=[]:=List.drop_eq_nil_of_le (by omega)
      simp only [L.charO,hnil]
      exact ⟨rfl,Ext.refl _⟩
    . have hlt2:n+1+k < s.length:=by
       have:=of_decide_eq_false f1
       omega
      refine br_neg rfl (br_neg rfl ?_)
      obtain ⟨d,r2,hd2,hg2,ht2⟩:=get_of_lt hlt2
      rw [←List.drop_drop,ht] at hd2
      have w2:IntKind.i64.wrap (((n+1+k:Nat):Int)+1)=((n+(k+2):Nat):Int):=by rw [wrap64 (by omega) (by omega)];omega
      refine ⟨by omega,d,by rw [Int.toNat_natCast];exact hg2,br_split (fun f2=>?_) (fun f2=>?_)⟩
      . have hd39:(d == 39)=false:=by
         have:¬ d=39:=fun e=>by subst e;simp at f2
         simpa using this
        simp only [L.charO,hd2,hd39,rkV,Bool.false_eq_true,if_false]
        rw [show n+1+k=n+(k+1) by omega]
        exact ⟨rfl,Ext.refl _⟩
      . have hd39:(d == 39)=true:=by
         have:(d.toNat:Int)=39:=by simpa using f2
         have:d=39:=UInt8.toNat_inj.1 (by show d.toNat=39;omega)
         simpa using this
        rw [w2,SlS]
        refine ⟨⟨by omega,by omega,by omega⟩,?_,Ext.refl _⟩
        have hb:b.toNat < 256:=b.toNat_lt
        rw [wrap64 (by omega) (by omega)]
        simp only [L.charO,hd2,hd39,rkV,if_true]
        rfl
 refine br_split (fun e1=>?_) (fun e1=>?_)
 . have hlt1:n+1 < s.length:=by
    have:=of_decide_eq_true e1
    omega
   obtain ⟨d,r2,hd2,hg2,ht2⟩:=get_of_lt hlt1
   rw [ht] at hd2
   refine ⟨by omega,d,by rw [Int.toNat_natCast];exact hg2,br_split (fun e2=>?_) (fun e2=>?_)⟩
   . have hd39:d=39:=u8_eq e2
     subst hd39
     refine ⟨?_,Ext.refl _⟩
     have:L.oneQ 39 r= .error (6,0):=by rw [L.oneQ,if_pos (by rw [hd2];rfl)]
     rw [this];rfl
   . have hd39:d≠39:=u8_ne e2
     refine rest ?_
     rw [L.oneQ,if_neg (by rw [hd2];simpa using hd39)]
 . have hr:r=[]:=by
    have:=of_decide_eq_false e1
    rw [←ht];exact List.drop_eq_nil_of_le (by omega)
   refine rest ?_
   rw [L.oneQ,if_neg (by rw [hr];simp)]
theorem quo_r {s r:Bytes} {n:Nat} (h:PHeap) (hl:s.length<=1000000) (hd:s.drop n=34::r):Tri Tryz.prog 119 [vS s,vI n] h fun v h'=>v=rkV s n (L.quoO (strS (r.length+1) r))/\Ext h h':=by
 refine T119 ?_
 unfold R119
 have hrl:r.length+n+1=s.length:=by
  have:=congrArg List.length hd
  simp at this;omega
 have hg:s[((n:Int)).toNat]? =some 34:=by simpa using drop_head hd
 have ht:s.drop (n+1)=r:=drop_tail hd
 have w1:IntKind.i64.wrap ((n:Int)+1)=((n+1:Nat):Int):=by rw [wrap64 (by omega) (by omega)];rfl
 rw [w1]
 refine ⟨by omega,34,hg,br_neg rfl ?_⟩
 refine ⟨fun m l i _ _ _ _ _ h'=>Ext h h'/\∃ k:Nat,i=((n+1+k:Nat):Int)/\k+m=r.length/\l.length<=k/\strS (r.length+1) r=L.strJ l k (strS (r.length+1 - l.length) (r.drop k)),
  ⟨r.length,Ext.refl _,0,rfl,by omega,by simp,by simpa using L.strJ_zero (r.length+1) r⟩,?_⟩
 rintro m l _ _ _ _ _ _ h1 ⟨hx1,k,rfl,hkm,hlk,hst⟩
 refine br_split (fun e1=>?_) (fun e1=>?_)
 . have hk:k=r.length:=by
    have:=of_decide_eq_true e1
    omega
   refine ⟨?_,hx1⟩
   rw [hst,List.drop_eq_nil_of_le (by omega),show r.length+1 - l.length=(r.length - l.length)+1 by omega]
   simp [strS,L.strJ,L.quoO,rkV]
 . have hk:k < r.length:=by
    have:=of_decide_eq_false e1
    omega
   obtain ⟨c,r2,hd2,hg2,ht2⟩:=get_of_lt (s:=s) (n:=n+1+k) (by omega)
   rw [←List.drop_drop,ht] at hd2
   have hf:r.length+1 - l.length=(r.length - l.length)+1:=by omega
   rw [hf,hd2] at hst
   refine ⟨by omega,c,by rw [Int.toNat_natCast];exact hg2,br_split (fun e2=>?_) (fun e2=>?_)⟩
   . have hc:c=34:=u8_eq e2
     subst hc
     have hst':strS (r.length+1) r= .ok (l,k):=by rw [hst];simp [strS,L.strJ]
     rw [hst']
     refine br_split (fun e3=>?_) (fun e3=>?_)
     . have:200 < l.length:=by
        have:=of_decide_eq_true e3
        omega
       refine ⟨?_,hx1⟩
       simp [L.quoO,this,rkV]
     . have:¬ 200 < l.length:=by
        have:=of_decide_eq_false e3
        omega
       have w2:IntKind.i64.wrap (((n+1+k:Nat):Int)+1)=((n+(k+2):Nat):Int):=by rw [wrap64 (by omega) (by omega)];omega
       rw [w2,SlS]
       refine ⟨⟨by omega,by omega,by omega⟩,?_,hx1⟩
       simp only [L.quoO,if_neg this,rkV];rfl
   . have hc:c≠34:=u8_ne e2
     refine Tri.mono (char_r h1 (by omega) hl) ?_
     rintro _ h1 ⟨rfl,rfl⟩
     rw [←List.drop_drop,ht,hd2]
     rw [L.strS_step hc] at hst
     cases hch:charS (c::r2) with
     | error p=>
       obtain ⟨e,j⟩:=p
       have h0:=charS_e hch
       rw [hch] at hst
       refine ⟨_,_,_,_,rfl,br_split (fun e4=>?_) (fun e4=>?_)⟩
       . have:e=4:=by
          have:(e:Int)=4:=by simpa using e4
          omega
         subst this
         refine ⟨?_,hx1⟩
         rw [hst];simp [L.strJ,L.quoO,rkV]
       . have h4:e≠4:=by
          have:¬ (e:Int)=4:=by simpa using e4
          omega
         refine br_pos ?_ ⟨?_,hx1⟩
         . have:(e:Int)≠0:=by omega
           simpa using this
         . rw [hst]
           simp only [L.strJ,L.quoO,rkV,if_neg h4]
           rw [show n+1+k+j=n+(j+k+1) by omega]
     | ok p=>
       obtain ⟨b,j⟩:=p
       have hj:=charS_ok hch
       have hjl:j+k<=r.length:=by
        have:(c::r2).length+k=r.length:=by rw [←hd2,List.length_drop];omega
        omega
       rw [hch] at hst
       refine ⟨_,_,_,_,rfl,br_neg rfl (br_neg rfl ?_)⟩
       intro b1 hb1 h5 hh5
       refine ⟨[b], .inr ⟨b1,0,rfl,rfl,row_lit (Put.at hh5) fun i v hi=>?_⟩,by simp;omega,m - j,by omega,⟨hx1.trans (Put.ext hh5 hb1),k+j,?_,by omega,by simp;omega,?_⟩,trivial⟩
       . match i,hi with
         | 0,hi=>simpa [byteV] using hi
         | i+1,hi=>simp at hi
       . omega
       . rw [hst]
         simp only [List.length_append,List.length_cons,List.length_nil]
         rw [show r.length+1 - (l.length+(0+1))=r.length - l.length by omega,←List.drop_drop,hd2,L.strJ_strJ,Nat.add_comm k j]
theorem one_r {s r:Bytes} {c:UInt8} {n:Nat} (h:PHeap) (hl:s.length<=1000000) (hd:s.drop n=c::r):Tri Tryz.prog 71 [vS s,vI n] h fun v h'=>v=rkV s n (oneS (c::r))/\Ext h h':=by
 refine T71 ?_
 unfold R71
 have hrl:r.length+n+1=s.length:=by
  have:=congrArg List.length hd
  simp at this;omega
 have hg:s[((n:Int)).toNat]? =some c:=by simpa using drop_head hd
 have hle:=L.lead_le isAl (c::r)
 simp only [List.length_cons] at hle
 refine ⟨by omega,c,hg,?_⟩
 refine Tri.mono (letter_r c h) ?_
 rintro _ h ⟨rfl,rfl⟩
 refine ⟨_,rfl,br_split (fun e1=>?_) (fun e1=>?_)⟩
 . rw [oneS_word e1]
   refine Tri.mono (alnum_r h (by omega) hl) ?_
   rintro _ h ⟨rfl,rfl⟩
   rw [hd]
   generalize hk:lead isAl (c::r)=k at *
   refine ⟨_,rfl,⟨by omega,by omega,by omega⟩,?_⟩
   rw [SlS,hd]
   have hlen:((c::r).take k).length=k:=by rw [List.length_take,List.length_cons];omega
   refine br_split (fun e2=>?_) (fun e2=>?_)
   . have:32 < k:=by
      have:=of_decide_eq_true e2
      rw [hlen] at this;omega
     refine ⟨?_,Ext.refl _⟩
     simp only [L.wordS,hk,if_pos this];rfl
   . have:¬ 32 < k:=by
      have:=of_decide_eq_false e2
      rw [hlen] at this;omega
     refine Tri.mono (words_r h) ?_
     rintro _ h1 ⟨b,rfl,hx1,hs1⟩
     refine ⟨_,_,_,rfl,?_⟩
     refine Tri.mono (contains_r ((c::r).take k) hs1 (by rw [words_len];omega)) ?_
     rintro _ h2 ⟨rfl,rfl⟩
     refine ⟨_,rfl,br_split (fun e3=>?_) (fun e3=>?_)⟩
     . refine ⟨?_,hx1⟩
       simp only [L.wordS,hk,if_neg this,e3,if_true,rkV,hd];rfl
     . refine ⟨?_,hx1⟩
       simp only [L.wordS,hk,if_neg this,e3,Bool.false_eq_true,if_false,rkV,hd];rfl
 refine Tri.mono (digit_r c h) ?_
 rintro _ h ⟨rfl,rfl⟩
 refine ⟨_,rfl,br_split (fun e2=>?_) (fun e2=>?_)⟩
 . rw [oneS_num e1 e2]
   refine Tri.mono (alnum_r h (by omega) hl) ?_
   rintro _ h ⟨rfl,rfl⟩
   rw [hd]
   unfold L.numberS
   generalize hk:lead isAl (c::r)=k at *
   refine ⟨_,rfl,⟨by omega,by omega,by omega⟩,?_⟩
   rw [SlS,hd]
   have hlen:((c::r).take k).length=k:=by rw [List.length_take,List.length_cons];omega
   refine Tri.mono (number_r ((c::r).take k) h (by omega)) ?_
   rintro _ h ⟨rfl,rfl⟩
   cases hnum:numS ((c::r).take k) with
   | error e=>
     have h0:=L.numS_err _ _ hnum
     refine ⟨_,_,rfl,br_pos ?_ ⟨rfl,Ext.refl _⟩⟩
     have:(e:Int)≠0:=by omega
     simpa [L.n1] using this
   | ok v=>
     refine ⟨_,_,rfl,br_neg rfl ⟨⟨by omega,by omega,by omega⟩,?_,Ext.refl _⟩⟩
     simp only [L.numO,rkV,hd];rfl
 refine br_split (fun e3=>?_) (fun e3=>?_)
 . have hc:c=39:=u8_eq e3
   subst hc
   rw [oneS_char]
   refine Tri.mono (chr_r h hl hd) ?_
   rintro v h1 ⟨rfl,hx⟩
   cases ho:L.charO r (L.oneQ 39 r) with
   | error p=>exact ⟨_,_,_,_,_,_,_,_,rfl,rfl,hx⟩
   | ok p=>exact ⟨_,_,_,_,_,_,_,_,rfl,rfl,hx⟩
 refine br_split (fun e4=>?_) (fun e4=>?_)
 . have hc:c=34:=u8_eq e4
   subst hc
   rw [oneS_quo]
   refine Tri.mono (quo_r h hl hd) ?_
   rintro v h1 ⟨rfl,hx⟩
   cases ho:L.quoO (strS (r.length+1) r) with
   | error p=>exact ⟨_,_,_,_,_,_,_,_,rfl,rfl,hx⟩
   | ok p=>exact ⟨_,_,_,_,_,_,_,_,rfl,rfl,hx⟩
 have n39:(c == 39)=false:=by simpa using (u8_ne e3:c≠39)
 have n34:(c == 34)=false:=by simpa using (u8_ne e4:c≠34)
 have hone:oneS (c::r)=if marks.contains ((c::r).take 2) then .ok (5,((c::r).take 2).length,0,[]) else if marks.contains ((c::r).take 1) then .ok (5,1,0,[]) else .error (6,0):=by
  simp only [oneS,e1,e2,n39,n34,Bool.false_eq_true,if_false]
 have wn:∀ i:Nat,i<=2->IntKind.i64.wrap ((n:Int)+(i:Int))=((n+i:Nat):Int):=fun i hi=>by rw [wrap64 (by omega) (by omega)];omega
 refine ⟨fun m i _ _ _ _ _ h'=>Ext h h'/\i=(m:Nat)/\m<=2/\(m < 2->(marks.contains ((c::r).take 2)=true->r=[]))/\(m < 1->marks.contains ((c::r).take 1)=false),⟨2,Ext.refl _,rfl,by omega,fun h0=>by omega,fun h0=>by omega⟩,?_⟩
 rintro m _ _ _ _ _ _ h1 ⟨hx1,rfl,hm2,g2,g1⟩
 refine br_split (fun e5=>?_) (fun e5=>?_)
 . have hm0:0 < m:=by
    have:=of_decide_eq_true e5
    omega
   rw [wn m hm2]
   have wd:IntKind.i64.wrap ((m:Int) - 1)=((m - 1:Nat):Int):=by rw [wrap64 (by omega) (by omega)];omega
   rw [wd]
   refine br_split (fun e6=>?_) (fun e6=>?_)
   . have hml:n+m<=s.length:=by
      have:=of_decide_eq_true e6
      omega
     refine ⟨⟨by omega,by omega,by omega⟩,?_⟩
     refine Tri.mono (marks_r h1) ?_
     rintro _ h2 ⟨b,rfl,hx2,hs2⟩
     refine ⟨_,_,_,rfl,?_⟩
     rw [SlS,hd]
     refine Tri.mono (contains_r ((c::r).take m) hs2 (by rw [marks_len];omega)) ?_
     rintro _ h2 ⟨rfl,rfl⟩
     have hlen:((c::r).take m).length=m:=by rw [List.length_take,List.length_cons];omega
     refine ⟨_,rfl,br_split (fun e7=>?_) (fun e7=>?_)⟩
     . refine ⟨⟨by omega,by omega,by omega⟩,?_,hx1.trans hx2⟩
       have hm:m=1∨m=2:=by omega
       rcases hm with rfl | rfl
       . cases hc2:marks.contains ((c::r).take 2) with
         | true=>
           have hr:=g2 (by omega) hc2
           subst hr
           rw [hone,if_pos hc2];simp only [rkV,hd];rfl
         | false=>
           rw [hone,if_neg (by rw [hc2];decide),if_pos e7];simp only [rkV,hd];rfl
       . rw [hone,if_pos e7,hlen];simp only [rkV,hd];rfl
     . refine ⟨m - 1,by omega,⟨hx1.trans hx2,rfl,by omega,fun _ hc2=>?_,fun _=>?_⟩,trivial⟩
       . have hm:m=1∨m=2:=by omega
         rcases hm with rfl | rfl
         . exact g2 (by omega) hc2
         . rw [e7] at hc2;cases hc2
       . have hm:m=1:=by omega
         subst hm;exact e7
   . have hml:s.length < n+m:=by
      have:=of_decide_eq_false e6
      omega
     have hr:r=[]:=List.eq_nil_of_length_eq_zero (by omega)
     have hm:m=2:=by omega
     subst hm
     exact ⟨1,by omega,⟨hx1,rfl,by omega,fun _ _=>hr,fun h0=>by omega⟩,trivial⟩
 . have hm:m=0:=by
    have:=of_decide_eq_false e5
    omega
   subst hm
   refine ⟨?_,hx1⟩
   have h1':=g1 (by omega)
   have h2':marks.contains ((c::r).take 2)=false:=by
    cases hc2:marks.contains ((c::r).take 2) with
    | false=>rfl
    | true=>
      have hr:=g2 (by omega) hc2
      subst hr
      rw [show ([c]:Bytes).take 2=[c].take 1 from rfl,h1'] at hc2;cases hc2
   rw [hone,if_neg (by rw [h2'];decide),if_neg (by rw [h1'];decide)];rfl
def tokR (t:Tok):List Value:=[vI t.kind,vS t.text,vI t.value,vS t.bytes,vI t.pos]
def RT (_:PHeap) (t:Tok) (cs:List Value):Prop:=cs=tokR t
theorem RT_mono:Mono RT:=⟨fun _ h=>h⟩
theorem elem69:ElemT 69 5:=⟨_,_,rfl,rfl,rfl,rfl,by decide⟩
theorem und65:Tryz.prog.underlying 65=some (.slice 69):=rfl
def ScanR (s:Bytes) (h:PHeap) (v:Value) (h':PHeap):Prop:=
 Ext h h'/\match scanS s with
  | .error e=>v=vT [vL none 0 0,vI e.2,vI e.1]
  | .ok ts=>∃ b c,v=vT [vL (ad b 0) ts.length c,vI 0,vI 0]/\h b=none/\At 5 RT (only (New h) h') (ad b 0) ts
theorem scan_r (s:Bytes) (h:PHeap):Tri Tryz.prog 31 [vS s] h (ScanR s h):=by
 refine T31 ?_
 unfold R31
 refine br_split (fun e=>?_) (fun e=>?_)
 . have hl:16384 < s.length:=by
    have:(s.length:Int) > 16384:=by simpa using e
    omega
   refine ⟨Ext.refl _,?_⟩
   simp only [scanS,if_pos hl];rfl
 have hl:s.length<=16384:=by
  have:¬ (s.length:Int) > 16384:=by simpa using e
  omega
 have hsc:scanS s=scanL (s.length+1) 0 s 0:=by rw [scanS,if_neg (by omega)]
 refine Tri.mono (skip_r (n:=0) h (Nat.zero_le _) (by omega)) ?_
 rintro _ h1 ⟨rfl,rfl⟩
 refine ⟨_,rfl,?_⟩
 rw [List.drop_zero,Nat.zero_add]
 refine ⟨fun m a sn c i h2=>∃ (n f:Nat) (done:List Tok),i=n/\n<=s.length/\skipN false (s.drop n)=0/\n+m=s.length/\Ext h1 h2/\LM 69 5 h1 h2 a sn c (done.map tokR)/\LR RT h1 h2 a (done.map tokR) done/\done.length=sn/\sn<=4096/\(s.drop n).length < f+1/\scanS s=preS done (scanL (f+1) sn (s.drop n) n),?_,?_⟩
 . have hle:=skipN_le false s
   refine ⟨s.length - skipN false s,skipN false s,s.length,[],rfl,hle,skipN_idem false s,by omega,Ext.refl _,LM.nil,LR.nil,rfl,by omega,?_,?_⟩
   . rw [List.length_drop];omega
   . rw [preS_nil,hsc,scanL_skip];simp
 rintro m a sn c _ h2 ⟨n,f,done,rfl,hn,hsk,hm,hx2,hM2,hL2,hdl,hk4,hf,hs3⟩
 have hdom:∀ {g:PHeap},Ext h1 g->∀ b,g b=none->h1 b=none:=fun hx b hb=>by
  cases e:h1 b with
  | none=>rfl
  | some o=>rw [hx _ _ e] at hb;cases hb
 refine br_split (fun e1=>?_) (fun e1=>?_)
 . have hlt:n < s.length:=by
    have:=of_decide_eq_true e1
    omega
   obtain ⟨ch,r,hd,hg,ht⟩:=get_of_lt hlt
   have hrl:(ch::r).length+n=s.length:=by rw [←hd,List.length_drop];omega
   rw [scanL_at f sn n hsk,hd] at hs3
   simp only [scanR] at hs3
   refine br_split (fun e2=>?_) (fun e2=>?_)
   . have hk:sn=4096:=by
      have:(sn:Int)=4096:=by simpa using e2
      omega
     refine ⟨hx2,?_⟩
     rw [hs3,if_pos hk];rfl
   have hk:¬ sn=4096:=by
    have:¬ (sn:Int)=4096:=by simpa using e2
    omega
   rw [if_neg hk] at hs3
   refine Tri.mono (one_r h2 (by omega) hd) ?_
   rintro _ h3 ⟨rfl,hx23⟩
   have h1s:=oneS_nl (ch::r)
   cases ho:oneS (ch::r) with
   | error p=>
     obtain ⟨ee,ei⟩:=p
     rw [ho] at hs3
     have:=(h1s.1 _ _ ho).2
     refine ⟨_,_,_,_,_,_,_,_,rfl,br_pos ?_ ⟨hx2.trans hx23,?_⟩⟩
     . have:(ee:Int)≠0:=by omega
       simpa using this
     . rw [hs3];rfl
   | ok p=>
     obtain ⟨kind,len,vv,bb⟩:=p
     rw [ho] at hs3
     have hok:=h1s.2 _ _ _ _ ho
     have hlen:=hok.nl.1
     have hlp:=hok.pos
     refine ⟨_,_,_,_,_,_,_,_,rfl,br_neg rfl ?_⟩
     intro b1 hb1 h4 hh4
     have hx3:=hx2.trans hx23
     refine Raw.mono (LM.append (h0:=h1) (cs:=tokR ⟨kind,(s.drop n).take len,vv,bb,n⟩) und65 elem69 rfl rfl rfl rfl rfl (hM2.ext hx23) hb1 hh4 rfl rfl (by omega) (hdom hx3)) ?_
     rintro _ h5 ⟨b5,cap5,rfl,hk5,hd5,hn5,hq5,hM5,hR5⟩
     have hx5:Ext h1 h5:=fun q o hq=>hk5 q o (ne_of hq) (hx3 q o hq)
     refine ⟨_,_,_,rfl,?_⟩
     refine Tri.mono (skip_r (n:=n+len) h5 (by omega) (by omega)) ?_
     rintro _ h6 ⟨rfl,rfl⟩
     have hle:=skipN_le false (s.drop (n+len))
     rw [List.length_drop] at hle
     match f,hf with
     | 0,hf=>exfalso;rw [hd] at hf;simp at hf
     | f+1,hf=>
     refine ⟨_,rfl,m - (len+skipN false (s.drop (n+len))),by omega,⟨n+len+skipN false (s.drop (n+len)),f,done++[⟨kind,(s.drop n).take len,vv,bb,n⟩],rfl,by omega,?_,by omega,hx5,?_,?_,?_,by omega,?_,?_⟩,trivial⟩
     . rw [←List.drop_drop];exact skipN_idem false _
     . rw [List.map_append];exact hM5
     . rw [List.map_append];exact hR5 RT_mono (hL2.ext RT_mono hx23) rfl
     . rw [List.length_append,hdl];rfl
     . rw [List.length_drop];rw [List.length_drop] at hf;omega
     . rw [hs3]
       simp only
       refine (preS_cons done _ (scanL (f+1) (sn+1) (List.drop len (ch::r)) (n+len))).trans ?_
       rw [←hd,List.drop_drop,scanL_skip,List.drop_drop]
 . have hlt:n=s.length:=by
    have:=of_decide_eq_false e1
    omega
   intro b2 hb2 h7 hh7
   refine Raw.mono (LM.append (h0:=h1) (cs:=tokR ⟨0,[],0,[],n⟩) und65 elem69 rfl rfl rfl rfl rfl hM2 hb2 (by rw [hh7,←hlt];rfl) rfl rfl (by omega) (hdom hx2)) ?_
   rintro _ h8 ⟨b8,cap8,rfl,hk8,hd8,hn8,hq8,hM8,hR8⟩
   refine ⟨_,_,_,rfl,fun q o hq=>hk8 q o (ne_of hq) (hx2 q o hq),?_⟩
   have hnil:s.drop n=[]:=List.drop_eq_nil_of_le (by omega)
   rw [hs3,scanL_at f sn n hsk,hnil]
   simp only [preS,scanR]
   refine ⟨b8,cap8,by rw [List.length_append,hdl];rfl,hn8,?_⟩
   have hL8:=hR8 (v:=(⟨0,[],0,[],n⟩:Tok)) RT_mono hL2 rfl
   exact hM8.at RT_mono hL8
end Go.Proofs.D
namespace Go.Proofs.D
open Go Go.Den
noncomputable section
set_option maxRecDepth 100000
set_option maxHeartbeats 4000000
abbrev dxk1:List CK:=[.slice,qi,qi,qi,qi]
abbrev dxk2:List CK:=[.str,qi,qi,qi]
abbrev dxk3:List CK:=[.str, .slice, .slice,qi]
abbrev dxk4:List CK:=[qi, .str,qi, .str,qi]
abbrev dxk5:List CK:=[qi, .str, .slice, .slice, .slice,qi]
abbrev dxk6:List CK:=[qi, .str, .str,qi, .str, .slice,qi]
abbrev o15_13:Op:= .call { callee:=(.builtin .append),args:=#[(.tmp 71),(.tmp 73)],argTypes:=#[30,30] }
abbrev o15_23:Op:= .call { callee:=(.builtin .append),args:=#[(.tmp 109),(.tmp 111)],argTypes:=#[51,51] }
abbrev o15_26:Op:= .call { callee:=(.builtin .append),args:=#[(.tmp 123),(.tmp 125)],argTypes:=#[31,31] }
def d15:DCode:=up ⟨[(15, .c (.tup [(false,[.slice]),(false,[qi]),(false,[qi])])),(27, .l [qi]),(30, .l dxk1),(31, .c (.one false [.bool])),(34, .l dxk1),(35, .c (.one false [.bool])),(36, .l dxk1),(37, .c (.one true dxk1)),(39, .l dxk1),(40, .c (.tup [(true,dxk1),(false,[.str]),(false,[qi])])),(46, .l dxk1),(47, .c (.one false [.bool])),(48, .l dxk1),(49, .c (.one true dxk1)),(51, .l dxk1),(52, .c (.tup [(true,dxk1),(false,[qi])])),(56, .l dxk1),(57, .c (.one false [.bool])),(58, .l dxk1),(59, .c (.one true dxk1)),(61, .l dxk1),(62, .c (.tup [(true,dxk1),(false,[qi])])),(66, .l dxk1),(67, .c (.one true dxk1)),(68, .l dxk1),(69, .c (.one true dxk1)),(71, .l [.slice]),(72, .l dxk2),(74, .c (.one false [.slice])),(76, .l dxk1),(77, .c (.one true dxk1)),(79, .l dxk1),(80, .c (.tup [(true,dxk1),(false,[.str]),(false,[qi])])),(86, .l dxk1),(87, .c (.one true dxk1)),(89, .l [qi]),(92, .l dxk1),(93, .c (.one false [.bool])),(97, .l [.slice]),(100, .l dxk1),(101, .c (.one true dxk1)),(103, .l dxk1),(104, .c (.tup [(true,dxk1),(false,[.str]),(false,[qi])])),(109, .l [.slice]),(112, .c (.one false [.slice])),(114, .l dxk1),(115, .c (.one true dxk1)),(117, .l dxk1),(118, .c (.tup [(true,dxk1),(false,[.slice])])),(123, .l [.slice]),(124, .l dxk3),(126, .c (.one false [.slice])),(129, .l [qi]),(134, .l [qi]),(137, .l [qi]),(139, .l [qi]),(140, .l [.slice, .slice])],[],[(26,105,[],[(8,dxk1),(9,[.slice, .slice])]),(88,27,[],[(8,dxk1),(11,dxk3)])]⟩ (lw nf Tryz.f15)
theorem low15:lw nf Tryz.f15=some (eC d15):=by kernel_rfl
def R15 (l1:Bs) (h:PHeap) (Q:Value->PHeap->Prop):Prop:=
 tp 31 [vS l1] h fun v_1 h_1=>
 ∃ a1 n1 dxk1 i1 i2,v_1=vT [vL a1 n1 dxk1,vI i1,vI i2]/\
 br (i2 != 0)
 (Q (vT [vA [vL none 0 0,vL none 0 0],vI i1,vI i2]) h_1)
 (∃ (I_1:Nat->OA->Nat->Nat->Int->Int->Int->Int->OA->Nat->Nat->OA->Nat->Nat->PHeap->Prop),(∃ m2,I_1 m2 a1 n1 dxk1 0 (0:Int) (0:Int) (0:Int) none 0 0 none 0 0 h_1)/\
 ∀ m1 a2 n2 dxk2 i3 i4 i5 i6 a3 n3 dxk3 a4 n4 dxk4 h_2,I_1 m1 a2 n2 dxk2 i3 i4 i5 i6 a3 n3 dxk3 a4 n4 dxk4 h_2->
 br (i5 == 0)
 (tp 48 [vA [vL a2 n2 dxk2,vI i3,vI i4,vI i5,vI i6],vI 0] h_2 fun v_2 h_3=>
 ∃ c1,v_2=vB c1/\
 br (!c1)
 (tp 49 [vA [vL a2 n2 dxk2,vI i3,vI i4,vI i5,vI i6],vS [118,97,114]] h_3 fun v_3 h_4=>
 ∃ c2,v_3=vB c2/\
 br c2
 (tp 50 [vA [vL a2 n2 dxk2,vI i3,vI i4,vI i5,vI i6],vS [118,97,114]] h_4 fun v_4 h_5=>
 ∃ a5 n5 dxk5 i7 i8 i9 i10,v_4=vA [vL a5 n5 dxk5,vI i7,vI i8,vI i9,vI i10]/\
 tp 51 [vA [vL a5 n5 dxk5,vI i7,vI i8,vI i9,vI i10]] h_5 fun v_5 h_6=>
 ∃ a6 n6 dxk6 i11 i12 i13 i14 l2 i15,v_5=vT [vA [vL a6 n6 dxk6,vI i11,vI i12,vI i13,vI i14],vS l2,vI i15]/\
 tp 49 [vA [vL a6 n6 dxk6,vI i11,vI i12,vI i13,vI i14],vS [61]] h_6 fun v_6 h_7=>
 ∃ c3,v_6=vB c3/\
 br c3
 (tp 50 [vA [vL a6 n6 dxk6,vI i11,vI i12,vI i13,vI i14],vS [61]] h_7 fun v_7 h_8=>
 ∃ a7 n7 k7 i16 i17 i18 i19,v_7=vA [vL a7 n7 k7,vI i16,vI i17,vI i18,vI i19]/\
 tp 52 [vA [vL a7 n7 k7,vI i16,vI i17,vI i18,vI i19]] h_8 fun v_8 h_9=>
 ∃ a8 n8 k8 i20 i21 i22 i23 i24,v_8=vT [vA [vL a8 n8 k8,vI i20,vI i21,vI i22,vI i23],vI i24]/\
 tp 50 [vA [vL a8 n8 k8,vI i20,vI i21,vI i22,vI i23],vS [59]] h_9 fun v_9 h_10=>
 ∃ a9 n9 k9 i25 i26 i27 i28,v_9=vA [vL a9 n9 k9,vI i25,vI i26,vI i27,vI i28]/\
 alc h_10 [vS l2,vI 0,vI i24,vI i15] 95 fun b1 h_11=>
 rq [(71,vL a3 n3 dxk3),(73,vL (ad b1 0) 1 1)] o15_13 30 h_11 fun v_10 h_12=>
 ∃ a10 n10 k10,v_10=vL a10 n10 k10/\
 ∃ m3,m3 < m1/\I_1 m3 a9 n9 k9 i25 i26 i27 i28 a10 n10 k10 a4 n4 dxk4 h_12/\
 tv [vL none 0 0,vL none 0 0]/\True)
 (tp 49 [vA [vL a6 n6 dxk6,vI i11,vI i12,vI i13,vI i14],vS [91]] h_7 fun v_11 h_13=>
 ∃ c4,v_11=vB c4/\
 br c4
 (tp 50 [vA [vL a6 n6 dxk6,vI i11,vI i12,vI i13,vI i14],vS [91]] h_13 fun v_12 h_14=>
 ∃ a11 n11 k11 i29 i30 i31 i32,v_12=vA [vL a11 n11 k11,vI i29,vI i30,vI i31,vI i32]/\
 tp 52 [vA [vL a11 n11 k11,vI i29,vI i30,vI i31,vI i32]] h_14 fun v_13 h_15=>
 ∃ a12 n12 k12 i33 i34 i35 i36 i37,v_13=vT [vA [vL a12 n12 k12,vI i33,vI i34,vI i35,vI i36],vI i37]/\
 tp 50 [vA [vL a12 n12 k12,vI i33,vI i34,vI i35,vI i36],vS [93]] h_15 fun v_14 h_16=>
 ∃ a13 n13 k13 i38 i39 i40 i41,v_14=vA [vL a13 n13 k13,vI i38,vI i39,vI i40,vI i41]/\
 tp 50 [vA [vL a13 n13 k13,vI i38,vI i39,vI i40,vI i41],vS [59]] h_16 fun v_15 h_17=>
 ∃ a14 n14 k14 i42 i43 i44 i45,v_15=vA [vL a14 n14 k14,vI i42,vI i43,vI i44,vI i45]/\
 alc h_17 [vS l2,vI i37,vI 0,vI i15] 95 fun b2 h_18=>
 rq [(71,vL a3 n3 dxk3),(73,vL (ad b2 0) 1 1)] o15_13 30 h_18 fun v_16 h_19=>
 ∃ a15 n15 k15,v_16=vL a15 n15 k15/\
 ∃ m4,m4 < m1/\I_1 m4 a14 n14 k14 i42 i43 i44 i45 a15 n15 k15 a4 n4 dxk4 h_19/\
 tv [vL none 0 0,vL none 0 0]/\True)
 (tp 50 [vA [vL a6 n6 dxk6,vI i11,vI i12,vI i13,vI i14],vS [59]] h_13 fun v_17 h_20=>
 ∃ a16 n16 k16 i46 i47 i48 i49,v_17=vA [vL a16 n16 k16,vI i46,vI i47,vI i48,vI i49]/\
 alc h_20 [vS l2,vI 0,vI 0,vI i15] 95 fun b3 h_21=>
 rq [(71,vL a3 n3 dxk3),(73,vL (ad b3 0) 1 1)] o15_13 30 h_21 fun v_18 h_22=>
 ∃ a17 n17 k17,v_18=vL a17 n17 k17/\
 ∃ m5,m5 < m1/\I_1 m5 a16 n16 k16 i46 i47 i48 i49 a17 n17 k17 a4 n4 dxk4 h_22/\
 tv [vL none 0 0,vL none 0 0]/\True)))
 (tp 50 [vA [vL a2 n2 dxk2,vI i3,vI i4,vI i5,vI i6],vS [102,117,110,99]] h_4 fun v_19 h_23=>
 ∃ a18 n18 k18 i50 i51 i52 i53,v_19=vA [vL a18 n18 k18,vI i50,vI i51,vI i52,vI i53]/\
 tp 51 [vA [vL a18 n18 k18,vI i50,vI i51,vI i52,vI i53]] h_23 fun v_20 h_24=>
 ∃ a19 n19 k19 i54 i55 i56 i57 l3 i58,v_20=vT [vA [vL a19 n19 k19,vI i54,vI i55,vI i56,vI i57],vS l3,vI i58]/\
 tp 50 [vA [vL a19 n19 k19,vI i54,vI i55,vI i56,vI i57],vS [40]] h_24 fun v_21 h_25=>
 ∃ a20 n20 k20 i59 i60 i61 i62,v_21=vA [vL a20 n20 k20,vI i59,vI i60,vI i61,vI i62]/\
 ∃ (I_2:Nat->OA->Nat->Nat->Int->Int->Int->Int->Bs->OA->Nat->Nat->OA->Nat->Nat->Int->PHeap->Prop),(∃ m7,I_2 m7 a20 n20 k20 i59 i60 i61 i62 l3 none 0 0 none 0 0 i58 h_25)/\
 ∀ m6 a21 n21 k21 i63 i64 i65 i66 l4 a22 n22 k22 a23 n23 k23 i67 h_26,I_2 m6 a21 n21 k21 i63 i64 i65 i66 l4 a22 n22 k22 a23 n23 k23 i67 h_26->
 br (i65 == 0)
 (tp 49 [vA [vL a21 n21 k21,vI i63,vI i64,vI i65,vI i66],vS [41]] h_26 fun v_22 h_27=>
 ∃ c5,v_22=vB c5/\
 br (!c5)
 (br (decide ((n22:Int) > 0))
 (tp 50 [vA [vL a21 n21 k21,vI i63,vI i64,vI i65,vI i66],vS [44]] h_27 fun v_23 h_28=>
 ∃ a24 n24 k24 i68 i69 i70 i71,v_23=vA [vL a24 n24 k24,vI i68,vI i69,vI i70,vI i71]/\
 tp 51 [vA [vL a24 n24 k24,vI i68,vI i69,vI i70,vI i71]] h_28 fun v_24 h_29=>
 ∃ a25 n25 k25 i72 i73 i74 i75 l5 i76,v_24=vT [vA [vL a25 n25 k25,vI i72,vI i73,vI i74,vI i75],vS l5,vI i76]/\
 alc h_29 [vS l5] 9 fun b4 h_30=>
 rq [(109,vL a22 n22 k22),(111,vL (ad b4 0) 1 1)] o15_23 51 h_30 fun v_25 h_31=>
 ∃ a26 n26 k26,v_25=vL a26 n26 k26/\
 ∃ m8,m8 < m6/\I_2 m8 a25 n25 k25 i72 i73 i74 i75 l4 a26 n26 k26 a23 n23 k23 i67 h_31/\
 tv [vL a3 n3 dxk3,vL a4 n4 dxk4]/\tv [vL none 0 0,vL none 0 0]/\True)
 (tp 51 [vA [vL a21 n21 k21,vI i63,vI i64,vI i65,vI i66]] h_27 fun v_26 h_32=>
 ∃ a27 n27 k27 i77 i78 i79 i80 l6 i81,v_26=vT [vA [vL a27 n27 k27,vI i77,vI i78,vI i79,vI i80],vS l6,vI i81]/\
 alc h_32 [vS l6] 9 fun b5 h_33=>
 rq [(109,vL a22 n22 k22),(111,vL (ad b5 0) 1 1)] o15_23 51 h_33 fun v_27 h_34=>
 ∃ a28 n28 k28,v_27=vL a28 n28 k28/\
 ∃ m9,m9 < m6/\I_2 m9 a27 n27 k27 i77 i78 i79 i80 l4 a28 n28 k28 a23 n23 k23 i67 h_34/\
 tv [vL a3 n3 dxk3,vL a4 n4 dxk4]/\tv [vL none 0 0,vL none 0 0]/\True))
 (tp 50 [vA [vL a21 n21 k21,vI i63,vI i64,vI i65,vI i66],vS [41]] h_27 fun v_28 h_35=>
 ∃ a29 n29 k29 i82 i83 i84 i85,v_28=vA [vL a29 n29 k29,vI i82,vI i83,vI i84,vI i85]/\
 tp 53 [vA [vL a29 n29 k29,vI i82,vI i83,vI i84,vI i85]] h_35 fun v_29 h_36=>
 ∃ a30 n30 k30 i86 i87 i88 i89 a31 n31 k31,v_29=vT [vA [vL a30 n30 k30,vI i86,vI i87,vI i88,vI i89],vL a31 n31 k31]/\
 alc h_36 [vS l4,vL a22 n22 k22,vL a31 n31 k31,vI i67] 103 fun b6 h_37=>
 rq [(123,vL a4 n4 dxk4),(125,vL (ad b6 0) 1 1)] o15_26 31 h_37 fun v_30 h_38=>
 ∃ a32 n32 k32,v_30=vL a32 n32 k32/\
 ∃ m10,m10 < m1/\I_1 m10 a30 n30 k30 i86 i87 i88 i89 a3 n3 dxk3 a32 n32 k32 h_38/\
 tv [vL none 0 0,vL none 0 0]/\True))
 (tp 50 [vA [vL a21 n21 k21,vI i63,vI i64,vI i65,vI i66],vS [41]] h_26 fun v_31 h_39=>
 ∃ a33 n33 k33 i90 i91 i92 i93,v_31=vA [vL a33 n33 k33,vI i90,vI i91,vI i92,vI i93]/\
 tp 53 [vA [vL a33 n33 k33,vI i90,vI i91,vI i92,vI i93]] h_39 fun v_32 h_40=>
 ∃ a34 n34 k34 i94 i95 i96 i97 a35 n35 k35,v_32=vT [vA [vL a34 n34 k34,vI i94,vI i95,vI i96,vI i97],vL a35 n35 k35]/\
 alc h_40 [vS l4,vL a22 n22 k22,vL a35 n35 k35,vI i67] 103 fun b7 h_41=>
 rq [(123,vL a4 n4 dxk4),(125,vL (ad b7 0) 1 1)] o15_26 31 h_41 fun v_33 h_42=>
 ∃ a36 n36 k36,v_33=vL a36 n36 k36/\
 ∃ m11,m11 < m1/\I_1 m11 a34 n34 k34 i94 i95 i96 i97 a3 n3 dxk3 a36 n36 k36 h_42/\
 tv [vL none 0 0,vL none 0 0]/\True)))
 (br (i5 != 0)
 (slt a1 i6 n1 fun b8 o1=>
 ∃ i98,h_3.cell b8 ((o1+(i6).toNat * 5)+4)=some (vI i98)/\
 (tv [vI i5])/\
 (h_3.cell b8 ((o1+(i6).toNat * 5)+4)=some (vI i98))/\
 (tv [vI i6])/\
 Q (vT [vA [vL none 0 0,vL none 0 0],vI i98,vI i5]) h_3)
 (Q (vT [vA [vL a3 n3 dxk3,vL a4 n4 dxk4],vI 0,vI 0]) h_3)))
 (br (i5 != 0)
 (slt a1 i6 n1 fun b9 o2=>
 ∃ i99,h_2.cell b9 ((o2+(i6).toNat * 5)+4)=some (vI i99)/\
 (tv [vI i5])/\
 (h_2.cell b9 ((o2+(i6).toNat * 5)+4)=some (vI i99))/\
 (tv [vI i6])/\
 Q (vT [vA [vL none 0 0,vL none 0 0],vI i99,vI i5]) h_2)
 (Q (vT [vA [vL a3 n3 dxk3,vL a4 n4 dxk4],vI 0,vI 0]) h_2)))
theorem T15 {l1 h Q} (hR:R15 l1 h Q):Tri Tryz.prog 15 [vS l1] h Q:=
 tri_of_dn mixed Tryz.func15 rfl (by kernel_rfl) low15 (rs:=[.cell 2 true 2, .tmp 3, .tmp 4]) (by kernel_rfl) rfl (Eq.mpr (by kernel_rfl) hR)
def d27:DCode:=up ⟨[(27, .l [.slice]),(35, .l [.slice]),(38, .l [.str])],[],[(17,29,[(4,qi)],[]),(23,22,[(5,qi)],[])]⟩ (lw nf Tryz.f27)
theorem low27:lw nf Tryz.f27=some (eC d27):=by kernel_rfl
def R27 (l1:Bs) (h:PHeap) (Q:Value->PHeap->Prop):Prop:=
 alc h [vS [124,124]] 9 fun b1 h_1=>
 alc h_1 [vS [38,38]] 9 fun b2 h_2=>
 alc h_2 [vS [124]] 9 fun b3 h_3=>
 alc h_3 [vS [94]] 9 fun b4 h_4=>
 alc h_4 [vS [38]] 9 fun b5 h_5=>
 alc h_5 [vS [61,61],vS [33,61]] 9 fun b6 h_6=>
 alc h_6 [vS [60],vS [60,61],vS [62],vS [62,61]] 9 fun b7 h_7=>
 alc h_7 [vS [60,60],vS [62,62]] 9 fun b8 h_8=>
 alc h_8 [vS [43],vS [45]] 9 fun b9 h_9=>
 alc h_9 [vS [42],vS [47],vS [37]] 9 fun b10 h_10=>
 alc h_10 [vL (ad b1 0) 1 1,vL (ad b2 0) 1 1,vL (ad b3 0) 1 1,vL (ad b4 0) 1 1,vL (ad b5 0) 1 1,vL (ad b6 0) 2 2,vL (ad b7 0) 4 4,vL (ad b8 0) 2 2,vL (ad b9 0) 2 2,vL (ad b10 0) 3 3] 51 fun b11 h_11=>
 ∃ (I_1:Nat->Int->PHeap->Prop),(∃ m2,I_1 m2 0 h_11)/\
 ∀ m1 i1 h_12,I_1 m1 i1 h_12->
 br (decide (i1 < 10))
 (∃ (I_2:Nat->Int->PHeap->Prop),(∃ m4,I_2 m4 0 h_12)/\
 ∀ m3 i2 h_13,I_2 m3 i2 h_13->
 slt (ad b11 0) i1 (10:Nat) fun b12 o1=>
 ∃ a1 n1 dxk1,h_13.cell b12 (o1+(i1).toNat * 1)=some (vL a1 n1 dxk1)/\
 br (decide (i2 < (n1:Int)))
 (slt (ad b11 0) i1 (10:Nat) fun b13 o2=>
 ∃ a2 n2 dxk2,h_13.cell b13 (o2+(i1).toNat * 1)=some (vL a2 n2 dxk2)/\
 slt a2 i2 n2 fun b14 o3=>
 ∃ l2,h_13.cell b14 (o3+(i2).toNat * 1)=some (vS l2)/\
 br (l2 == l1)
 (Q (vI (IntKind.i64.wrap (i1+1))) h_13)
 (∃ m5,m5 < m3/\I_2 m5 (IntKind.i64.wrap (i2+1)) h_13/\
 True))
 (∃ m6,m6 < m1/\I_1 m6 (IntKind.i64.wrap (i1+1)) h_13/\
 True))
 (Q (vI 0) h_12)
theorem T27 {l1 h Q} (hR:R27 l1 h Q):Tri Tryz.prog 27 [vS l1] h Q:=
 tri_of_dn mixed Tryz.func27 rfl (by kernel_rfl) low27 (rs:=[.tmp 2]) (by kernel_rfl) rfl (Eq.mpr (by kernel_rfl) hR)
def d48:DCode:=up ⟨[(6, .l [qi]),(10, .l [.slice]),(12, .l [qi]),(15, .l [qi])],[],[]⟩ (lw nf Tryz.f48)
theorem low48:lw nf Tryz.f48=some (eC d48):=by kernel_rfl
def R48 (a1:OA) (n1 dxk1:Nat) (i1 i2 i3 i4 i5:Int) (h:PHeap) (Q:Value->PHeap->Prop):Prop:=
 br (i3 == 0)
 (slt a1 i1 n1 fun b1 o1=>
 ∃ i6,h.cell b1 (o1+(i1).toNat * 5)=some (vI i6)/\
 Q (vB (i6 == i5)) h)
 (Q (vB false) h)
theorem T48 {a1 n1 dxk1 i1 i2 i3 i4 i5 h Q} (hR:R48 a1 n1 dxk1 i1 i2 i3 i4 i5 h Q):Tri Tryz.prog 48 [vA [vL a1 n1 dxk1,vI i1,vI i2,vI i3,vI i4],vI i5] h Q:=
 tri_of_dn mixed Tryz.func48 rfl (by kernel_rfl) low48 (rs:=[.tmp 4]) (by kernel_rfl) rfl (Eq.mpr (by kernel_rfl) hR)
def d49:DCode:=up ⟨[(7, .l [.slice]),(9, .l [qi]),(11, .l dxk4),(13, .l [qi]),(17, .l [qi]),(21, .l [qi]),(27, .l [.str])],[],[]⟩ (lw nf Tryz.f49)
theorem low49:lw nf Tryz.f49=some (eC d49):=by kernel_rfl
def R49 (a1:OA) (n1 dxk1:Nat) (i1 i2 i3 i4:Int) (l1:Bs) (h:PHeap) (Q:Value->PHeap->Prop):Prop:=
 slt a1 i1 n1 fun b1 o1=>
 ∃ i5 l2 i6 l3 i7,h.row b1 (o1+(i1).toNat * 5) [vI i5,vS l2,vI i6,vS l3,vI i7]/\
 br (i3 == 0)
 (br (i5 == 5)
 (Q (vB (l2 == l1)) h)
 (br (i5 == 4)
 (Q (vB (l2 == l1)) h)
 (Q (vB false) h)))
 (Q (vB false) h)
theorem T49 {a1 n1 dxk1 i1 i2 i3 i4 l1 h Q} (hR:R49 a1 n1 dxk1 i1 i2 i3 i4 l1 h Q):Tri Tryz.prog 49 [vA [vL a1 n1 dxk1,vI i1,vI i2,vI i3,vI i4],vS l1] h Q:=
 tri_of_dn mixed Tryz.func49 rfl (by kernel_rfl) low49 (rs:=[.tmp 4]) (by kernel_rfl) rfl (Eq.mpr (by kernel_rfl) hR)
def d50:DCode:=up ⟨[(5, .l dxk1),(7, .c (.one false [.bool])),(9, .l dxk1),(10, .c (.one true dxk1)),(17, .l [qi]),(19, .l dxk1),(20, .c (.one true dxk1)),(22, .l [qi]),(30, .l [qi]),(34, .l [qi]),(37, .l dxk1)],[],[]⟩ (lw nf Tryz.f50)
theorem low50:lw nf Tryz.f50=some (eC d50):=by kernel_rfl
def R50 (a1:OA) (n1 dxk1:Nat) (i1 i2 i3 i4:Int) (l1:Bs) (h:PHeap) (Q:Value->PHeap->Prop):Prop:=
 tp 49 [vA [vL a1 n1 dxk1,vI i1,vI i2,vI i3,vI i4],vS l1] h fun v_1 h_1=>
 ∃ c1,v_1=vB c1/\
 br (!c1)
 (tp 95 [vA [vL a1 n1 dxk1,vI i1,vI i2,vI i3,vI i4],vI 30] h_1 fun v_2 h_2=>
 ∃ a2 n2 dxk2 i5 i6 i7 i8,v_2=vA [vL a2 n2 dxk2,vI i5,vI i6,vI i7,vI i8]/\
 Q (vA [vL a2 n2 dxk2,vI i5,vI i6,vI i7,vI i8]) h_2)
 (br (l1 == [40])
 (br (i2 == 32)
 (tp 95 [vA [vL a1 n1 dxk1,vI i1,vI i2,vI i3,vI i4],vI 9] h_1 fun v_3 h_3=>
 ∃ a3 n3 dxk3 i9 i10 i11 i12,v_3=vA [vL a3 n3 dxk3,vI i9,vI i10,vI i11,vI i12]/\
 Q (vA [vL a3 n3 dxk3,vI i9,vI i10,vI i11,vI i12]) h_3)
 (Q (vA [vL a1 n1 dxk1,vI (IntKind.i64.wrap (i1+1)),vI (IntKind.i64.wrap (i2+1)),vI i3,vI i4]) h_1))
 (br (l1 == [91])
 (br (i2 == 32)
 (tp 95 [vA [vL a1 n1 dxk1,vI i1,vI i2,vI i3,vI i4],vI 9] h_1 fun v_4 h_4=>
 ∃ a4 n4 dxk4 i13 i14 i15 i16,v_4=vA [vL a4 n4 dxk4,vI i13,vI i14,vI i15,vI i16]/\
 Q (vA [vL a4 n4 dxk4,vI i13,vI i14,vI i15,vI i16]) h_4)
 (Q (vA [vL a1 n1 dxk1,vI (IntKind.i64.wrap (i1+1)),vI (IntKind.i64.wrap (i2+1)),vI i3,vI i4]) h_1))
 (br (l1 == [123])
 (br (i2 == 32)
 (tp 95 [vA [vL a1 n1 dxk1,vI i1,vI i2,vI i3,vI i4],vI 9] h_1 fun v_5 h_5=>
 ∃ a5 n5 dxk5 i17 i18 i19 i20,v_5=vA [vL a5 n5 dxk5,vI i17,vI i18,vI i19,vI i20]/\
 Q (vA [vL a5 n5 dxk5,vI i17,vI i18,vI i19,vI i20]) h_5)
 (Q (vA [vL a1 n1 dxk1,vI (IntKind.i64.wrap (i1+1)),vI (IntKind.i64.wrap (i2+1)),vI i3,vI i4]) h_1))
 (br (l1 == [41])
 (Q (vA [vL a1 n1 dxk1,vI (IntKind.i64.wrap (i1+1)),vI (IntKind.i64.wrap (i2 - 1)),vI i3,vI i4]) h_1)
 (br (l1 == [93])
 (Q (vA [vL a1 n1 dxk1,vI (IntKind.i64.wrap (i1+1)),vI (IntKind.i64.wrap (i2 - 1)),vI i3,vI i4]) h_1)
 (br (l1 == [125])
 (Q (vA [vL a1 n1 dxk1,vI (IntKind.i64.wrap (i1+1)),vI (IntKind.i64.wrap (i2 - 1)),vI i3,vI i4]) h_1)
 (Q (vA [vL a1 n1 dxk1,vI (IntKind.i64.wrap (i1+1)),vI i2,vI i3,vI i4]) h_1)))))))
theorem T50 {a1 n1 dxk1 i1 i2 i3 i4 l1 h Q} (hR:R50 a1 n1 dxk1 i1 i2 i3 i4 l1 h Q):Tri Tryz.prog 50 [vA [vL a1 n1 dxk1,vI i1,vI i2,vI i3,vI i4],vS l1] h Q:=
 tri_of_dn mixed Tryz.func50 rfl (by kernel_rfl) low50 (rs:=[.cell 4 true 5]) (by kernel_rfl) rfl (Eq.mpr (by kernel_rfl) hR)
def d51:DCode:=up ⟨[(6, .l dxk1),(7, .c (.one false [.bool])),(9, .l dxk1),(10, .c (.one true dxk1)),(12, .l [.slice]),(14, .l [qi]),(16, .l dxk4),(18, .l [qi]),(21, .l dxk1),(23, .l [.str]),(25, .l [qi])],[],[]⟩ (lw nf Tryz.f51)
theorem low51:lw nf Tryz.f51=some (eC d51):=by kernel_rfl
def R51 (a1:OA) (n1 dxk1:Nat) (i1 i2 i3 i4:Int) (h:PHeap) (Q:Value->PHeap->Prop):Prop:=
 tp 48 [vA [vL a1 n1 dxk1,vI i1,vI i2,vI i3,vI i4],vI 1] h fun v_1 h_1=>
 ∃ c1,v_1=vB c1/\
 br (!c1)
 (tp 95 [vA [vL a1 n1 dxk1,vI i1,vI i2,vI i3,vI i4],vI 30] h_1 fun v_2 h_2=>
 ∃ a2 n2 dxk2 i5 i6 i7 i8,v_2=vA [vL a2 n2 dxk2,vI i5,vI i6,vI i7,vI i8]/\
 Q (vT [vA [vL a2 n2 dxk2,vI i5,vI i6,vI i7,vI i8],vS [],vI 0]) h_2)
 (slt a1 i1 n1 fun b1 o1=>
 ∃ i9 l1 i10 l2 i11,h_1.row b1 (o1+(i1).toNat * 5) [vI i9,vS l1,vI i10,vS l2,vI i11]/\
 (tv [vI i11])/\
 (tv [vS l1])/\
 Q (vT [vA [vL a1 n1 dxk1,vI (IntKind.i64.wrap (i1+1)),vI i2,vI i3,vI i4],vS l1,vI i11]) h_1)
theorem T51 {a1 n1 dxk1 i1 i2 i3 i4 h Q} (hR:R51 a1 n1 dxk1 i1 i2 i3 i4 h Q):Tri Tryz.prog 51 [vA [vL a1 n1 dxk1,vI i1,vI i2,vI i3,vI i4]] h Q:=
 tri_of_dn mixed Tryz.func51 rfl (by kernel_rfl) low51 (rs:=[.cell 2 true 5, .tmp 3, .tmp 4]) (by kernel_rfl) rfl (Eq.mpr (by kernel_rfl) hR)
def d52:DCode:=up ⟨[(5, .l dxk1),(6, .c (.one false [.bool])),(8, .l dxk1),(9, .c (.one true dxk1)),(11, .l [.slice]),(13, .l [qi]),(16, .l [qi]),(18, .l [qi]),(21, .l dxk1)],[],[]⟩ (lw nf Tryz.f52)
theorem low52:lw nf Tryz.f52=some (eC d52):=by kernel_rfl
def R52 (a1:OA) (n1 dxk1:Nat) (i1 i2 i3 i4:Int) (h:PHeap) (Q:Value->PHeap->Prop):Prop:=
 tp 48 [vA [vL a1 n1 dxk1,vI i1,vI i2,vI i3,vI i4],vI 2] h fun v_1 h_1=>
 ∃ c1,v_1=vB c1/\
 br (!c1)
 (tp 95 [vA [vL a1 n1 dxk1,vI i1,vI i2,vI i3,vI i4],vI 30] h_1 fun v_2 h_2=>
 ∃ a2 n2 dxk2 i5 i6 i7 i8,v_2=vA [vL a2 n2 dxk2,vI i5,vI i6,vI i7,vI i8]/\
 Q (vT [vA [vL a2 n2 dxk2,vI i5,vI i6,vI i7,vI i8],vI 0]) h_2)
 (slt a1 i1 n1 fun b1 o1=>
 ∃ i9,h_1.cell b1 ((o1+(i1).toNat * 5)+2)=some (vI i9)/\
 Q (vT [vA [vL a1 n1 dxk1,vI (IntKind.i64.wrap (i1+1)),vI i2,vI i3,vI i4],vI i9]) h_1)
theorem T52 {a1 n1 dxk1 i1 i2 i3 i4 h Q} (hR:R52 a1 n1 dxk1 i1 i2 i3 i4 h Q):Tri Tryz.prog 52 [vA [vL a1 n1 dxk1,vI i1,vI i2,vI i3,vI i4]] h Q:=
 tri_of_dn mixed Tryz.func52 rfl (by kernel_rfl) low52 (rs:=[.cell 2 true 5, .tmp 3]) (by kernel_rfl) rfl (Eq.mpr (by kernel_rfl) hR)
abbrev o53_4:Op:= .call { callee:=(.builtin .append),args:=#[(.tmp 21),(.tmp 23)],argTypes:=#[101,101] }
def d53:DCode:=up ⟨[(6, .l dxk1),(7, .c (.one true dxk1)),(9, .l [qi]),(12, .l dxk1),(13, .c (.one false [.bool])),(17, .l dxk1),(18, .c (.tup [(true,dxk1),(true,dxk5)])),(22, .l dxk5),(24, .c (.one false [.slice])),(25, .l dxk1),(26, .c (.one true dxk1))],[],[(8,19,[(4, .slice)],[(1,dxk1)])]⟩ (lw nf Tryz.f53)
theorem low53:lw nf Tryz.f53=some (eC d53):=by kernel_rfl
def R53 (a1:OA) (n1 dxk1:Nat) (i1 i2 i3 i4:Int) (h:PHeap) (Q:Value->PHeap->Prop):Prop:=
 tp 50 [vA [vL a1 n1 dxk1,vI i1,vI i2,vI i3,vI i4],vS [123]] h fun v_1 h_1=>
 ∃ a2 n2 dxk2 i5 i6 i7 i8,v_1=vA [vL a2 n2 dxk2,vI i5,vI i6,vI i7,vI i8]/\
 ∃ (I_1:Nat->OA->Nat->Nat->OA->Nat->Nat->Int->Int->Int->Int->PHeap->Prop),(∃ m2,I_1 m2 none 0 0 a2 n2 dxk2 i5 i6 i7 i8 h_1)/\
 ∀ m1 a3 n3 dxk3 a4 n4 dxk4 i9 i10 i11 i12 h_2,I_1 m1 a3 n3 dxk3 a4 n4 dxk4 i9 i10 i11 i12 h_2->
 br (i11 == 0)
 (tp 49 [vA [vL a4 n4 dxk4,vI i9,vI i10,vI i11,vI i12],vS [125]] h_2 fun v_2 h_3=>
 ∃ c1,v_2=vB c1/\
 br (!c1)
 (tp 96 [vA [vL a4 n4 dxk4,vI i9,vI i10,vI i11,vI i12]] h_3 fun v_3 h_4=>
 ∃ a5 n5 dxk5 i13 i14 i15 i16 i17 l1 a6 n6 dxk6 a7 n7 k7 a8 n8 k8 i18,v_3=vT [vA [vL a5 n5 dxk5,vI i13,vI i14,vI i15,vI i16],vA [vI i17,vS l1,vL a6 n6 dxk6,vL a7 n7 k7,vL a8 n8 k8,vI i18]]/\
 alc h_4 [vI i17,vS l1,vL a6 n6 dxk6,vL a7 n7 k7,vL a8 n8 k8,vI i18] 174 fun b1 h_5=>
 rq [(21,vL a3 n3 dxk3),(23,vL (ad b1 0) 1 1)] o53_4 101 h_5 fun v_4 h_6=>
 ∃ a9 n9 k9,v_4=vL a9 n9 k9/\
 ∃ m3,m3 < m1/\I_1 m3 a9 n9 k9 a5 n5 dxk5 i13 i14 i15 i16 h_6/\
 tv [vL none 0 0,vI 0,vI 0,vI 0,vI 0]/\True)
 (tp 50 [vA [vL a4 n4 dxk4,vI i9,vI i10,vI i11,vI i12],vS [125]] h_3 fun v_5 h_7=>
 ∃ a10 n10 k10 i19 i20 i21 i22,v_5=vA [vL a10 n10 k10,vI i19,vI i20,vI i21,vI i22]/\
 Q (vT [vA [vL a10 n10 k10,vI i19,vI i20,vI i21,vI i22],vL a3 n3 dxk3]) h_7))
 (tp 50 [vA [vL a4 n4 dxk4,vI i9,vI i10,vI i11,vI i12],vS [125]] h_2 fun v_6 h_8=>
 ∃ a11 n11 k11 i23 i24 i25 i26,v_6=vA [vL a11 n11 k11,vI i23,vI i24,vI i25,vI i26]/\
 Q (vT [vA [vL a11 n11 k11,vI i23,vI i24,vI i25,vI i26],vL a3 n3 dxk3]) h_8)
theorem T53 {a1 n1 dxk1 i1 i2 i3 i4 h Q} (hR:R53 a1 n1 dxk1 i1 i2 i3 i4 h Q):Tri Tryz.prog 53 [vA [vL a1 n1 dxk1,vI i1,vI i2,vI i3,vI i4]] h Q:=
 tri_of_dn mixed Tryz.func53 rfl (by kernel_rfl) low53 (rs:=[.cell 2 true 5, .tmp 3]) (by kernel_rfl) rfl (Eq.mpr (by kernel_rfl) hR)
def d95:DCode:=up ⟨[(6, .l [qi]),(10, .l [qi]),(13, .l dxk1)],[],[]⟩ (lw nf Tryz.f95)
theorem low95:lw nf Tryz.f95=some (eC d95):=by kernel_rfl
def R95 (a1:OA) (n1 dxk1:Nat) (i1 i2 i3 i4 i5:Int) (h:PHeap) (Q:Value->PHeap->Prop):Prop:=
 br (i3 == 0)
 (Q (vA [vL a1 n1 dxk1,vI i1,vI i2,vI i5,vI i1]) h)
 (Q (vA [vL a1 n1 dxk1,vI i1,vI i2,vI i3,vI i4]) h)
theorem T95 {a1 n1 dxk1 i1 i2 i3 i4 i5 h Q} (hR:R95 a1 n1 dxk1 i1 i2 i3 i4 i5 h Q):Tri Tryz.prog 95 [vA [vL a1 n1 dxk1,vI i1,vI i2,vI i3,vI i4],vI i5] h Q:=
 tri_of_dn mixed Tryz.func95 rfl (by kernel_rfl) low95 (rs:=[.cell 4 true 5]) (by kernel_rfl) rfl (Eq.mpr (by kernel_rfl) hR)
abbrev o96_30:Op:= .call { callee:=(.builtin .append),args:=#[(.tmp 78),(.tmp 80)],argTypes:=#[172,172] }
def d96:DCode:=up ⟨[(10, .l [.slice]),(12, .l [qi]),(14, .l dxk4),(16, .l [qi]),(84, .l dxk1),(85, .c (.one false [.bool])),(87, .l dxk1),(88, .c (.one true dxk1)),(90, .l dxk1),(91, .c (.tup [(true,dxk1),(false,[.str]),(false,[qi])])),(96, .l dxk1),(97, .c (.one false [.bool])),(98, .l dxk1),(99, .c (.one true dxk1)),(101, .l dxk1),(102, .c (.tup [(true,dxk1),(true,dxk6)])),(105, .l dxk6),(109, .l dxk1),(110, .c (.one false [.bool])),(112, .l dxk1),(113, .c (.one true dxk1)),(115, .l dxk1),(116, .c (.tup [(true,dxk1),(true,dxk6)])),(119, .l dxk6),(123, .l dxk1),(124, .c (.tup [(true,dxk1),(false,[.slice])])),(128, .l dxk1),(129, .c (.one false [.bool])),(130, .l dxk1),(131, .c (.one true dxk1)),(132, .l dxk1),(133, .c (.one false [.bool])),(135, .l dxk1),(136, .c (.tup [(true,dxk1),(true,dxk5)])),(139, .l dxk5),(143, .l dxk1),(144, .c (.tup [(true,dxk1),(false,[.slice])])),(148, .l dxk1),(149, .l dxk5),(151, .l dxk1),(152, .c (.one false [.bool])),(154, .l dxk1),(155, .c (.one true dxk1)),(157, .l dxk1),(158, .c (.tup [(true,dxk1),(true,dxk6)])),(161, .l dxk6),(165, .l dxk1),(166, .c (.tup [(true,dxk1),(false,[.slice])])),(170, .l dxk1),(171, .l dxk5),(173, .l dxk1),(174, .c (.one false [.bool])),(176, .l dxk1),(177, .c (.one true dxk1)),(178, .l dxk1),(179, .c (.one false [.bool])),(183, .l [qi]),(187, .l dxk1),(188, .c (.tup [(true,dxk1),(true,dxk6)])),(191, .l dxk6),(195, .l dxk1),(196, .c (.one false [.bool])),(198, .l dxk1),(199, .c (.one true dxk1)),(201, .l dxk1),(202, .c (.one false [.bool])),(204, .l dxk1),(205, .c (.one true dxk1)),(19, .l dxk1),(20, .c (.tup [(true,dxk1),(false,[.str]),(false,[qi])])),(37, .l dxk1),(38, .c (.one false [.bool])),(41, .l dxk1),(42, .c (.tup [(true,dxk1),(false,[.slice])])),(46, .l [.str]),(49, .l [qi]),(55, .l dxk1),(56, .c (.one false [.bool])),(58, .l dxk1),(59, .c (.one true dxk1)),(61, .l dxk1),(62, .c (.tup [(true,dxk1),(true,dxk6)])),(65, .l dxk6),(68, .l dxk1),(69, .c (.one true dxk1)),(70, .l dxk1),(71, .c (.one true dxk1)),(73, .l dxk1),(74, .c (.tup [(true,dxk1),(true,dxk6)])),(78, .l [.slice]),(79, .l dxk6),(81, .c (.one false [.slice])),(26, .l dxk1),(27, .c (.one true dxk1)),(29, .l dxk1),(30, .c (.tup [(true,dxk1),(true,dxk6)])),(33, .l dxk6),(206, .l dxk1),(207, .c (.one true dxk1)),(208, .l dxk5)],[],[]⟩ (lw nf Tryz.f96)
theorem low96:lw nf Tryz.f96=some (eC d96):=by kernel_rfl
def R96 (a1:OA) (n1 dxk1:Nat) (i1 i2 i3 i4:Int) (h:PHeap) (Q:Value->PHeap->Prop):Prop:=
 slt a1 i1 n1 fun b1 o1=>
 ∃ i5 l1 i6 l2 i7,h.row b1 (o1+(i1).toNat * 5) [vI i5,vS l1,vI i6,vS l2,vI i7]/\
 tp 49 [vA [vL a1 n1 dxk1,vI i1,vI i2,vI i3,vI i4],vS [118,97,114]] h fun v_1 h_1=>
 ∃ c1,v_1=vB c1/\
 br c1
 (tp 50 [vA [vL a1 n1 dxk1,vI i1,vI i2,vI i3,vI i4],vS [118,97,114]] h_1 fun v_2 h_2=>
 ∃ a2 n2 dxk2 i8 i9 i10 i11,v_2=vA [vL a2 n2 dxk2,vI i8,vI i9,vI i10,vI i11]/\
 tp 51 [vA [vL a2 n2 dxk2,vI i8,vI i9,vI i10,vI i11]] h_2 fun v_3 h_3=>
 ∃ a3 n3 dxk3 i12 i13 i14 i15 l3 i16,v_3=vT [vA [vL a3 n3 dxk3,vI i12,vI i13,vI i14,vI i15],vS l3,vI i16]/\
 tp 49 [vA [vL a3 n3 dxk3,vI i12,vI i13,vI i14,vI i15],vS [61]] h_3 fun v_4 h_4=>
 ∃ c2,v_4=vB c2/\
 br c2
 (tp 50 [vA [vL a3 n3 dxk3,vI i12,vI i13,vI i14,vI i15],vS [61]] h_4 fun v_5 h_5=>
 ∃ a4 n4 dxk4 i17 i18 i19 i20,v_5=vA [vL a4 n4 dxk4,vI i17,vI i18,vI i19,vI i20]/\
 tp 142 [vA [vL a4 n4 dxk4,vI i17,vI i18,vI i19,vI i20],vI 1] h_5 fun v_6 h_6=>
 ∃ a5 n5 dxk5 i21 i22 i23 i24 i25 l4 l5 i26 l6 a6 n6 dxk6 i27,v_6=vT [vA [vL a5 n5 dxk5,vI i21,vI i22,vI i23,vI i24],vA [vI i25,vS l4,vS l5,vI i26,vS l6,vL a6 n6 dxk6,vI i27]]/\
 alc h_6 [vI i25,vS l4,vS l5,vI i26,vS l6,vL a6 n6 dxk6,vI i27] 186 fun b2 h_7=>
 tp 50 [vA [vL a5 n5 dxk5,vI i21,vI i22,vI i23,vI i24],vS [59]] h_7 fun v_7 h_8=>
 ∃ a7 n7 k7 i28 i29 i30 i31,v_7=vA [vL a7 n7 k7,vI i28,vI i29,vI i30,vI i31]/\
 (tv [vI 1,vS l3,vL (ad b2 0) 1 1,vL none 0 0,vL none 0 0,vI i7])/\
 (tv [vI 1,vS l3,vL (ad b2 0) 1 1,vL none 0 0,vL none 0 0,vI i7])/\
 Q (vT [vA [vL a7 n7 k7,vI i28,vI i29,vI i30,vI i31],vA [vI 1,vS l3,vL (ad b2 0) 1 1,vL none 0 0,vL none 0 0,vI i7]]) h_8)
 (tp 50 [vA [vL a3 n3 dxk3,vI i12,vI i13,vI i14,vI i15],vS [59]] h_4 fun v_8 h_9=>
 ∃ a8 n8 k8 i32 i33 i34 i35,v_8=vA [vL a8 n8 k8,vI i32,vI i33,vI i34,vI i35]/\
 (tv [vI 1,vS l3,vL none 0 0,vL none 0 0,vL none 0 0,vI i7])/\
 (tv [vI 1,vS l3,vL none 0 0,vL none 0 0,vL none 0 0,vI i7])/\
 Q (vT [vA [vL a8 n8 k8,vI i32,vI i33,vI i34,vI i35],vA [vI 1,vS l3,vL none 0 0,vL none 0 0,vL none 0 0,vI i7]]) h_9))
 (tp 49 [vA [vL a1 n1 dxk1,vI i1,vI i2,vI i3,vI i4],vS [105,102]] h_1 fun v_9 h_10=>
 ∃ c3,v_9=vB c3/\
 br c3
 (tp 50 [vA [vL a1 n1 dxk1,vI i1,vI i2,vI i3,vI i4],vS [105,102]] h_10 fun v_10 h_11=>
 ∃ a9 n9 k9 i36 i37 i38 i39,v_10=vA [vL a9 n9 k9,vI i36,vI i37,vI i38,vI i39]/\
 tp 143 [vA [vL a9 n9 k9,vI i36,vI i37,vI i38,vI i39]] h_11 fun v_11 h_12=>
 ∃ a10 n10 k10 i40 i41 i42 i43 i44 l7 l8 i45 l9 a11 n11 k11 i46,v_11=vT [vA [vL a10 n10 k10,vI i40,vI i41,vI i42,vI i43],vA [vI i44,vS l7,vS l8,vI i45,vS l9,vL a11 n11 k11,vI i46]]/\
 alc h_12 [vI i44,vS l7,vS l8,vI i45,vS l9,vL a11 n11 k11,vI i46] 186 fun b3 h_13=>
 tp 53 [vA [vL a10 n10 k10,vI i40,vI i41,vI i42,vI i43]] h_13 fun v_12 h_14=>
 ∃ a12 n12 k12 i47 i48 i49 i50 a13 n13 k13,v_12=vT [vA [vL a12 n12 k12,vI i47,vI i48,vI i49,vI i50],vL a13 n13 k13]/\
 tp 49 [vA [vL a12 n12 k12,vI i47,vI i48,vI i49,vI i50],vS [101,108,115,101]] h_14 fun v_13 h_15=>
 ∃ c4,v_13=vB c4/\
 br c4
 (tp 50 [vA [vL a12 n12 k12,vI i47,vI i48,vI i49,vI i50],vS [101,108,115,101]] h_15 fun v_14 h_16=>
 ∃ a14 n14 k14 i51 i52 i53 i54,v_14=vA [vL a14 n14 k14,vI i51,vI i52,vI i53,vI i54]/\
 tp 49 [vA [vL a14 n14 k14,vI i51,vI i52,vI i53,vI i54],vS [105,102]] h_16 fun v_15 h_17=>
 ∃ c5,v_15=vB c5/\
 br c5
 (tp 96 [vA [vL a14 n14 k14,vI i51,vI i52,vI i53,vI i54]] h_17 fun v_16 h_18=>
 ∃ a15 n15 k15 i55 i56 i57 i58 i59 l10 a16 n16 k16 a17 n17 k17 a18 n18 k18 i60,v_16=vT [vA [vL a15 n15 k15,vI i55,vI i56,vI i57,vI i58],vA [vI i59,vS l10,vL a16 n16 k16,vL a17 n17 k17,vL a18 n18 k18,vI i60]]/\
 alc h_18 [vI i59,vS l10,vL a16 n16 k16,vL a17 n17 k17,vL a18 n18 k18,vI i60] 174 fun b4 h_19=>
 (tv [vI 5,vS [],vL (ad b3 0) 1 1,vL a13 n13 k13,vL (ad b4 0) 1 1,vI i7])/\
 Q (vT [vA [vL a15 n15 k15,vI i55,vI i56,vI i57,vI i58],vA [vI 5,vS [],vL (ad b3 0) 1 1,vL a13 n13 k13,vL (ad b4 0) 1 1,vI i7]]) h_19)
 (tp 53 [vA [vL a14 n14 k14,vI i51,vI i52,vI i53,vI i54]] h_17 fun v_17 h_20=>
 ∃ a19 n19 k19 i61 i62 i63 i64 a20 n20 k20,v_17=vT [vA [vL a19 n19 k19,vI i61,vI i62,vI i63,vI i64],vL a20 n20 k20]/\
 (tv [vI 5,vS [],vL (ad b3 0) 1 1,vL a13 n13 k13,vL a20 n20 k20,vI i7])/\
 Q (vT [vA [vL a19 n19 k19,vI i61,vI i62,vI i63,vI i64],vA [vI 5,vS [],vL (ad b3 0) 1 1,vL a13 n13 k13,vL a20 n20 k20,vI i7]]) h_20))
 ((tv [vI 5,vS [],vL (ad b3 0) 1 1,vL a13 n13 k13,vL none 0 0,vI i7])/\
 Q (vT [vA [vL a12 n12 k12,vI i47,vI i48,vI i49,vI i50],vA [vI 5,vS [],vL (ad b3 0) 1 1,vL a13 n13 k13,vL none 0 0,vI i7]]) h_15))
 (tp 49 [vA [vL a1 n1 dxk1,vI i1,vI i2,vI i3,vI i4],vS [119,104,105,108,101]] h_10 fun v_18 h_21=>
 ∃ c6,v_18=vB c6/\
 br c6
 (tp 50 [vA [vL a1 n1 dxk1,vI i1,vI i2,vI i3,vI i4],vS [119,104,105,108,101]] h_21 fun v_19 h_22=>
 ∃ a21 n21 k21 i65 i66 i67 i68,v_19=vA [vL a21 n21 k21,vI i65,vI i66,vI i67,vI i68]/\
 tp 143 [vA [vL a21 n21 k21,vI i65,vI i66,vI i67,vI i68]] h_22 fun v_20 h_23=>
 ∃ a22 n22 k22 i69 i70 i71 i72 i73 l11 l12 i74 l13 a23 n23 k23 i75,v_20=vT [vA [vL a22 n22 k22,vI i69,vI i70,vI i71,vI i72],vA [vI i73,vS l11,vS l12,vI i74,vS l13,vL a23 n23 k23,vI i75]]/\
 alc h_23 [vI i73,vS l11,vS l12,vI i74,vS l13,vL a23 n23 k23,vI i75] 186 fun b5 h_24=>
 tp 53 [vA [vL a22 n22 k22,vI i69,vI i70,vI i71,vI i72]] h_24 fun v_21 h_25=>
 ∃ a24 n24 k24 i76 i77 i78 i79 a25 n25 k25,v_21=vT [vA [vL a24 n24 k24,vI i76,vI i77,vI i78,vI i79],vL a25 n25 k25]/\
 (tv [vI 6,vS [],vL (ad b5 0) 1 1,vL a25 n25 k25,vL none 0 0,vI i7])/\
 Q (vT [vA [vL a24 n24 k24,vI i76,vI i77,vI i78,vI i79],vA [vI 6,vS [],vL (ad b5 0) 1 1,vL a25 n25 k25,vL none 0 0,vI i7]]) h_25)
 (tp 49 [vA [vL a1 n1 dxk1,vI i1,vI i2,vI i3,vI i4],vS [114,101,116,117,114,110]] h_21 fun v_22 h_26=>
 ∃ c7,v_22=vB c7/\
 br c7
 (tp 50 [vA [vL a1 n1 dxk1,vI i1,vI i2,vI i3,vI i4],vS [114,101,116,117,114,110]] h_26 fun v_23 h_27=>
 ∃ a26 n26 k26 i80 i81 i82 i83,v_23=vA [vL a26 n26 k26,vI i80,vI i81,vI i82,vI i83]/\
 tp 49 [vA [vL a26 n26 k26,vI i80,vI i81,vI i82,vI i83],vS [59]] h_27 fun v_24 h_28=>
 ∃ c8,v_24=vB c8/\
 br (!c8)
 (br (i82 == 0)
 (tp 142 [vA [vL a26 n26 k26,vI i80,vI i81,vI i82,vI i83],vI 1] h_28 fun v_25 h_29=>
 ∃ a27 n27 k27 i84 i85 i86 i87 i88 l14 l15 i89 l16 a28 n28 k28 i90,v_25=vT [vA [vL a27 n27 k27,vI i84,vI i85,vI i86,vI i87],vA [vI i88,vS l14,vS l15,vI i89,vS l16,vL a28 n28 k28,vI i90]]/\
 alc h_29 [vI i88,vS l14,vS l15,vI i89,vS l16,vL a28 n28 k28,vI i90] 186 fun b6 h_30=>
 tp 50 [vA [vL a27 n27 k27,vI i84,vI i85,vI i86,vI i87],vS [59]] h_30 fun v_26 h_31=>
 ∃ a29 n29 k29 i91 i92 i93 i94,v_26=vA [vL a29 n29 k29,vI i91,vI i92,vI i93,vI i94]/\
 (tv [vI 7,vS [],vL (ad b6 0) 1 1,vL none 0 0,vL none 0 0,vI i7])/\
 (tv [vI 7,vS [],vL (ad b6 0) 1 1,vL none 0 0,vL none 0 0,vI i7])/\
 Q (vT [vA [vL a29 n29 k29,vI i91,vI i92,vI i93,vI i94],vA [vI 7,vS [],vL (ad b6 0) 1 1,vL none 0 0,vL none 0 0,vI i7]]) h_31)
 (tp 50 [vA [vL a26 n26 k26,vI i80,vI i81,vI i82,vI i83],vS [59]] h_28 fun v_27 h_32=>
 ∃ a30 n30 k30 i95 i96 i97 i98,v_27=vA [vL a30 n30 k30,vI i95,vI i96,vI i97,vI i98]/\
 (tv [vI 7,vS [],vL none 0 0,vL none 0 0,vL none 0 0,vI i7])/\
 (tv [vI 7,vS [],vL none 0 0,vL none 0 0,vL none 0 0,vI i7])/\
 Q (vT [vA [vL a30 n30 k30,vI i95,vI i96,vI i97,vI i98],vA [vI 7,vS [],vL none 0 0,vL none 0 0,vL none 0 0,vI i7]]) h_32))
 (tp 50 [vA [vL a26 n26 k26,vI i80,vI i81,vI i82,vI i83],vS [59]] h_28 fun v_28 h_33=>
 ∃ a31 n31 k31 i99 i100 i101 i102,v_28=vA [vL a31 n31 k31,vI i99,vI i100,vI i101,vI i102]/\
 (tv [vI 7,vS [],vL none 0 0,vL none 0 0,vL none 0 0,vI i7])/\
 (tv [vI 7,vS [],vL none 0 0,vL none 0 0,vL none 0 0,vI i7])/\
 Q (vT [vA [vL a31 n31 k31,vI i99,vI i100,vI i101,vI i102],vA [vI 7,vS [],vL none 0 0,vL none 0 0,vL none 0 0,vI i7]]) h_33))
 (tp 49 [vA [vL a1 n1 dxk1,vI i1,vI i2,vI i3,vI i4],vS [98,114,101,97,107]] h_26 fun v_29 h_34=>
 ∃ c9,v_29=vB c9/\
 br c9
 (tp 50 [vA [vL a1 n1 dxk1,vI i1,vI i2,vI i3,vI i4],vS [98,114,101,97,107]] h_34 fun v_30 h_35=>
 ∃ a32 n32 k32 i103 i104 i105 i106,v_30=vA [vL a32 n32 k32,vI i103,vI i104,vI i105,vI i106]/\
 tp 50 [vA [vL a32 n32 k32,vI i103,vI i104,vI i105,vI i106],vS [59]] h_35 fun v_31 h_36=>
 ∃ a33 n33 k33 i107 i108 i109 i110,v_31=vA [vL a33 n33 k33,vI i107,vI i108,vI i109,vI i110]/\
 (tv [vI 8,vS [],vL none 0 0,vL none 0 0,vL none 0 0,vI i7])/\
 (tv [vI 8,vS [],vL none 0 0,vL none 0 0,vL none 0 0,vI i7])/\
 Q (vT [vA [vL a33 n33 k33,vI i107,vI i108,vI i109,vI i110],vA [vI 8,vS [],vL none 0 0,vL none 0 0,vL none 0 0,vI i7]]) h_36)
 (tp 49 [vA [vL a1 n1 dxk1,vI i1,vI i2,vI i3,vI i4],vS [99,111,110,116,105,110,117,101]] h_34 fun v_32 h_37=>
 ∃ c10,v_32=vB c10/\
 br c10
 (tp 50 [vA [vL a1 n1 dxk1,vI i1,vI i2,vI i3,vI i4],vS [99,111,110,116,105,110,117,101]] h_37 fun v_33 h_38=>
 ∃ a34 n34 k34 i111 i112 i113 i114,v_33=vA [vL a34 n34 k34,vI i111,vI i112,vI i113,vI i114]/\
 tp 50 [vA [vL a34 n34 k34,vI i111,vI i112,vI i113,vI i114],vS [59]] h_38 fun v_34 h_39=>
 ∃ a35 n35 k35 i115 i116 i117 i118,v_34=vA [vL a35 n35 k35,vI i115,vI i116,vI i117,vI i118]/\
 (tv [vI 9,vS [],vL none 0 0,vL none 0 0,vL none 0 0,vI i7])/\
 (tv [vI 9,vS [],vL none 0 0,vL none 0 0,vL none 0 0,vI i7])/\
 Q (vT [vA [vL a35 n35 k35,vI i115,vI i116,vI i117,vI i118],vA [vI 9,vS [],vL none 0 0,vL none 0 0,vL none 0 0,vI i7]]) h_39)
 (tp 51 [vA [vL a1 n1 dxk1,vI i1,vI i2,vI i3,vI i4]] h_37 fun v_35 h_40=>
 ∃ a36 n36 k36 i119 i120 i121 i122 l17 i123,v_35=vT [vA [vL a36 n36 k36,vI i119,vI i120,vI i121,vI i122],vS l17,vI i123]/\
 tp 49 [vA [vL a36 n36 k36,vI i119,vI i120,vI i121,vI i122],vS [40]] h_40 fun v_36 h_41=>
 ∃ c11,v_36=vB c11/\
 br c11
 (tp 144 [vA [vL a36 n36 k36,vI i119,vI i120,vI i121,vI i122]] h_41 fun v_37 h_42=>
 ∃ a37 n37 k37 i124 i125 i126 i127 a38 n38 k38,v_37=vT [vA [vL a37 n37 k37,vI i124,vI i125,vI i126,vI i127],vL a38 n38 k38]/\
 alc h_42 [vI 5,vS [],vS l17,vI 0,vS [],vL a38 n38 k38,vI i7] 186 fun b7 h_43=>
 tp 50 [vA [vL a37 n37 k37,vI i124,vI i125,vI i126,vI i127],vS [59]] h_43 fun v_38 h_44=>
 ∃ a39 n39 k39 i128 i129 i130 i131,v_38=vA [vL a39 n39 k39,vI i128,vI i129,vI i130,vI i131]/\
 (tv [vI 4,vS [],vL (ad b7 0) 1 1,vL none 0 0,vL none 0 0,vI i7])/\
 (tv [vI 4,vS [],vL (ad b7 0) 1 1,vL none 0 0,vL none 0 0,vI i7])/\
 Q (vT [vA [vL a39 n39 k39,vI i128,vI i129,vI i130,vI i131],vA [vI 4,vS [],vL (ad b7 0) 1 1,vL none 0 0,vL none 0 0,vI i7]]) h_44)
 (tp 49 [vA [vL a36 n36 k36,vI i119,vI i120,vI i121,vI i122],vS [91]] h_41 fun v_39 h_45=>
 ∃ c12,v_39=vB c12/\
 br c12
 (tp 50 [vA [vL a36 n36 k36,vI i119,vI i120,vI i121,vI i122],vS [91]] h_45 fun v_40 h_46=>
 ∃ a40 n40 k40 i132 i133 i134 i135,v_40=vA [vL a40 n40 k40,vI i132,vI i133,vI i134,vI i135]/\
 tp 142 [vA [vL a40 n40 k40,vI i132,vI i133,vI i134,vI i135],vI 1] h_46 fun v_41 h_47=>
 ∃ a41 n41 k41 i136 i137 i138 i139 i140 l18 l19 i141 l20 a42 n42 k42 i142,v_41=vT [vA [vL a41 n41 k41,vI i136,vI i137,vI i138,vI i139],vA [vI i140,vS l18,vS l19,vI i141,vS l20,vL a42 n42 k42,vI i142]]/\
 alc h_47 [vI i140,vS l18,vS l19,vI i141,vS l20,vL a42 n42 k42,vI i142] 186 fun b8 h_48=>
 tp 50 [vA [vL a41 n41 k41,vI i136,vI i137,vI i138,vI i139],vS [93]] h_48 fun v_42 h_49=>
 ∃ a43 n43 k43 i143 i144 i145 i146,v_42=vA [vL a43 n43 k43,vI i143,vI i144,vI i145,vI i146]/\
 tp 50 [vA [vL a43 n43 k43,vI i143,vI i144,vI i145,vI i146],vS [61]] h_49 fun v_43 h_50=>
 ∃ a44 n44 k44 i147 i148 i149 i150,v_43=vA [vL a44 n44 k44,vI i147,vI i148,vI i149,vI i150]/\
 tp 142 [vA [vL a44 n44 k44,vI i147,vI i148,vI i149,vI i150],vI 1] h_50 fun v_44 h_51=>
 ∃ a45 n45 k45 i151 i152 i153 i154 i155 l21 l22 i156 l23 a46 n46 k46 i157,v_44=vT [vA [vL a45 n45 k45,vI i151,vI i152,vI i153,vI i154],vA [vI i155,vS l21,vS l22,vI i156,vS l23,vL a46 n46 k46,vI i157]]/\
 alc h_51 [vI i155,vS l21,vS l22,vI i156,vS l23,vL a46 n46 k46,vI i157] 186 fun b9 h_52=>
 rq [(78,vL (ad b8 0) 1 1),(80,vL (ad b9 0) 1 1)] o96_30 172 h_52 fun v_45 h_53=>
 ∃ a47 n47 k47,v_45=vL a47 n47 k47/\
 tp 50 [vA [vL a45 n45 k45,vI i151,vI i152,vI i153,vI i154],vS [59]] h_53 fun v_46 h_54=>
 ∃ a48 n48 k48 i158 i159 i160 i161,v_46=vA [vL a48 n48 k48,vI i158,vI i159,vI i160,vI i161]/\
 (tv [vI 3,vS l17,vL a47 n47 k47,vL none 0 0,vL none 0 0,vI i7])/\
 (tv [vI 3,vS l17,vL a47 n47 k47,vL none 0 0,vL none 0 0,vI i7])/\
 Q (vT [vA [vL a48 n48 k48,vI i158,vI i159,vI i160,vI i161],vA [vI 3,vS l17,vL a47 n47 k47,vL none 0 0,vL none 0 0,vI i7]]) h_54)
 (tp 50 [vA [vL a36 n36 k36,vI i119,vI i120,vI i121,vI i122],vS [61]] h_45 fun v_47 h_55=>
 ∃ a49 n49 k49 i162 i163 i164 i165,v_47=vA [vL a49 n49 k49,vI i162,vI i163,vI i164,vI i165]/\
 tp 142 [vA [vL a49 n49 k49,vI i162,vI i163,vI i164,vI i165],vI 1] h_55 fun v_48 h_56=>
 ∃ a50 n50 k50 i166 i167 i168 i169 i170 l24 l25 i171 l26 a51 n51 k51 i172,v_48=vT [vA [vL a50 n50 k50,vI i166,vI i167,vI i168,vI i169],vA [vI i170,vS l24,vS l25,vI i171,vS l26,vL a51 n51 k51,vI i172]]/\
 alc h_56 [vI i170,vS l24,vS l25,vI i171,vS l26,vL a51 n51 k51,vI i172] 186 fun b10 h_57=>
 tp 50 [vA [vL a50 n50 k50,vI i166,vI i167,vI i168,vI i169],vS [59]] h_57 fun v_49 h_58=>
 ∃ a52 n52 k52 i173 i174 i175 i176,v_49=vA [vL a52 n52 k52,vI i173,vI i174,vI i175,vI i176]/\
 (tv [vI 2,vS l17,vL (ad b10 0) 1 1,vL none 0 0,vL none 0 0,vI i7])/\
 (tv [vI 2,vS l17,vL (ad b10 0) 1 1,vL none 0 0,vL none 0 0,vI i7])/\
 Q (vT [vA [vL a52 n52 k52,vI i173,vI i174,vI i175,vI i176],vA [vI 2,vS l17,vL (ad b10 0) 1 1,vL none 0 0,vL none 0 0,vI i7]]) h_58))))))))
theorem T96 {a1 n1 dxk1 i1 i2 i3 i4 h Q} (hR:R96 a1 n1 dxk1 i1 i2 i3 i4 h Q):Tri Tryz.prog 96 [vA [vL a1 n1 dxk1,vI i1,vI i2,vI i3,vI i4]] h Q:=
 tri_of_dn mixed Tryz.func96 rfl (by kernel_rfl) low96 (rs:=[.cell 2 true 5, .cell 3 true 6]) (by kernel_rfl) rfl (Eq.mpr (by kernel_rfl) hR)
def d142:DCode:=up ⟨[(11, .l dxk1),(12, .c (.tup [(true,dxk1),(true,dxk6)])),(16, .l dxk1),(19, .c (.tup [(true,dxk1),(true,dxk6)])),(23, .l [qi]),(27, .l [.slice]),(29, .l [qi]),(32, .l [qi]),(37, .l [.slice]),(39, .l [qi]),(42, .l [.str]),(43, .c (.one false [qi])),(48, .l [.slice]),(50, .l [qi]),(52, .l dxk4),(54, .l [qi]),(58, .l dxk1),(61, .c (.tup [(true,dxk1),(true,dxk6)])),(65, .l [.str]),(66, .l dxk6),(67, .l dxk6),(70, .l [qi]),(72, .l dxk1),(73, .l dxk6)],[],[(22,52,[],[(2,dxk1),(6,dxk6)])]⟩ (lw nf Tryz.f142)
theorem low142:lw nf Tryz.f142=some (eC d142):=by kernel_rfl
def R142 (a1:OA) (n1 dxk1:Nat) (i1 i2 i3 i4 i5:Int) (h:PHeap) (Q:Value->PHeap->Prop):Prop:=
 br (decide (i5 > 10))
 (tp 174 [vA [vL a1 n1 dxk1,vI i1,vI i2,vI i3,vI i4]] h fun v_1 h_1=>
 ∃ a2 n2 dxk2 i6 i7 i8 i9 i10 l1 l2 i11 l3 a3 n3 dxk3 i12,v_1=vT [vA [vL a2 n2 dxk2,vI i6,vI i7,vI i8,vI i9],vA [vI i10,vS l1,vS l2,vI i11,vS l3,vL a3 n3 dxk3,vI i12]]/\
 Q (vT [vA [vL a2 n2 dxk2,vI i6,vI i7,vI i8,vI i9],vA [vI i10,vS l1,vS l2,vI i11,vS l3,vL a3 n3 dxk3,vI i12]]) h_1)
 (tp 142 [vA [vL a1 n1 dxk1,vI i1,vI i2,vI i3,vI i4],vI (IntKind.i64.wrap (i5+1))] h fun v_2 h_2=>
 ∃ a4 n4 dxk4 i13 i14 i15 i16 i17 l4 l5 i18 l6 a5 n5 dxk5 i19,v_2=vT [vA [vL a4 n4 dxk4,vI i13,vI i14,vI i15,vI i16],vA [vI i17,vS l4,vS l5,vI i18,vS l6,vL a5 n5 dxk5,vI i19]]/\
 ∃ (I_1:Nat->OA->Nat->Nat->Int->Int->Int->Int->Int->Bs->Bs->Int->Bs->OA->Nat->Nat->Int->PHeap->Prop),(∃ m2,I_1 m2 a4 n4 dxk4 i13 i14 i15 i16 i17 l4 l5 i18 l6 a5 n5 dxk5 i19 h_2)/\
 ∀ m1 a6 n6 dxk6 i20 i21 i22 i23 i24 l7 l8 i25 l9 a7 n7 k7 i26 h_3,I_1 m1 a6 n6 dxk6 i20 i21 i22 i23 i24 l7 l8 i25 l9 a7 n7 k7 i26 h_3->
 br (i22 == 0)
 (slt a6 i20 n6 fun b1 o1=>
 ∃ i27,h_3.cell b1 (o1+(i20).toNat * 5)=some (vI i27)/\
 br (i27 == 5)
 (slt a6 i20 n6 fun b2 o2=>
 ∃ l10,h_3.cell b2 ((o2+(i20).toNat * 5)+1)=some (vS l10)/\
 tp 27 [vS l10] h_3 fun v_3 h_4=>
 ∃ i28,v_3=vI i28/\
 br (i28 == i5)
 (slt a6 i20 n6 fun b3 o3=>
 ∃ i29 l11 i30 l12 i31,h_4.row b3 (o3+(i20).toNat * 5) [vI i29,vS l11,vI i30,vS l12,vI i31]/\
 tp 142 [vA [vL a6 n6 dxk6,vI (IntKind.i64.wrap (i20+1)),vI i21,vI i22,vI i23],vI (IntKind.i64.wrap (i5+1))] h_4 fun v_4 h_5=>
 ∃ a8 n8 k8 i32 i33 i34 i35 i36 l13 l14 i37 l15 a9 n9 k9 i38,v_4=vT [vA [vL a8 n8 k8,vI i32,vI i33,vI i34,vI i35],vA [vI i36,vS l13,vS l14,vI i37,vS l15,vL a9 n9 k9,vI i38]]/\
 alc h_5 [vI i24,vS l7,vS l8,vI i25,vS l9,vL a7 n7 k7,vI i26,vI i36,vS l13,vS l14,vI i37,vS l15,vL a9 n9 k9,vI i38] 186 fun b4 h_6=>
 ∃ m3,m3 < m1/\I_1 m3 a8 n8 k8 i32 i33 i34 i35 (7:Int) l11 [] (0:Int) [] (ad b4 0) 2 2 i31 h_6/\
 tv [vI 0,vS [],vS [],vI 0,vS [],vL none 0 0,vI 0]/\tv [vL none 0 0,vI 0,vI 0,vI 0,vI 0]/\True)
 ((tv [vI i24,vS l7,vS l8,vI i25,vS l9,vL a7 n7 k7,vI i26])/\
 Q (vT [vA [vL a6 n6 dxk6,vI i20,vI i21,vI i22,vI i23],vA [vI i24,vS l7,vS l8,vI i25,vS l9,vL a7 n7 k7,vI i26]]) h_4))
 ((tv [vI i24,vS l7,vS l8,vI i25,vS l9,vL a7 n7 k7,vI i26])/\
 Q (vT [vA [vL a6 n6 dxk6,vI i20,vI i21,vI i22,vI i23],vA [vI i24,vS l7,vS l8,vI i25,vS l9,vL a7 n7 k7,vI i26]]) h_3))
 ((tv [vI i24,vS l7,vS l8,vI i25,vS l9,vL a7 n7 k7,vI i26])/\
 Q (vT [vA [vL a6 n6 dxk6,vI i20,vI i21,vI i22,vI i23],vA [vI i24,vS l7,vS l8,vI i25,vS l9,vL a7 n7 k7,vI i26]]) h_3))
theorem T142 {a1 n1 dxk1 i1 i2 i3 i4 i5 h Q} (hR:R142 a1 n1 dxk1 i1 i2 i3 i4 i5 h Q):Tri Tryz.prog 142 [vA [vL a1 n1 dxk1,vI i1,vI i2,vI i3,vI i4],vI i5] h Q:=
 tri_of_dn mixed Tryz.func142 rfl (by kernel_rfl) low142 (rs:=[.cell 4 true 5, .cell 5 true 7]) (by kernel_rfl) rfl (Eq.mpr (by kernel_rfl) hR)
def d143:DCode:=up ⟨[(5, .l dxk1),(6, .c (.one true dxk1)),(8, .l dxk1),(9, .c (.tup [(true,dxk1),(true,dxk6)])),(12, .l dxk1),(13, .c (.one true dxk1)),(14, .l dxk6)],[],[]⟩ (lw nf Tryz.f143)
theorem low143:lw nf Tryz.f143=some (eC d143):=by kernel_rfl
def R143 (a1:OA) (n1 dxk1:Nat) (i1 i2 i3 i4:Int) (h:PHeap) (Q:Value->PHeap->Prop):Prop:=
 tp 50 [vA [vL a1 n1 dxk1,vI i1,vI i2,vI i3,vI i4],vS [40]] h fun v_1 h_1=>
 ∃ a2 n2 dxk2 i5 i6 i7 i8,v_1=vA [vL a2 n2 dxk2,vI i5,vI i6,vI i7,vI i8]/\
 tp 142 [vA [vL a2 n2 dxk2,vI i5,vI i6,vI i7,vI i8],vI 1] h_1 fun v_2 h_2=>
 ∃ a3 n3 dxk3 i9 i10 i11 i12 i13 l1 l2 i14 l3 a4 n4 dxk4 i15,v_2=vT [vA [vL a3 n3 dxk3,vI i9,vI i10,vI i11,vI i12],vA [vI i13,vS l1,vS l2,vI i14,vS l3,vL a4 n4 dxk4,vI i15]]/\
 tp 50 [vA [vL a3 n3 dxk3,vI i9,vI i10,vI i11,vI i12],vS [41]] h_2 fun v_3 h_3=>
 ∃ a5 n5 dxk5 i16 i17 i18 i19,v_3=vA [vL a5 n5 dxk5,vI i16,vI i17,vI i18,vI i19]/\
 (tv [vI i13,vS l1,vS l2,vI i14,vS l3,vL a4 n4 dxk4,vI i15])/\
 (tv [vI i13,vS l1,vS l2,vI i14,vS l3,vL a4 n4 dxk4,vI i15])/\
 Q (vT [vA [vL a5 n5 dxk5,vI i16,vI i17,vI i18,vI i19],vA [vI i13,vS l1,vS l2,vI i14,vS l3,vL a4 n4 dxk4,vI i15]]) h_3
theorem T143 {a1 n1 dxk1 i1 i2 i3 i4 h Q} (hR:R143 a1 n1 dxk1 i1 i2 i3 i4 h Q):Tri Tryz.prog 143 [vA [vL a1 n1 dxk1,vI i1,vI i2,vI i3,vI i4]] h Q:=
 tri_of_dn mixed Tryz.func143 rfl (by kernel_rfl) low143 (rs:=[.cell 2 true 5, .cell 3 true 7]) (by kernel_rfl) rfl (Eq.mpr (by kernel_rfl) hR)
abbrev o144_4:Op:= .call { callee:=(.builtin .append),args:=#[(.tmp 21),(.tmp 23)],argTypes:=#[172,172] }
abbrev o144_7:Op:= .call { callee:=(.builtin .append),args:=#[(.tmp 34),(.tmp 36)],argTypes:=#[172,172] }
def d144:DCode:=up ⟨[(6, .l dxk1),(7, .c (.one true dxk1)),(8, .l dxk1),(9, .c (.one false [.bool])),(13, .l [qi]),(17, .l dxk1),(18, .c (.tup [(true,dxk1),(true,dxk6)])),(22, .l dxk6),(24, .c (.one false [.slice])),(25, .l dxk1),(26, .c (.one false [.bool])),(27, .l dxk1),(28, .c (.one true dxk1)),(30, .l dxk1),(31, .c (.tup [(true,dxk1),(true,dxk6)])),(35, .l dxk6),(37, .c (.one false [.slice])),(38, .l dxk1),(39, .c (.one true dxk1))],[],[(25,14,[(4, .slice)],[(1,dxk1),(5,dxk6)])]⟩ (lw nf Tryz.f144)
theorem low144:lw nf Tryz.f144=some (eC d144):=by kernel_rfl
def R144 (a1:OA) (n1 dxk1:Nat) (i1 i2 i3 i4:Int) (h:PHeap) (Q:Value->PHeap->Prop):Prop:=
 tp 50 [vA [vL a1 n1 dxk1,vI i1,vI i2,vI i3,vI i4],vS [40]] h fun v_1 h_1=>
 ∃ a2 n2 dxk2 i5 i6 i7 i8,v_1=vA [vL a2 n2 dxk2,vI i5,vI i6,vI i7,vI i8]/\
 tp 49 [vA [vL a2 n2 dxk2,vI i5,vI i6,vI i7,vI i8],vS [41]] h_1 fun v_2 h_2=>
 ∃ c1,v_2=vB c1/\
 br (!c1)
 (br (i7 == 0)
 (tp 142 [vA [vL a2 n2 dxk2,vI i5,vI i6,vI i7,vI i8],vI 1] h_2 fun v_3 h_3=>
 ∃ a3 n3 dxk3 i9 i10 i11 i12 i13 l1 l2 i14 l3 a4 n4 dxk4 i15,v_3=vT [vA [vL a3 n3 dxk3,vI i9,vI i10,vI i11,vI i12],vA [vI i13,vS l1,vS l2,vI i14,vS l3,vL a4 n4 dxk4,vI i15]]/\
 alc h_3 [vI i13,vS l1,vS l2,vI i14,vS l3,vL a4 n4 dxk4,vI i15] 186 fun b1 h_4=>
 rq [(21,vL none 0 0),(23,vL (ad b1 0) 1 1)] o144_4 172 h_4 fun v_4 h_5=>
 ∃ a5 n5 dxk5,v_4=vL a5 n5 dxk5/\
 ∃ (I_1:Nat->OA->Nat->Nat->OA->Nat->Nat->Int->Int->Int->Int->Int->Bs->Bs->Int->Bs->OA->Nat->Nat->Int->PHeap->Prop),(∃ m2,I_1 m2 a5 n5 dxk5 a3 n3 dxk3 i9 i10 i11 i12 i13 l1 l2 i14 l3 a4 n4 dxk4 i15 h_5)/\
 ∀ m1 a6 n6 dxk6 a7 n7 k7 i16 i17 i18 i19 i20 l4 l5 i21 l6 a8 n8 k8 i22 h_6,I_1 m1 a6 n6 dxk6 a7 n7 k7 i16 i17 i18 i19 i20 l4 l5 i21 l6 a8 n8 k8 i22 h_6->
 tp 49 [vA [vL a7 n7 k7,vI i16,vI i17,vI i18,vI i19],vS [44]] h_6 fun v_5 h_7=>
 ∃ c2,v_5=vB c2/\
 br c2
 (tp 50 [vA [vL a7 n7 k7,vI i16,vI i17,vI i18,vI i19],vS [44]] h_7 fun v_6 h_8=>
 ∃ a9 n9 k9 i23 i24 i25 i26,v_6=vA [vL a9 n9 k9,vI i23,vI i24,vI i25,vI i26]/\
 tp 142 [vA [vL a9 n9 k9,vI i23,vI i24,vI i25,vI i26],vI 1] h_8 fun v_7 h_9=>
 ∃ a10 n10 k10 i27 i28 i29 i30 i31 l7 l8 i32 l9 a11 n11 k11 i33,v_7=vT [vA [vL a10 n10 k10,vI i27,vI i28,vI i29,vI i30],vA [vI i31,vS l7,vS l8,vI i32,vS l9,vL a11 n11 k11,vI i33]]/\
 alc h_9 [vI i31,vS l7,vS l8,vI i32,vS l9,vL a11 n11 k11,vI i33] 186 fun b2 h_10=>
 rq [(34,vL a6 n6 dxk6),(36,vL (ad b2 0) 1 1)] o144_7 172 h_10 fun v_8 h_11=>
 ∃ a12 n12 k12,v_8=vL a12 n12 k12/\
 ∃ m3,m3 < m1/\I_1 m3 a12 n12 k12 a10 n10 k10 i27 i28 i29 i30 i31 l7 l8 i32 l9 a11 n11 k11 i33 h_11/\
 tv [vL none 0 0,vI 0,vI 0,vI 0,vI 0]/\True)
 (tp 50 [vA [vL a7 n7 k7,vI i16,vI i17,vI i18,vI i19],vS [41]] h_7 fun v_9 h_12=>
 ∃ a13 n13 k13 i34 i35 i36 i37,v_9=vA [vL a13 n13 k13,vI i34,vI i35,vI i36,vI i37]/\
 Q (vT [vA [vL a13 n13 k13,vI i34,vI i35,vI i36,vI i37],vL a6 n6 dxk6]) h_12))
 (tp 50 [vA [vL a2 n2 dxk2,vI i5,vI i6,vI i7,vI i8],vS [41]] h_2 fun v_10 h_13=>
 ∃ a14 n14 k14 i38 i39 i40 i41,v_10=vA [vL a14 n14 k14,vI i38,vI i39,vI i40,vI i41]/\
 Q (vT [vA [vL a14 n14 k14,vI i38,vI i39,vI i40,vI i41],vL none 0 0]) h_13))
 (tp 50 [vA [vL a2 n2 dxk2,vI i5,vI i6,vI i7,vI i8],vS [41]] h_2 fun v_11 h_14=>
 ∃ a15 n15 k15 i42 i43 i44 i45,v_11=vA [vL a15 n15 k15,vI i42,vI i43,vI i44,vI i45]/\
 Q (vT [vA [vL a15 n15 k15,vI i42,vI i43,vI i44,vI i45],vL none 0 0]) h_14)
theorem T144 {a1 n1 dxk1 i1 i2 i3 i4 h Q} (hR:R144 a1 n1 dxk1 i1 i2 i3 i4 h Q):Tri Tryz.prog 144 [vA [vL a1 n1 dxk1,vI i1,vI i2,vI i3,vI i4]] h Q:=
 tri_of_dn mixed Tryz.func144 rfl (by kernel_rfl) low144 (rs:=[.cell 2 true 5, .tmp 3]) (by kernel_rfl) rfl (Eq.mpr (by kernel_rfl) hR)
def d174:DCode:=up ⟨[(6, .l dxk1),(7, .c (.one false [.bool])),(9, .l dxk1),(10, .c (.one false [.bool])),(13, .l dxk1),(14, .c (.one false [.bool])),(17, .l [.slice]),(19, .l [qi]),(21, .l dxk4),(23, .l [qi]),(27, .l dxk1),(28, .c (.tup [(true,dxk1),(true,dxk6)])),(31, .l dxk1),(33, .l [.str]),(34, .l dxk6),(37, .l [qi]),(39, .l dxk1),(40, .c (.tup [(true,dxk1),(true,dxk6)]))],[],[]⟩ (lw nf Tryz.f174)
theorem low174:lw nf Tryz.f174=some (eC d174):=by kernel_rfl
abbrev K174_1 (a1:OA) (i1:Int) (n1:Nat) (h_1:PHeap) (dxk1:Nat) (i2 i3 i4:Int) (Q:Value->PHeap->Prop):Prop:=
 slt a1 i1 n1 fun b1 o1=>
 ∃ i5 l1 i6 l2 i7,h_1.row b1 (o1+(i1).toNat * 5) [vI i5,vS l1,vI i6,vS l2,vI i7]/\
 tp 174 [vA [vL a1 n1 dxk1,vI (IntKind.i64.wrap (i1+1)),vI i2,vI i3,vI i4]] h_1 fun v_2 h_2=>
 ∃ a2 n2 dxk2 i8 i9 i10 i11 i12 l3 l4 i13 l5 a3 n3 dxk3 i14,v_2=vT [vA [vL a2 n2 dxk2,vI i8,vI i9,vI i10,vI i11],vA [vI i12,vS l3,vS l4,vI i13,vS l5,vL a3 n3 dxk3,vI i14]]/\
 (alc h_2 [vI i12,vS l3,vS l4,vI i13,vS l5,vL a3 n3 dxk3,vI i14] 186 fun b2 h_3=>
 (tv [vI i7])/\
 (tv [vS l1])/\
 (tv [vL a2 n2 dxk2,vI i8,vI i9,vI i10,vI i11])/\
 (tv [vI i7])/\
 (tv [vS l1])/\
 Q (vT [vA [vL a2 n2 dxk2,vI i8,vI i9,vI i10,vI i11],vA [vI 6,vS l1,vS [],vI 0,vS [],vL (ad b2 0) 1 1,vI i7]]) h_3)/\
 ((tv [vI i7])/\
 (tv [vI i12,vS l3,vS l4,vI i13,vS l5,vL a3 n3 dxk3,vI i14])/\
 (tv [vS l1])/\
 alc h_2 [vI i12,vS l3,vS l4,vI i13,vS l5,vL a3 n3 dxk3,vI i14] 186 fun b3 h_4=>
 (tv [vI i7])/\
 (tv [vS l1])/\
 Q (vT [vA [vL a2 n2 dxk2,vI i8,vI i9,vI i10,vI i11],vA [vI 6,vS l1,vS [],vI 0,vS [],vL (ad b3 0) 1 1,vI i7]]) h_4)
def R174 (a1:OA) (n1 dxk1:Nat) (i1 i2 i3 i4:Int) (h:PHeap) (Q:Value->PHeap->Prop):Prop:=
 tp 49 [vA [vL a1 n1 dxk1,vI i1,vI i2,vI i3,vI i4],vS [45]] h fun v_1 h_1=>
 ∃ c1,v_1=vB c1/\
 br c1
 (K174_1 a1 i1 n1 h_1 dxk1 i2 i3 i4 Q)
 (tp 49 [vA [vL a1 n1 dxk1,vI i1,vI i2,vI i3,vI i4],vS [33]] h_1 fun v_3 h_5=>
 ∃ c2,v_3=vB c2/\
 br c2
 (K174_1 a1 i1 n1 h_5 dxk1 i2 i3 i4 Q)
 (tp 49 [vA [vL a1 n1 dxk1,vI i1,vI i2,vI i3,vI i4],vS [126]] h_5 fun v_5 h_9=>
 ∃ c3,v_5=vB c3/\
 br c3
 (K174_1 a1 i1 n1 h_9 dxk1 i2 i3 i4 Q)
 (tp 194 [vA [vL a1 n1 dxk1,vI i1,vI i2,vI i3,vI i4]] h_9 fun v_7 h_13=>
 ∃ a8 n8 k8 i35 i36 i37 i38 i39 l16 l17 i40 l18 a9 n9 k9 i41,v_7=vT [vA [vL a8 n8 k8,vI i35,vI i36,vI i37,vI i38],vA [vI i39,vS l16,vS l17,vI i40,vS l18,vL a9 n9 k9,vI i41]]/\
 Q (vT [vA [vL a8 n8 k8,vI i35,vI i36,vI i37,vI i38],vA [vI i39,vS l16,vS l17,vI i40,vS l18,vL a9 n9 k9,vI i41]]) h_13)))
theorem T174 {a1 n1 dxk1 i1 i2 i3 i4 h Q} (hR:R174 a1 n1 dxk1 i1 i2 i3 i4 h Q):Tri Tryz.prog 174 [vA [vL a1 n1 dxk1,vI i1,vI i2,vI i3,vI i4]] h Q:=
 tri_of_dn mixed Tryz.func174 rfl (by kernel_rfl) low174 (rs:=[.cell 2 true 5, .cell 3 true 7]) (by kernel_rfl) rfl (Eq.mpr (by kernel_rfl) hR)
def d194:DCode:=up ⟨[(11, .l [.slice]),(13, .l [qi]),(15, .l dxk4),(17, .l dxk1),(18, .c (.one false [.bool])),(20, .l [qi]),(23, .l dxk1),(25, .l [qi]),(27, .l [qi]),(30, .l dxk1),(31, .c (.one false [.bool])),(33, .l [qi]),(36, .l dxk1),(38, .l [.str]),(40, .l [qi]),(43, .l dxk1),(44, .c (.one false [.bool])),(45, .l dxk1),(46, .c (.one true dxk1)),(48, .l dxk1),(49, .c (.tup [(true,dxk1),(true,dxk6)])),(52, .l dxk1),(53, .c (.one true dxk1)),(54, .l dxk6),(56, .l dxk1),(57, .c (.tup [(true,dxk1),(false,[.str]),(false,[qi])])),(61, .l dxk1),(62, .c (.one false [.bool])),(64, .l dxk1),(65, .c (.tup [(true,dxk1),(false,[.slice])])),(68, .l dxk1),(73, .l dxk1),(74, .c (.one false [.bool])),(75, .l dxk1),(76, .c (.one true dxk1)),(78, .l dxk1),(79, .c (.tup [(true,dxk1),(true,dxk6)])),(82, .l dxk1),(83, .c (.one true dxk1)),(85, .l dxk6),(89, .l dxk1)],[],[]⟩ (lw nf Tryz.f194)
theorem low194:lw nf Tryz.f194=some (eC d194):=by kernel_rfl
def R194 (a1:OA) (n1 dxk1:Nat) (i1 i2 i3 i4:Int) (h:PHeap) (Q:Value->PHeap->Prop):Prop:=
 slt a1 i1 n1 fun b1 o1=>
 ∃ i5 l1 i6 l2 i7,h.row b1 (o1+(i1).toNat * 5) [vI i5,vS l1,vI i6,vS l2,vI i7]/\
 tp 48 [vA [vL a1 n1 dxk1,vI i1,vI i2,vI i3,vI i4],vI 2] h fun v_1 h_1=>
 ∃ c1,v_1=vB c1/\
 br c1
 ((tv [vI i7])/\
 (tv [vI i6])/\
 Q (vT [vA [vL a1 n1 dxk1,vI (IntKind.i64.wrap (i1+1)),vI i2,vI i3,vI i4],vA [vI 1,vS [],vS [],vI i6,vS [],vL none 0 0,vI i7]]) h_1)
 (tp 48 [vA [vL a1 n1 dxk1,vI i1,vI i2,vI i3,vI i4],vI 3] h_1 fun v_2 h_2=>
 ∃ c2,v_2=vB c2/\
 br c2
 ((tv [vI i7])/\
 (tv [vS l2])/\
 Q (vT [vA [vL a1 n1 dxk1,vI (IntKind.i64.wrap (i1+1)),vI i2,vI i3,vI i4],vA [vI 2,vS [],vS [],vI 0,vS l2,vL none 0 0,vI i7]]) h_2)
 (tp 49 [vA [vL a1 n1 dxk1,vI i1,vI i2,vI i3,vI i4],vS [40]] h_2 fun v_3 h_3=>
 ∃ c3,v_3=vB c3/\
 br c3
 (tp 50 [vA [vL a1 n1 dxk1,vI i1,vI i2,vI i3,vI i4],vS [40]] h_3 fun v_4 h_4=>
 ∃ a2 n2 dxk2 i8 i9 i10 i11,v_4=vA [vL a2 n2 dxk2,vI i8,vI i9,vI i10,vI i11]/\
 tp 142 [vA [vL a2 n2 dxk2,vI i8,vI i9,vI i10,vI i11],vI 1] h_4 fun v_5 h_5=>
 ∃ a3 n3 dxk3 i12 i13 i14 i15 i16 l3 l4 i17 l5 a4 n4 dxk4 i18,v_5=vT [vA [vL a3 n3 dxk3,vI i12,vI i13,vI i14,vI i15],vA [vI i16,vS l3,vS l4,vI i17,vS l5,vL a4 n4 dxk4,vI i18]]/\
 tp 50 [vA [vL a3 n3 dxk3,vI i12,vI i13,vI i14,vI i15],vS [41]] h_5 fun v_6 h_6=>
 ∃ a5 n5 dxk5 i19 i20 i21 i22,v_6=vA [vL a5 n5 dxk5,vI i19,vI i20,vI i21,vI i22]/\
 (tv [vI i16,vS l3,vS l4,vI i17,vS l5,vL a4 n4 dxk4,vI i18])/\
 (tv [vI i16,vS l3,vS l4,vI i17,vS l5,vL a4 n4 dxk4,vI i18])/\
 Q (vT [vA [vL a5 n5 dxk5,vI i19,vI i20,vI i21,vI i22],vA [vI i16,vS l3,vS l4,vI i17,vS l5,vL a4 n4 dxk4,vI i18]]) h_6)
 (tp 51 [vA [vL a1 n1 dxk1,vI i1,vI i2,vI i3,vI i4]] h_3 fun v_7 h_7=>
 ∃ a6 n6 dxk6 i23 i24 i25 i26 l6 i27,v_7=vT [vA [vL a6 n6 dxk6,vI i23,vI i24,vI i25,vI i26],vS l6,vI i27]/\
 tp 49 [vA [vL a6 n6 dxk6,vI i23,vI i24,vI i25,vI i26],vS [40]] h_7 fun v_8 h_8=>
 ∃ c4,v_8=vB c4/\
 br c4
 (tp 144 [vA [vL a6 n6 dxk6,vI i23,vI i24,vI i25,vI i26]] h_8 fun v_9 h_9=>
 ∃ a7 n7 k7 i28 i29 i30 i31 a8 n8 k8,v_9=vT [vA [vL a7 n7 k7,vI i28,vI i29,vI i30,vI i31],vL a8 n8 k8]/\
 Q (vT [vA [vL a7 n7 k7,vI i28,vI i29,vI i30,vI i31],vA [vI 5,vS [],vS l6,vI 0,vS [],vL a8 n8 k8,vI i27]]) h_9)
 (tp 49 [vA [vL a6 n6 dxk6,vI i23,vI i24,vI i25,vI i26],vS [91]] h_8 fun v_10 h_10=>
 ∃ c5,v_10=vB c5/\
 br c5
 (tp 50 [vA [vL a6 n6 dxk6,vI i23,vI i24,vI i25,vI i26],vS [91]] h_10 fun v_11 h_11=>
 ∃ a9 n9 k9 i32 i33 i34 i35,v_11=vA [vL a9 n9 k9,vI i32,vI i33,vI i34,vI i35]/\
 tp 142 [vA [vL a9 n9 k9,vI i32,vI i33,vI i34,vI i35],vI 1] h_11 fun v_12 h_12=>
 ∃ a10 n10 k10 i36 i37 i38 i39 i40 l7 l8 i41 l9 a11 n11 k11 i42,v_12=vT [vA [vL a10 n10 k10,vI i36,vI i37,vI i38,vI i39],vA [vI i40,vS l7,vS l8,vI i41,vS l9,vL a11 n11 k11,vI i42]]/\
 (tp 50 [vA [vL a10 n10 k10,vI i36,vI i37,vI i38,vI i39],vS [93]] h_12 fun v_13 h_13=>
 ∃ a12 n12 k12 i43 i44 i45 i46,v_13=vA [vL a12 n12 k12,vI i43,vI i44,vI i45,vI i46]/\
 (tv [vI i40,vS l7,vS l8,vI i41,vS l9,vL a11 n11 k11,vI i42])/\
 (alc h_13 [vI i40,vS l7,vS l8,vI i41,vS l9,vL a11 n11 k11,vI i42] 186 fun b2 h_14=>
 Q (vT [vA [vL a12 n12 k12,vI i43,vI i44,vI i45,vI i46],vA [vI 4,vS [],vS l6,vI 0,vS [],vL (ad b2 0) 1 1,vI i27]]) h_14)/\
 ((tv [vI i40,vS l7,vS l8,vI i41,vS l9,vL a11 n11 k11,vI i42])/\
 alc h_13 [vI i40,vS l7,vS l8,vI i41,vS l9,vL a11 n11 k11,vI i42] 186 fun b3 h_15=>
 Q (vT [vA [vL a12 n12 k12,vI i43,vI i44,vI i45,vI i46],vA [vI 4,vS [],vS l6,vI 0,vS [],vL (ad b3 0) 1 1,vI i27]]) h_15))/\
 (alc h_12 [vI i40,vS l7,vS l8,vI i41,vS l9,vL a11 n11 k11,vI i42] 186 fun b4 h_16=>
 (tv [vL a10 n10 k10,vI i36,vI i37,vI i38,vI i39])/\
 tp 50 [vA [vL a10 n10 k10,vI i36,vI i37,vI i38,vI i39],vS [93]] h_16 fun v_14 h_17=>
 ∃ a13 n13 k13 i47 i48 i49 i50,v_14=vA [vL a13 n13 k13,vI i47,vI i48,vI i49,vI i50]/\
 Q (vT [vA [vL a13 n13 k13,vI i47,vI i48,vI i49,vI i50],vA [vI 4,vS [],vS l6,vI 0,vS [],vL (ad b4 0) 1 1,vI i27]]) h_17))
 (Q (vT [vA [vL a6 n6 dxk6,vI i23,vI i24,vI i25,vI i26],vA [vI 3,vS [],vS l6,vI 0,vS [],vL none 0 0,vI i27]]) h_10)))))
theorem T194 {a1 n1 dxk1 i1 i2 i3 i4 h Q} (hR:R194 a1 n1 dxk1 i1 i2 i3 i4 h Q):Tri Tryz.prog 194 [vA [vL a1 n1 dxk1,vI i1,vI i2,vI i3,vI i4]] h Q:=
 tri_of_dn mixed Tryz.func194 rfl (by kernel_rfl) low194 (rs:=[.cell 2 true 5, .cell 3 true 7]) (by kernel_rfl) rfl (Eq.mpr (by kernel_rfl) hR)
end
end Go.Proofs.D
namespace Go.Proofs.D
open Go Go.Den Go.Sx
set_option maxRecDepth 100000
attribute [local irreducible] IntKind.wrap Tri marks words
def levT:List (List Bytes):=[[[124,124]],[[38,38]],[[124]],[[94]],[[38]],[[61,61],[33,61]],[[60],[60,61],[62],[62,61]],[[60,60],[62,62]],[[43],[45]],[[42],[47],[37]]]
theorem levT_ok:∀ (i:Fin 10) (j:Fin (levT[i.1]'i.2).length),levelS ((levT[i.1]'i.2)[j.1]'j.2)=i.1+1:=by decide
theorem levT_at {n k:Nat} {row:List Bytes} {l:Bytes} (h1:levT[n]? =some row) (h2:row[k]? =some l):levelS l=n+1:=by
 obtain ⟨hn,e1⟩:=List.getElem?_eq_some_iff.1 h1
 subst e1
 obtain ⟨hk,e2⟩:=List.getElem?_eq_some_iff.1 h2
 subst e2
 exact levT_ok ⟨n,hn⟩ ⟨k,hk⟩
theorem levT_none {op:Bytes} (h:∀ n,n < 10->∀ row,levT[n]? =some row->op ∉ row):levelS op=0:=by
 have e:∀ n row l,n < 10->levT[n]? =some row->l∈row->(op == l)=false:=fun n row l hn hr hl=>by
  cases hh:op == l with
  | false=>rfl
  | true=>
    have:op=l:=by simpa using hh
    exact absurd (this ▸ hl) (h n hn row hr)
 have e0:=e 0 _ [124,124] (by decide) rfl (by decide)
 have e1:=e 1 _ [38,38] (by decide) rfl (by decide)
 have e2:=e 2 _ [124] (by decide) rfl (by decide)
 have e3:=e 3 _ [94] (by decide) rfl (by decide)
 have e4:=e 4 _ [38] (by decide) rfl (by decide)
 have e5:=e 5 _ [61,61] (by decide) rfl (by decide)
 have e6:=e 5 _ [33,61] (by decide) rfl (by decide)
 have e7:=e 6 _ [60] (by decide) rfl (by decide)
 have e8:=e 6 _ [60,61] (by decide) rfl (by decide)
 have e9:=e 6 _ [62] (by decide) rfl (by decide)
 have ea:=e 6 _ [62,61] (by decide) rfl (by decide)
 have eb:=e 7 _ [60,60] (by decide) rfl (by decide)
 have ec:=e 7 _ [62,62] (by decide) rfl (by decide)
 have ed:=e 8 _ [43] (by decide) rfl (by decide)
 have ee:=e 8 _ [45] (by decide) rfl (by decide)
 have ef:=e 9 _ [42] (by decide) rfl (by decide)
 have eg:=e 9 _ [47] (by decide) rfl (by decide)
 have eh:=e 9 _ [37] (by decide) rfl (by decide)
 simp only [levelS,e0,e1,e2,e3,e4,e5,e6,e7,e8,e9,ea,eb,ec,ed,ee,ef,eg,eh];rfl
def StrB (h:PHeap) (b:Nat) (L:List Bytes):Prop:=∀ (k:Nat) (l:Bytes),L[k]? =some l->h.cell b k=some (vS l)
theorem StrB.put {h h1:PHeap} {b:Nat} {L:List Bytes} {t:TypeId} (hh:h1=h.put b (.cells ⟨L.map fun l=>vS l⟩ t)):StrB h1 b L:=fun k l hk=>by
 rw [cell_of (Put.at hh),List.getElem?_map,hk];rfl
theorem StrB.ext {h h':PHeap} {b:Nat} {L:List Bytes} (x:Ext h h') (hs:StrB h b L):StrB h' b L:=fun k l hk=>cell_ext (fun ob=>x b ob) (hs k l hk)
theorem level_r (op:Bytes) (h:PHeap):Tri Tryz.prog 27 [vS op] h fun v h'=>v=vI (levelS op)/\Ext h h':=by
 refine T27 ?_
 unfold R27
 intro b1 hb1 h1 hh1 b2 hb2 h2 hh2 b3 hb3 h3 hh3 b4 hb4 h4 hh4 b5 hb5 h5 hh5 b6 hb6 h6 hh6 b7 hb7 h7 hh7 b8 hb8 h8 hh8 b9 hb9 h9 hh9 b10 hb10 h10 hh10 b11 hb11 h11 hh11
 have x11:=Put.ext hh11 hb11
 have x10:=(Put.ext hh10 hb10).trans x11
 have x9:=(Put.ext hh9 hb9).trans x10
 have x8:=(Put.ext hh8 hb8).trans x9
 have x7:=(Put.ext hh7 hb7).trans x8
 have x6:=(Put.ext hh6 hb6).trans x7
 have x5:=(Put.ext hh5 hb5).trans x6
 have x4:=(Put.ext hh4 hb4).trans x5
 have x3:=(Put.ext hh3 hb3).trans x4
 have x2:=(Put.ext hh2 hb2).trans x3
 have x1:=(Put.ext hh1 hb1).trans x2
 have hrow:∀ n,n < 10->∃ b row,levT[n]? =some row/\h11.cell b11 n=some (vL (ad b 0) row.length row.length)/\row.length<=4/\StrB h11 b row:=by
  intro n hn
  have hc:∀ o,h11.cell b11 o=_:=fun o=>cell_of (Put.at hh11) o
  have hcase:n=0∨n=1∨n=2∨n=3∨n=4∨n=5∨n=6∨n=7∨n=8∨n=9:=by omega
  rcases hcase with rfl | rfl | rfl | rfl | rfl | rfl | rfl | rfl | rfl | rfl
  . exact ⟨b1,_,rfl,hc 0,by decide,(StrB.put (t:=9) hh1).ext x2⟩
  . exact ⟨b2,_,rfl,hc 1,by decide,(StrB.put (t:=9) hh2).ext x3⟩
  . exact ⟨b3,_,rfl,hc 2,by decide,(StrB.put (t:=9) hh3).ext x4⟩
  . exact ⟨b4,_,rfl,hc 3,by decide,(StrB.put (t:=9) hh4).ext x5⟩
  . exact ⟨b5,_,rfl,hc 4,by decide,(StrB.put (t:=9) hh5).ext x6⟩
  . exact ⟨b6,_,rfl,hc 5,by decide,(StrB.put (t:=9) hh6).ext x7⟩
  . exact ⟨b7,_,rfl,hc 6,by decide,(StrB.put (t:=9) hh7).ext x8⟩
  . exact ⟨b8,_,rfl,hc 7,by decide,(StrB.put (t:=9) hh8).ext x9⟩
  . exact ⟨b9,_,rfl,hc 8,by decide,(StrB.put (t:=9) hh9).ext x10⟩
  . exact ⟨b10,_,rfl,hc 9,by decide,(StrB.put (t:=9) hh10).ext x11⟩
 clear hh1 hh2 hh3 hh4 hh5 hh6 hh7 hh8 hh9 hh10 hh11
 refine ⟨fun m i h'=>h'=h11/\∃ n:Nat,i=n/\n+m=10/\∀ j,j < n->∀ row,levT[j]? =some row->op ∉ row,⟨10,rfl,0,rfl,rfl,fun j hj=>by omega⟩,?_⟩
 rintro m _ h11 ⟨rfl,n,rfl,hnm,hno⟩
 refine br_split (fun e=>?_) (fun e=>?_)
 . have hn:n < 10:=by
    have:=of_decide_eq_true e
    omega
   obtain ⟨b,row,hr,hc,hr4,hs⟩:=hrow n hn
   have hc':h11.cell b11 (0+((n:Int)).toNat * 1)=some (vL (ad b 0) row.length row.length):=by simpa using hc
   refine ⟨fun m' k h'=>h'=h11/\∃ q:Nat,k=q/\q+m'=row.length/\∀ j,j < q->row[j]? ≠some op,⟨row.length,rfl,0,rfl,by omega,fun j hj=>by omega⟩,?_⟩
   rintro m' _ h11 ⟨rfl,q,rfl,hqm,hnq⟩
   refine ⟨b11,0,rfl,⟨by omega,by omega⟩,_,_,_,hc',br_split (fun e2=>?_) (fun e2=>?_)⟩
   . have hq:q < row.length:=by
      have:=of_decide_eq_true e2
      omega
     have hg:row[q]? =some row[q]:=List.getElem?_eq_getElem hq
     have hcq:h11.cell b (0+((q:Int)).toNat * 1)=some (vS row[q]):=by simpa using hs q _ hg
     refine ⟨b11,0,rfl,⟨by omega,by omega⟩,_,_,_,hc',b,0,rfl,⟨by omega,by omega⟩,_,hcq,br_split (fun e3=>?_) (fun e3=>?_)⟩
     . have e3:row[q]=op:=by simpa using e3
       refine ⟨?_,x1⟩
       rw [e3] at hg
       rw [levT_at hr hg,wrap64 (by omega) (by omega)];rfl
     . have e3:row[q]≠op:=by simpa using e3
       refine ⟨m' - 1,by omega,⟨rfl,q+1,?_,by omega,fun j hj=>?_⟩,trivial⟩
       . rw [wrap64 (by omega) (by omega)];rfl
       . by_cases hh:j=q
         . subst hh;rw [hg];simpa using e3
         . exact hnq j (by omega)
   . have hq:q=row.length:=by
      have:=of_decide_eq_false e2
      omega
     refine ⟨m - 1,by omega,⟨rfl,n+1,?_,by omega,fun j hj row' hr'=>?_⟩,trivial⟩
     . rw [wrap64 (by omega) (by omega)];rfl
     . by_cases hh:j=n
       . subst hh
         rw [hr] at hr';injection hr' with hr';subst hr'
         intro hm
         obtain ⟨i,hi,hie⟩:=List.getElem_of_mem hm
         exact hnq i (by omega) (by rw [List.getElem?_eq_getElem hi,hie])
       . exact hno j (by omega) row' hr'
 . have hn:n=10:=by
    have:=of_decide_eq_false e
    omega
   refine ⟨?_,x1⟩
   rw [levT_none fun j hj=>hno j (by omega)];rfl
structure XC where
 ta:Option Addr
 tn:Nat
 tc:Nat
 i:Int
 op:Int
 err:Int
 bad:Int
def XC.l (x:XC):List Value:=[vL x.ta x.tn x.tc,vI x.i,vI x.op,vI x.err,vI x.bad]
structure QK where
 tb:Nat
 tc:Nat
 all:List Tok
structure QK.In (K:QK) (h:PHeap):Prop where
 rows:At 5 RT h (ad K.tb 0) K.all
 len:K.all.length<=100000
theorem QK.In.ext {K:QK} {h h':PHeap} (hI:K.In h) (x:Ext h h'):K.In h':=⟨hI.rows.ext RT_mono x,hI.len⟩
def XS {α:Type} (K:QK) (x:XC) (r:R α):Prop:=
 (x.ta=ad K.tb 0/\x.tn=K.all.length/\x.tc=K.tc)/\∃ j:Nat,x.i=j/\j < K.all.length/\match r with
  | .error e=>e.1≠0/\x.err=e.1/\∃ (b:Nat) (t:Tok),x.bad=b/\K.all[b]? =some t/\t.pos=e.2
  | .ok (_,ts,d)=>x.err=0/\ts=K.all.drop j/\Ended ts/\x.op=d/\((ts.length:Int) - 1000000<=d/\d<=32)
def XX {α:Type} (K:QK) (x:XC) (r:R α) (rel:α->Prop):Prop:=XS K x r/\∀ y ts d,r= .ok (y,ts,d)->rel y
section
variable {α β γ : Type} {K : QK} {x x' : XC} {r : R α} {h : PHeap}
theorem XS.unit {y:α} {z:β} {ts:List Tok} {d:Int} (hx:XS K x (.ok (y,ts,d):R α)):XS K x (.ok (z,ts,d):R β):=hx
theorem XS.tok (hx:XS K x r) (hI:K.In h):∃ t:Tok,x.ta=some ⟨K.tb,0,none⟩/\(0<=x.i/\x.i < (x.tn:Int))/\h.row K.tb (0+x.i.toNat * 5) (tokR t)/\∀ y ts d,r= .ok (y,ts,d)->t=hd ts:=by
 obtain ⟨⟨h1,h2,h3⟩,j,hj,hlt,hst⟩:=hx
 rcases hI.rows with hn | ⟨b,o,ha,hrow⟩
 . rw [hn] at hlt;simp at hlt
 . injection ha with ha;injection ha with ha hb
   subst ha;subst hb
   obtain ⟨cs,hr,hc⟩:=hrow j K.all[j] (List.getElem?_eq_getElem hlt)
   refine ⟨K.all[j],h1,⟨by omega,by omega⟩,?_,fun y ts d he=>?_⟩
   . rw [hj,Int.toNat_natCast,←hc];exact hr
   . subst he
     obtain ⟨_,hts,_⟩:=hst
     rw [hts,hd,List.headD_eq_head?_getD,List.head?_drop,List.getElem?_eq_getElem hlt];rfl
theorem XS.err0 (hx:XS K x r):(x.err == 0)=okR r:=by
 obtain ⟨_,j,_,_,hst⟩:=hx
 match r,hst with
 | .error e,hst=>rw [hst.2.1];exact err_ne hst.1
 | .ok (y,ts,d),hst=>rw [hst.1];rfl
theorem XS.adv {y:α} {z:β} {ts:List Tok} {d d':Int} (hx:XS K x (.ok (y,ts,d):R α)) (hI:K.In h) (hk:(hd ts).kind≠0) (h1:(ts.length:Int) - 1 - 1000000<=d') (h2:d'<=32):
 XS K ⟨x.ta,x.tn,x.tc,IntKind.i64.wrap (x.i+1),d',x.err,x.bad⟩ (.ok (z,ts.tail,d'):R β):=by
 obtain ⟨g,j,hj,hlt,e1,e2,e3,e4,e5⟩:=hx
 have hlen:=hI.len
 obtain ⟨t1,t2,t3⟩:=e3.tail hk
 have hl:ts.length=K.all.length - j:=by rw [e2,List.length_drop]
 refine ⟨g,j+1,?_,by omega,e1,?_,t1,rfl,?_,h2⟩
 . rw [hj,wrap64 (by omega) (by omega)];rfl
 . rw [e2,List.tail_drop]
 . rw [List.length_tail];omega
theorem XS.low {y:α} {ts:List Tok} {d:Int} (hx:XS K x (.ok (y,ts,d):R α)) (hk:(hd ts).kind≠0):(ts.length:Int) - 1 - 1000000<=d - 1/\d<=32/\x.op=d/\x.err=0/\0 < (ts.length:Int)/\(ts.length:Int) - 1000000<=d:=by
 obtain ⟨g,j,hj,hlt,e1,e2,e3,e4,e5⟩:=hx
 have:=len_pos e3
 omega
theorem kind_r (hx:XS K x r) (hI:K.In h) (k:Nat):Tri Tryz.prog 48 [vA x.l,vI k] h fun v h'=>v=vB (isKr r k)/\h'=h:=by
 refine T48 ?_
 unfold R48
 obtain ⟨t,ht1,ht2,ht3,ht4⟩:=hx.tok hI
 have he:=hx.err0
 refine br_split (fun e=>?_) (fun e=>?_)
 . obtain ⟨y,ts,d,rfl⟩:=okR_true (he.symm.trans e)
   have:=ht4 _ _ _ rfl
   subst this
   refine ⟨K.tb,0,ht1,ht2,_,ht3.1,?_,rfl⟩
   rw [kind_beq];rfl
 . obtain ⟨y,rfl⟩:=okR_false (he.symm.trans e)
   exact ⟨rfl,rfl⟩
theorem isw_r (hx:XS K x r) (hI:K.In h) (t:Bytes):Tri Tryz.prog 49 [vA x.l,vS t] h fun v h'=>v=vB (isTr r t)/\h'=h:=by
 refine T49 ?_
 unfold R49
 obtain ⟨tk,ht1,ht2,ht3,ht4⟩:=hx.tok hI
 have he:=hx.err0
 refine ⟨K.tb,0,ht1,ht2,_,_,_,_,_,ht3,br_split (fun e=>?_) (fun e=>?_)⟩
 . obtain ⟨y,ts,d,rfl⟩:=okR_true (he.symm.trans e)
   have:=ht4 _ _ _ rfl
   subst this
   have c5:((((hd ts).kind:Nat):Int) == 5)=((hd ts).kind == 5):=kind_beq _ 5
   have c4:((((hd ts).kind:Nat):Int) == 4)=((hd ts).kind == 4):=kind_beq _ 4
   refine br_split (fun e1=>?_) (fun e1=>br_split (fun e2=>?_) (fun e2=>?_))
   . rw [c5] at e1
     refine ⟨?_,rfl⟩
     simp [isTr,isT,e1]
   . rw [c5] at e1;rw [c4] at e2
     refine ⟨?_,rfl⟩
     simp [isTr,isT,e1,e2]
   . rw [c5] at e1;rw [c4] at e2
     refine ⟨?_,rfl⟩
     simp [isTr,isT,e1,e2]
 . obtain ⟨y,rfl⟩:=okR_false (he.symm.trans e)
   exact ⟨rfl,rfl⟩
theorem failw_r (hx:XS K x r) (hI:K.In h) (e:Nat) (h0:e≠0):Tri Tryz.prog 95 [vA x.l,vI e] h fun v h'=>h'=h/\∃ x':XC,v=vA x'.l/\XS K x' (failR r e:R β):=by
 refine T95 ?_
 unfold R95
 have he:=hx.err0
 refine br_split (fun e1=>?_) (fun e1=>?_)
 . obtain ⟨y,ts,d,rfl⟩:=okR_true (he.symm.trans e1)
   obtain ⟨g,j,hj,hlt,g1,g2,g3,g4,g5⟩:=hx
   refine ⟨rfl,⟨x.ta,x.tn,x.tc,x.i,x.op,e,x.i⟩,rfl,g,j,hj,hlt,h0,rfl,j,K.all[j],hj,List.getElem?_eq_getElem hlt,?_⟩
   rw [g2,hd,List.headD_eq_head?_getD,List.head?_drop,List.getElem?_eq_getElem hlt];rfl
 . obtain ⟨y,rfl⟩:=okR_false (he.symm.trans e1)
   exact ⟨rfl,x,rfl,hx⟩
theorem takew_r (hx:XS K x r) (hI:K.In h) (t:Bytes):Tri Tryz.prog 50 [vA x.l,vS t] h fun v h'=>h'=h/\∃ x':XC,v=vA x'.l/\XS K x' (bindR r fun _ ts d=>takeT t ts d):=by
 refine T50 ?_
 unfold R50
 refine Tri.mono (isw_r hx hI t) ?_
 rintro _ h ⟨rfl,rfl⟩
 refine ⟨_,rfl,br_split (fun e=>?_) (fun e=>?_)⟩
 . refine Tri.mono (failw_r (β:=Unit) hx hI 30 (by decide)) ?_
   rintro _ h ⟨rfl,x',rfl,hx'⟩
   refine ⟨_,_,_,_,_,_,_,rfl,rfl,x',rfl,?_⟩
   match r,e,hx' with
   | .error e',e,hx'=>exact hx'
   | .ok (y,ts,d),e,hx'=>
     have e:isT ts t=false:=by simpa [isTr] using e
     simp only [bindR_ok,takeT,e];exact hx'
 . match r,e,hx with
   | .error e',e,hx=>simp [isTr] at e
   | .ok (y,ts,d),e,hx=>
     have e:isT ts t=true:=by simpa [isTr] using e
     have hk:=isT_kind e
     have hlo:=hx.low hk
     have opn:∀ {t':Bytes},isT ts t'=true->opens t'=true->br (x.op == 32)
      (Tri Tryz.prog 95 [vA [vL x.ta x.tn x.tc,vI x.i,vI x.op,vI x.err,vI x.bad],vI 9] h fun v_3 h_3=>
       ∃ (Ta2:Option Addr) (Tn2 Tc2:Nat) (I_2 Open2 Err2 Bad2:Int),v_3=vA [vL Ta2 Tn2 Tc2,vI I_2,vI Open2,vI Err2,vI Bad2]/\
       h_3=h/\∃ x':XC,vA [vL Ta2 Tn2 Tc2,vI I_2,vI Open2,vI Err2,vI Bad2]=vA x'.l/\XS K x' (bindR (.ok (y,ts,d):R α) fun _ ts d=>takeT t' ts d))
      (h=h/\∃ x':XC,vA [vL x.ta x.tn x.tc,vI (IntKind.i64.wrap (x.i+1)),vI (IntKind.i64.wrap (x.op+1)),vI x.err,vI x.bad]=vA x'.l/\XS K x' (bindR (.ok (y,ts,d):R α) fun _ ts d=>takeT t' ts d)):=by
      intro t' g1 g2
      refine br_split (fun e1=>?_) (fun e1=>?_)
      . have h32:d=32:=by
         have:x.op=32:=by simpa using e1
         omega
        refine Tri.mono (failw_r (β:=Unit) hx hI 9 (by decide)) ?_
        rintro _ h ⟨rfl,x',rfl,hx'⟩
        refine ⟨_,_,_,_,_,_,_,rfl,rfl,x',rfl,?_⟩
        simp only [bindR_ok,takeT,g1,g2,h32];exact hx'
      . have h32:d≠32:=by
         have:¬ x.op=32:=by simpa using e1
         omega
        refine ⟨rfl,⟨x.ta,x.tn,x.tc,IntKind.i64.wrap (x.i+1),d+1,x.err,x.bad⟩,?_,?_⟩
        . rw [hlo.2.2.1,wrap64 (n:=d+1) (by omega) (by omega)];rfl
        . have:=hx.adv (z:=()) hI hk (d':=d+1) (by omega) (by omega)
          simp only [bindR_ok,takeT,g1,g2,if_neg h32];exact this
     have cls:∀ {t':Bytes},isT ts t'=true->opens t'=false->closes t'=true->
      (h=h/\∃ x':XC,vA [vL x.ta x.tn x.tc,vI (IntKind.i64.wrap (x.i+1)),vI (IntKind.i64.wrap (x.op - 1)),vI x.err,vI x.bad]=vA x'.l/\XS K x' (bindR (.ok (y,ts,d):R α) fun _ ts d=>takeT t' ts d)):=by
      intro t' g1 g2 g3
      refine ⟨rfl,⟨x.ta,x.tn,x.tc,IntKind.i64.wrap (x.i+1),d - 1,x.err,x.bad⟩,?_,?_⟩
      . rw [hlo.2.2.1,wrap64 (n:=d - 1) (by omega) (by omega)];rfl
      . have:=hx.adv (z:=()) hI hk (d':=d - 1) (by omega) (by omega)
        simp only [bindR_ok,takeT,g1,g2,g3];exact this
     refine br_split (fun f1=>?_) (fun f1=>?_)
     . have f1:t=[40]:=by simpa using f1
       subst f1;exact opn e rfl
     refine br_split (fun f2=>?_) (fun f2=>?_)
     . have f2:t=[91]:=by simpa using f2
       subst f2;exact opn e rfl
     refine br_split (fun f3=>?_) (fun f3=>?_)
     . have f3:t=[123]:=by simpa using f3
       subst f3;exact opn e rfl
     refine br_split (fun f4=>?_) (fun f4=>?_)
     . have f4:t=[41]:=by simpa using f4
       subst f4;exact cls e rfl rfl
     refine br_split (fun f5=>?_) (fun f5=>?_)
     . have f5:t=[93]:=by simpa using f5
       subst f5;exact cls e rfl rfl
     refine br_split (fun f6=>?_) (fun f6=>?_)
     . have f6:t=[125]:=by simpa using f6
       subst f6;exact cls e rfl rfl
     have g2:opens t=false:=by simp only [opens,f1,f2,f3];rfl
     have g3:closes t=false:=by simp only [closes,f4,f5,f6];rfl
     refine ⟨rfl,⟨x.ta,x.tn,x.tc,IntKind.i64.wrap (x.i+1),d,x.err,x.bad⟩,?_,?_⟩
     . rw [hlo.2.2.1];rfl
     . have:=hx.adv (z:=()) hI hk (d':=d) (by omega) (by omega)
       simp only [bindR_ok,takeT,e,g2,g3];exact this
theorem ident_r (hx:XS K x r) (hI:K.In h):Tri Tryz.prog 51 [vA x.l] h fun v h'=>h'=h/\∃ (x':XC) (nm:Bytes) (pos:Int),v=vT [vA x'.l,vS nm,vI pos]/\XX K x' (bindR r fun _ ts d=>takeK 1 ts d) fun t=>nm=t.text/\pos=(t.pos:Nat):=by
 refine T51 ?_
 unfold R51
 refine Tri.mono (kind_r hx hI 1) ?_
 rintro _ h ⟨rfl,rfl⟩
 refine ⟨_,rfl,br_split (fun e=>?_) (fun e=>?_)⟩
 . refine Tri.mono (failw_r (β:=Tok) hx hI 30 (by decide)) ?_
   rintro _ h ⟨rfl,x',rfl,hx'⟩
   refine ⟨_,_,_,_,_,_,_,rfl,rfl,x',[],0,rfl,?_⟩
   match r,e,hx' with
   | .error e',e,hx'=>exact ⟨hx',fun y ts d h=>by cases h⟩
   | .ok (y,ts,d),e,hx'=>
     have e:isK ts 1=false:=by simpa [isKr] using e
     simp only [bindR_ok,takeK,e]
     exact ⟨hx',fun y ts d h=>by cases h⟩
 . obtain ⟨y,ts,d,rfl,k1⟩:=isKr_ok (by simpa using e:isKr r 1=true)
   obtain ⟨t,ht1,ht2,ht3,ht4⟩:=hx.tok hI
   have:=ht4 _ _ _ rfl
   subst this
   have hk:(hd ts).kind≠0:=by simp [isK] at k1;omega
   have hlo:=hx.low hk
   refine ⟨K.tb,0,ht1,ht2,_,_,_,_,_,ht3,rfl,rfl,rfl,⟨x.ta,x.tn,x.tc,IntKind.i64.wrap (x.i+1),d,x.err,x.bad⟩,(hd ts).text,((hd ts).pos:Nat),?_,?_⟩
   . rw [hlo.2.2.1];rfl
   . simp only [bindR_ok,takeK,k1]
     exact ⟨hx.adv hI hk (by omega) (by omega),fun y ts d h=>by cases h;exact ⟨rfl,rfl⟩⟩
theorem num_r (hx:XS K x r) (hI:K.In h):Tri Tryz.prog 52 [vA x.l] h fun v h'=>h'=h/\∃ (x':XC) (n:Int),v=vT [vA x'.l,vI n]/\XX K x' (bindR r fun _ ts d=>takeK 2 ts d) fun t=>n=(t.value:Nat):=by
 refine T52 ?_
 unfold R52
 refine Tri.mono (kind_r hx hI 2) ?_
 rintro _ h ⟨rfl,rfl⟩
 refine ⟨_,rfl,br_split (fun e=>?_) (fun e=>?_)⟩
 . refine Tri.mono (failw_r (β:=Tok) hx hI 30 (by decide)) ?_
   rintro _ h ⟨rfl,x',rfl,hx'⟩
   refine ⟨_,_,_,_,_,_,_,rfl,rfl,x',0,rfl,?_⟩
   match r,e,hx' with
   | .error e',e,hx'=>exact ⟨hx',fun y ts d h=>by cases h⟩
   | .ok (y,ts,d),e,hx'=>
     have e:isK ts 2=false:=by simpa [isKr] using e
     simp only [bindR_ok,takeK,e]
     exact ⟨hx',fun y ts d h=>by cases h⟩
 . obtain ⟨y,ts,d,rfl,k1⟩:=isKr_ok (by simpa using e:isKr r 2=true)
   obtain ⟨t,ht1,ht2,ht3,ht4⟩:=hx.tok hI
   have:=ht4 _ _ _ rfl
   subst this
   have hk:(hd ts).kind≠0:=by simp [isK] at k1;omega
   have hlo:=hx.low hk
   refine ⟨K.tb,0,ht1,ht2,_,ht3.2.2.1,rfl,⟨x.ta,x.tn,x.tc,IntKind.i64.wrap (x.i+1),d,x.err,x.bad⟩,((hd ts).value:Nat),?_,?_⟩
   . rw [hlo.2.2.1];rfl
   . simp only [bindR_ok,takeK,k1]
     exact ⟨hx.adv hI hk (by omega) (by omega),fun y ts d h=>by cases h;rfl⟩
theorem XX.mono {rel rel':α->Prop} (hx:XX K x r rel) (hr:∀ y,rel y->rel' y):XX K x r rel':=⟨hx.1,fun y ts d h=>hr y (hx.2 y ts d h)⟩
theorem XX.then {g:List Tok->Int->R β} {rel rel':α->Prop} (hx:XX K x r rel) (hP:XS K x' (bindR r fun _ ts d=>g ts d)) (hr:∀ y,rel y->rel' y):XX K x' (thenR r g) rel':=by
 match r,hx,hP with
 | .error e,hx,hP=>exact ⟨hP,fun y ts d h=>by cases h⟩
 | .ok (y,ts,d),hx,hP=>
   simp only [thenR,bindR_ok] at hP ⊢
   generalize g ts d=r2 at *
   match r2,hP with
   | .error e,hP=>exact ⟨hP,fun y ts d h=>by cases h⟩
   | .ok (z,ts2,d2),hP=>exact ⟨hP,fun y' ts d h=>by cases h;exact hr _ (hx.2 _ _ _ rfl)⟩
theorem XX.pair {g:List Tok->Int->R β} {rel:α->Prop} {rel2:β->Prop} {rel3:α×β->Prop} (hx:XX K x r rel) (hP:XX K x' (bindR r fun _ ts d=>g ts d) rel2) (hr:∀ y z,rel y->rel2 z->rel3 (y,z)):XX K x' (pairR r g) rel3:=by
 match r,hx,hP with
 | .error e,hx,hP=>exact ⟨hP.1,fun y ts d h=>by cases h⟩
 | .ok (y,ts,d),hx,hP=>
   simp only [pairR,bindR_ok] at hP ⊢
   generalize g ts d=r2 at *
   match r2,hP with
   | .error e,hP=>exact ⟨hP.1,fun y ts d h=>by cases h⟩
   | .ok (z,ts2,d2),hP=>exact ⟨hP.1,fun y' ts d h=>by cases h;exact hr _ _ (hx.2 _ _ _ rfl) (hP.2 _ _ _ rfl)⟩
theorem XX.map {k:α->β} {rel:α->Prop} {rel':β->Prop} (hx:XX K x r rel) (hr:∀ y,rel y->rel' (k y)):XX K x (mapR k r) rel':=by
 match r,hx with
 | .error e,hx=>exact ⟨hx.1,fun y ts d h=>by cases h⟩
 | .ok (y,ts,d),hx=>exact ⟨hx.1,fun z ts d h=>by cases h;exact hr _ (hx.2 _ _ _ rfl)⟩
theorem XX.unit (hx:XS K x r):XX K x r fun _=>True:=⟨hx,fun _ _ _ _=>trivial⟩
theorem XX.er {e:Nat×Nat} {rel:α->Prop} (hx:XS K x (.error e:R β)):XX K x (.error e:R α) rel:=⟨hx,fun y ts d h=>by cases h⟩
end
end Go.Proofs.D
namespace Go.Proofs.D
open Go Go.Den
noncomputable section
set_option maxRecDepth 100000
set_option maxHeartbeats 4000000
abbrev dkk1:List CK:=[.str,qi,qi,qi]
abbrev dkk2:List CK:=[.str, .slice, .slice,qi]
abbrev dkk3:List CK:=[qi, .str, .slice, .slice, .slice,qi]
abbrev dkk4:List CK:=[qi, .str, .str,qi, .str, .slice,qi]
def d34:DCode:=up ⟨[(11, .l [.slice]),(17, .l [.slice]),(20, .l dkk1),(24, .l [.str]),(27, .l [qi]),(32, .l [qi]),(33, .c (.one false [.str])),(37, .l [qi]),(42, .l [qi]),(43, .c (.one false [.str])),(49, .l [.slice]),(55, .l [.slice]),(58, .l dkk2),(62, .l [.str]),(67, .l [.slice]),(78, .l [.slice]),(81, .l [.str]),(86, .l [.slice]),(87, .c (.one false [.str]))],[],[(9,41,[(3, .str),(4,qi)],[]),(47,47,[(3, .str),(6,qi)],[]),(65,20,[(3, .str),(8,qi)],[])]⟩ (lw nf Tryz.f34)
theorem low34:lw nf Tryz.f34=some (eC d34):=by kernel_rfl
def R34 (a1:OA) (n1 dkk1:Nat) (a2:OA) (n2 dkk2:Nat) (h:PHeap) (Q:Value->PHeap->Prop):Prop:=
 ∃ (I_1:Nat->Bs->Int->PHeap->Prop),(∃ m2,I_1 m2 [] (0:Int) h)/\
 ∀ m1 l1 i1 h_1,I_1 m1 l1 i1 h_1->
 br (decide (i1 < (n1:Int)))
 (slt a1 i1 n1 fun b1 o1=>
 ∃ l2 i2 i3 i4,h_1.row b1 (o1+(i1).toNat * 4) [vS l2,vI i2,vI i3,vI i4]/\
 l1.length+([118,97,114,32]:Bs).length<=9223372036854775807/\
 (l1++([118,97,114,32]:Bs)).length+l2.length<=9223372036854775807/\
 br (decide (i2 > 0))
 (((l1++([118,97,114,32]:Bs))++l2).length+([91]:Bs).length<=9223372036854775807/\
 tp 84 [vI i2] h_1 fun v_1 h_2=>
 ∃ l3,v_1=vS l3/\
 (((l1++([118,97,114,32]:Bs))++l2)++([91]:Bs)).length+l3.length<=9223372036854775807/\
 ((((l1++([118,97,114,32]:Bs))++l2)++([91]:Bs))++l3).length+([93]:Bs).length<=9223372036854775807/\
 (((((l1++([118,97,114,32]:Bs))++l2)++([91]:Bs))++l3)++([93]:Bs)).length+([59,10]:Bs).length<=9223372036854775807/\
 ∃ m3,m3 < m1/\I_1 m3 ((((((l1++([118,97,114,32]:Bs))++l2)++([91]:Bs))++l3)++([93]:Bs))++([59,10]:Bs)) (IntKind.i64.wrap (i1+1)) h_2/\
 tv [vL a1 n1 dkk1,vL a2 n2 dkk2]/\True)
 (br (decide (i3 > 0))
 (((l1++([118,97,114,32]:Bs))++l2).length+([32,61,32]:Bs).length<=9223372036854775807/\
 tp 84 [vI i3] h_1 fun v_2 h_3=>
 ∃ l4,v_2=vS l4/\
 (((l1++([118,97,114,32]:Bs))++l2)++([32,61,32]:Bs)).length+l4.length<=9223372036854775807/\
 ((((l1++([118,97,114,32]:Bs))++l2)++([32,61,32]:Bs))++l4).length+([59,10]:Bs).length<=9223372036854775807/\
 ∃ m4,m4 < m1/\I_1 m4 (((((l1++([118,97,114,32]:Bs))++l2)++([32,61,32]:Bs))++l4)++([59,10]:Bs)) (IntKind.i64.wrap (i1+1)) h_3/\
 tv [vL a1 n1 dkk1,vL a2 n2 dkk2]/\True)
 (((l1++([118,97,114,32]:Bs))++l2).length+([59,10]:Bs).length<=9223372036854775807/\
 ∃ m5,m5 < m1/\I_1 m5 (((l1++([118,97,114,32]:Bs))++l2)++([59,10]:Bs)) (IntKind.i64.wrap (i1+1)) h_1/\
 tv [vL a1 n1 dkk1,vL a2 n2 dkk2]/\True)))
 (∃ (I_2:Nat->Bs->Int->PHeap->Prop),(∃ m7,I_2 m7 l1 0 h_1)/\
 ∀ m6 l5 i5 h_4,I_2 m6 l5 i5 h_4->
 br (decide (i5 < (n2:Int)))
 (slt a2 i5 n2 fun b2 o2=>
 ∃ l6 a3 n3 dkk3 a4 n4 dkk4 i6,h_4.row b2 (o2+(i5).toNat * 4) [vS l6,vL a3 n3 dkk3,vL a4 n4 dkk4,vI i6]/\
 l5.length+([102,117,110,99,32]:Bs).length<=9223372036854775807/\
 (l5++([102,117,110,99,32]:Bs)).length+l6.length<=9223372036854775807/\
 ((l5++([102,117,110,99,32]:Bs))++l6).length+([40]:Bs).length<=9223372036854775807/\
 ∃ (I_3:Nat->Bs->Int->PHeap->Prop),(∃ m9,I_3 m9 (((l5++([102,117,110,99,32]:Bs))++l6)++([40]:Bs)) (0:Int) h_4)/\
 ∀ m8 l7 i7 h_5,I_3 m8 l7 i7 h_5->
 br (decide (i7 < (n3:Int)))
 (br (decide (i7 > 0))
 (l7.length+([44,32]:Bs).length<=9223372036854775807/\
 slt a3 i7 n3 fun b3 o3=>
 ∃ l8,h_5.cell b3 (o3+(i7).toNat * 1)=some (vS l8)/\
 (l7++([44,32]:Bs)).length+l8.length<=9223372036854775807/\
 ∃ m10,m10 < m8/\I_3 m10 ((l7++([44,32]:Bs))++l8) (IntKind.i64.wrap (i7+1)) h_5/\
 tv [vS l6,vL a3 n3 dkk3,vL a4 n4 dkk4,vI i6]/\tv [vL a1 n1 dkk1,vL a2 n2 dkk2]/\True)
 (slt a3 i7 n3 fun b4 o4=>
 ∃ l9,h_5.cell b4 (o4+(i7).toNat * 1)=some (vS l9)/\
 l7.length+l9.length<=9223372036854775807/\
 ∃ m11,m11 < m8/\I_3 m11 (l7++l9) (IntKind.i64.wrap (i7+1)) h_5/\
 tv [vS l6,vL a3 n3 dkk3,vL a4 n4 dkk4,vI i6]/\tv [vL a1 n1 dkk1,vL a2 n2 dkk2]/\True))
 (l7.length+([41,32,123,10]:Bs).length<=9223372036854775807/\
 tp 85 [vL a4 n4 dkk4,vI 1] h_5 fun v_3 h_6=>
 ∃ l10,v_3=vS l10/\
 (l7++([41,32,123,10]:Bs)).length+l10.length<=9223372036854775807/\
 ((l7++([41,32,123,10]:Bs))++l10).length+([125,10]:Bs).length<=9223372036854775807/\
 ∃ m12,m12 < m6/\I_2 m12 (((l7++([41,32,123,10]:Bs))++l10)++([125,10]:Bs)) (IntKind.i64.wrap (i5+1)) h_6/\
 tv [vL a1 n1 dkk1,vL a2 n2 dkk2]/\True))
 (Q (vS l5) h_4))
theorem T34 {a1 n1 dkk1 a2 n2 dkk2 h Q} (hR:R34 a1 n1 dkk1 a2 n2 dkk2 h Q):Tri Tryz.prog 34 [vA [vL a1 n1 dkk1,vL a2 n2 dkk2]] h Q:=
 tri_of_dn mixed Tryz.func34 rfl (by kernel_rfl) low34 (rs:=[.tmp 2]) (by kernel_rfl) rfl (Eq.mpr (by kernel_rfl) hR)
def d84:DCode:=up ⟨[],[],[(4,16,[(3, .str),(0,qi)],[])]⟩ (lw nf Tryz.f84)
theorem low84:lw nf Tryz.f84=some (eC d84):=by kernel_rfl
def R84 (i1:Int) (h:PHeap) (Q:Value->PHeap->Prop):Prop:=
 ∃ (I_1:Nat->Bs->Int->PHeap->Prop),(∃ m2,I_1 m2 [] i1 h)/\
 ∀ m1 l1 i2 h_1,I_1 m1 l1 i2 h_1->
 (0<=(Int.tmod i2 10)/\(Int.tmod i2 10)<=(IntKind.i64.wrap ((Int.tmod i2 10)+1))/\(IntKind.i64.wrap ((Int.tmod i2 10)+1))<=(10:Int))/\
 ((([48,49,50,51,52,53,54,55,56,57]:Bs).drop (Int.tmod i2 10).toNat).take ((IntKind.i64.wrap ((Int.tmod i2 10)+1)).toNat - (Int.tmod i2 10).toNat)).length+l1.length<=9223372036854775807/\
 br ((IntKind.i64.wrap (Int.tdiv i2 10)) == 0)
 (Q (vS (((([48,49,50,51,52,53,54,55,56,57]:Bs).drop (Int.tmod i2 10).toNat).take ((IntKind.i64.wrap ((Int.tmod i2 10)+1)).toNat - (Int.tmod i2 10).toNat))++l1)) h_1)
 (∃ m3,m3 < m1/\I_1 m3 (((([48,49,50,51,52,53,54,55,56,57]:Bs).drop (Int.tmod i2 10).toNat).take ((IntKind.i64.wrap ((Int.tmod i2 10)+1)).toNat - (Int.tmod i2 10).toNat))++l1) (IntKind.i64.wrap (Int.tdiv i2 10)) h_1/\
 True)
theorem T84 {i1 h Q} (hR:R84 i1 h Q):Tri Tryz.prog 84 [vI i1] h Q:=
 tri_of_dn mixed Tryz.func84 rfl (by kernel_rfl) low84 (rs:=[.tmp 2]) (by kernel_rfl) rfl (Eq.mpr (by kernel_rfl) hR)
def d85:DCode:=up ⟨[(15, .c (.one false [.str])),(20, .l dkk3),(22, .c (.one false [.str]))],[],[(7,20,[(5, .str),(6,qi)],[])]⟩ (lw nf Tryz.f85)
theorem low85:lw nf Tryz.f85=some (eC d85):=by kernel_rfl
def R85 (a1:OA) (n1 dkk1:Nat) (i1:Int) (h:PHeap) (Q:Value->PHeap->Prop):Prop:=
 ∃ (I_1:Nat->Bs->Int->PHeap->Prop),(∃ m2,I_1 m2 [] (0:Int) h)/\
 ∀ m1 l1 i2 h_1,I_1 m1 l1 i2 h_1->
 br (decide (i2 < (n1:Int)))
 (slt a1 i2 n1 fun b1 o1=>
 ∃ i3 l2 a2 n2 dkk2 a3 n3 dkk3 a4 n4 dkk4 i4,h_1.row b1 (o1+(i2).toNat * 6) [vI i3,vS l2,vL a2 n2 dkk2,vL a3 n3 dkk3,vL a4 n4 dkk4,vI i4]/\
 tp 129 [vI i1] h_1 fun v_1 h_2=>
 ∃ l3,v_1=vS l3/\
 (h_2.row b1 (o1+(i2).toNat * 6) [vI i3,vS l2,vL a2 n2 dkk2,vL a3 n3 dkk3,vL a4 n4 dkk4,vI i4])/\
 l1.length+l3.length<=9223372036854775807/\
 tp 130 [vA [vI i3,vS l2,vL a2 n2 dkk2,vL a3 n3 dkk3,vL a4 n4 dkk4,vI i4],vI i1] h_2 fun v_2 h_3=>
 ∃ l4,v_2=vS l4/\
 (l1++l3).length+l4.length<=9223372036854775807/\
 ((l1++l3)++l4).length+([10]:Bs).length<=9223372036854775807/\
 ∃ m3,m3 < m1/\I_1 m3 (((l1++l3)++l4)++([10]:Bs)) (IntKind.i64.wrap (i2+1)) h_3/\
 True)
 (Q (vS l1) h_1)
theorem T85 {a1 n1 dkk1 i1 h Q} (hR:R85 a1 n1 dkk1 i1 h Q):Tri Tryz.prog 85 [vL a1 n1 dkk1,vI i1] h Q:=
 tri_of_dn mixed Tryz.func85 rfl (by kernel_rfl) low85 (rs:=[.tmp 4]) (by kernel_rfl) rfl (Eq.mpr (by kernel_rfl) hR)
def d129:DCode:=up ⟨[],[],[(5,9,[(3, .str),(4,qi)],[])]⟩ (lw nf Tryz.f129)
theorem low129:lw nf Tryz.f129=some (eC d129):=by kernel_rfl
def R129 (i1:Int) (h:PHeap) (Q:Value->PHeap->Prop):Prop:=
 ∃ (I_1:Nat->Bs->Int->PHeap->Prop),(∃ m2,I_1 m2 [] (0:Int) h)/\
 ∀ m1 l1 i2 h_1,I_1 m1 l1 i2 h_1->
 br (decide (i2 < i1))
 (l1.length+([9]:Bs).length<=9223372036854775807/\
 ∃ m3,m3 < m1/\I_1 m3 (l1++([9]:Bs)) (IntKind.i64.wrap (i2+1)) h_1/\
 True)
 (Q (vS l1) h_1)
theorem T129 {i1 h Q} (hR:R129 i1 h Q):Tri Tryz.prog 129 [vI i1] h Q:=
 tri_of_dn mixed Tryz.func129 rfl (by kernel_rfl) low129 (rs:=[.tmp 2]) (by kernel_rfl) rfl (Eq.mpr (by kernel_rfl) hR)
def d130:DCode:=up ⟨[(8, .l [.slice]),(9, .c (.one false [.str])),(11, .l [qi]),(15, .l [.slice]),(19, .l [.str]),(23, .l [.str]),(32, .l [.str]),(40, .l [.str]),(43, .l [.slice]),(45, .l dkk4),(46, .c (.one false [.str])),(50, .l [.slice]),(52, .l dkk4),(53, .c (.one false [.str])),(66, .l [.slice]),(69, .c (.one false [.str])),(72, .c (.one false [.str])),(76, .l [.slice]),(81, .l [.slice]),(84, .l [qi]),(90, .l [.slice]),(92, .l dkk3),(94, .c (.one false [.str])),(97, .l [.slice]),(103, .l [.slice]),(106, .c (.one false [.str])),(109, .c (.one false [.str])),(119, .l [.slice]),(122, .c (.one false [.str])),(125, .c (.one false [.str])),(131, .l [.slice])],[],[]⟩ (lw nf Tryz.f130)
theorem low130:lw nf Tryz.f130=some (eC d130):=by kernel_rfl
def R130 (i1:Int) (l1:Bs) (a1:OA) (n1 dkk1:Nat) (a2:OA) (n2 dkk2:Nat) (a3:OA) (n3 dkk3:Nat) (i2 i3:Int) (h:PHeap) (Q:Value->PHeap->Prop):Prop:=
 tp 162 [vL a1 n1 dkk1] h fun v_1 h_1=>
 ∃ l2,v_1=vS l2/\
 br (i1 == 1)
 (br ((n1:Int) == 0)
 (([118,97,114,32]:Bs).length+l1.length<=9223372036854775807/\
 (([118,97,114,32]:Bs)++l1).length+([59]:Bs).length<=9223372036854775807/\
 Q (vS ((([118,97,114,32]:Bs)++l1)++([59]:Bs))) h_1)
 (([118,97,114,32]:Bs).length+l1.length<=9223372036854775807/\
 (([118,97,114,32]:Bs)++l1).length+([32,61,32]:Bs).length<=9223372036854775807/\
 ((([118,97,114,32]:Bs)++l1)++([32,61,32]:Bs)).length+l2.length<=9223372036854775807/\
 (((([118,97,114,32]:Bs)++l1)++([32,61,32]:Bs))++l2).length+([59]:Bs).length<=9223372036854775807/\
 Q (vS ((((([118,97,114,32]:Bs)++l1)++([32,61,32]:Bs))++l2)++([59]:Bs))) h_1))
 (br (i1 == 2)
 (l1.length+([32,61,32]:Bs).length<=9223372036854775807/\
 (l1++([32,61,32]:Bs)).length+l2.length<=9223372036854775807/\
 ((l1++([32,61,32]:Bs))++l2).length+([59]:Bs).length<=9223372036854775807/\
 Q (vS (((l1++([32,61,32]:Bs))++l2)++([59]:Bs))) h_1)
 (br (i1 == 3)
 (l1.length+([91]:Bs).length<=9223372036854775807/\
 slt a1 (0:Int) n1 fun b1 o1=>
 ∃ i4 l3 l4 i5 l5 a4 n4 dkk4 i6,h_1.row b1 o1 [vI i4,vS l3,vS l4,vI i5,vS l5,vL a4 n4 dkk4,vI i6]/\
 slt a1 (1:Int) n1 fun b2 o2=>
 ∃ i7 l6 l7 i8 l8 a5 n5 k5 i9,h_1.row b2 (o2+7) [vI i7,vS l6,vS l7,vI i8,vS l8,vL a5 n5 k5,vI i9]/\
 tp 163 [vA [vI i4,vS l3,vS l4,vI i5,vS l5,vL a4 n4 dkk4,vI i6]] h_1 fun v_2 h_2=>
 ∃ l9,v_2=vS l9/\
 (h_2.row b2 (o2+7) [vI i7,vS l6,vS l7,vI i8,vS l8,vL a5 n5 k5,vI i9])/\
 (tv [vL a1 n1 dkk1])/\
 (tv [vL a1 n1 dkk1])/\
 (tv [vS l1])/\
 (l1++([91]:Bs)).length+l9.length<=9223372036854775807/\
 ((l1++([91]:Bs))++l9).length+([93,32,61,32]:Bs).length<=9223372036854775807/\
 tp 163 [vA [vI i7,vS l6,vS l7,vI i8,vS l8,vL a5 n5 k5,vI i9]] h_2 fun v_3 h_3=>
 ∃ l10,v_3=vS l10/\
 (tv [vL a1 n1 dkk1])/\
 (tv [vL a1 n1 dkk1])/\
 (tv [vS l1])/\
 (((l1++([91]:Bs))++l9)++([93,32,61,32]:Bs)).length+l10.length<=9223372036854775807/\
 ((((l1++([91]:Bs))++l9)++([93,32,61,32]:Bs))++l10).length+([59]:Bs).length<=9223372036854775807/\
 Q (vS (((((l1++([91]:Bs))++l9)++([93,32,61,32]:Bs))++l10)++([59]:Bs))) h_3)
 (br (i1 == 4)
 (l2.length+([59]:Bs).length<=9223372036854775807/\
 Q (vS (l2++([59]:Bs))) h_1)
 (br (i1 == 5)
 (([105,102,32,40]:Bs).length+l2.length<=9223372036854775807/\
 (([105,102,32,40]:Bs)++l2).length+([41,32,123,10]:Bs).length<=9223372036854775807/\
 tp 85 [vL a2 n2 dkk2,vI (IntKind.i64.wrap (i3+1))] h_1 fun v_4 h_4=>
 ∃ l11,v_4=vS l11/\
 ((([105,102,32,40]:Bs)++l2)++([41,32,123,10]:Bs)).length+l11.length<=9223372036854775807/\
 tp 129 [vI i3] h_4 fun v_5 h_5=>
 ∃ l12,v_5=vS l12/\
 (((([105,102,32,40]:Bs)++l2)++([41,32,123,10]:Bs))++l11).length+l12.length<=9223372036854775807/\
 ((((([105,102,32,40]:Bs)++l2)++([41,32,123,10]:Bs))++l11)++l12).length+([125]:Bs).length<=9223372036854775807/\
 br ((n3:Int) == 1)
 (slt a3 (0:Int) n3 fun b3 o3=>
 ∃ i10,h_5.cell b3 o3=some (vI i10)/\
 br (i10 == 5)
 ((((((([105,102,32,40]:Bs)++l2)++([41,32,123,10]:Bs))++l11)++l12)++([125]:Bs)).length+([32,101,108,115,101,32]:Bs).length<=9223372036854775807/\
 slt a3 (0:Int) n3 fun b4 o4=>
 ∃ i11 l13 a6 n6 k6 a7 n7 k7 a8 n8 k8 i12,h_5.row b4 o4 [vI i11,vS l13,vL a6 n6 k6,vL a7 n7 k7,vL a8 n8 k8,vI i12]/\
 tp 130 [vA [vI i11,vS l13,vL a6 n6 k6,vL a7 n7 k7,vL a8 n8 k8,vI i12],vI i3] h_5 fun v_6 h_6=>
 ∃ l14,v_6=vS l14/\
 ((((((([105,102,32,40]:Bs)++l2)++([41,32,123,10]:Bs))++l11)++l12)++([125]:Bs))++([32,101,108,115,101,32]:Bs)).length+l14.length<=9223372036854775807/\
 Q (vS (((((((([105,102,32,40]:Bs)++l2)++([41,32,123,10]:Bs))++l11)++l12)++([125]:Bs))++([32,101,108,115,101,32]:Bs))++l14)) h_6)
 (br (decide ((n3:Int) > 0))
 ((((((([105,102,32,40]:Bs)++l2)++([41,32,123,10]:Bs))++l11)++l12)++([125]:Bs)).length+([32,101,108,115,101,32,123,10]:Bs).length<=9223372036854775807/\
 tp 85 [vL a3 n3 dkk3,vI (IntKind.i64.wrap (i3+1))] h_5 fun v_7 h_7=>
 ∃ l15,v_7=vS l15/\
 ((((((([105,102,32,40]:Bs)++l2)++([41,32,123,10]:Bs))++l11)++l12)++([125]:Bs))++([32,101,108,115,101,32,123,10]:Bs)).length+l15.length<=9223372036854775807/\
 tp 129 [vI i3] h_7 fun v_8 h_8=>
 ∃ l16,v_8=vS l16/\
 (((((((([105,102,32,40]:Bs)++l2)++([41,32,123,10]:Bs))++l11)++l12)++([125]:Bs))++([32,101,108,115,101,32,123,10]:Bs))++l15).length+l16.length<=9223372036854775807/\
 ((((((((([105,102,32,40]:Bs)++l2)++([41,32,123,10]:Bs))++l11)++l12)++([125]:Bs))++([32,101,108,115,101,32,123,10]:Bs))++l15)++l16).length+([125]:Bs).length<=9223372036854775807/\
 Q (vS (((((((((([105,102,32,40]:Bs)++l2)++([41,32,123,10]:Bs))++l11)++l12)++([125]:Bs))++([32,101,108,115,101,32,123,10]:Bs))++l15)++l16)++([125]:Bs))) h_8)
 (Q (vS (((((([105,102,32,40]:Bs)++l2)++([41,32,123,10]:Bs))++l11)++l12)++([125]:Bs))) h_5)))
 (br (decide ((n3:Int) > 0))
 ((((((([105,102,32,40]:Bs)++l2)++([41,32,123,10]:Bs))++l11)++l12)++([125]:Bs)).length+([32,101,108,115,101,32,123,10]:Bs).length<=9223372036854775807/\
 tp 85 [vL a3 n3 dkk3,vI (IntKind.i64.wrap (i3+1))] h_5 fun v_9 h_9=>
 ∃ l17,v_9=vS l17/\
 ((((((([105,102,32,40]:Bs)++l2)++([41,32,123,10]:Bs))++l11)++l12)++([125]:Bs))++([32,101,108,115,101,32,123,10]:Bs)).length+l17.length<=9223372036854775807/\
 tp 129 [vI i3] h_9 fun v_10 h_10=>
 ∃ l18,v_10=vS l18/\
 (((((((([105,102,32,40]:Bs)++l2)++([41,32,123,10]:Bs))++l11)++l12)++([125]:Bs))++([32,101,108,115,101,32,123,10]:Bs))++l17).length+l18.length<=9223372036854775807/\
 ((((((((([105,102,32,40]:Bs)++l2)++([41,32,123,10]:Bs))++l11)++l12)++([125]:Bs))++([32,101,108,115,101,32,123,10]:Bs))++l17)++l18).length+([125]:Bs).length<=9223372036854775807/\
 Q (vS (((((((((([105,102,32,40]:Bs)++l2)++([41,32,123,10]:Bs))++l11)++l12)++([125]:Bs))++([32,101,108,115,101,32,123,10]:Bs))++l17)++l18)++([125]:Bs))) h_10)
 (Q (vS (((((([105,102,32,40]:Bs)++l2)++([41,32,123,10]:Bs))++l11)++l12)++([125]:Bs))) h_5)))
 (br (i1 == 6)
 (([119,104,105,108,101,32,40]:Bs).length+l2.length<=9223372036854775807/\
 (([119,104,105,108,101,32,40]:Bs)++l2).length+([41,32,123,10]:Bs).length<=9223372036854775807/\
 tp 85 [vL a2 n2 dkk2,vI (IntKind.i64.wrap (i3+1))] h_1 fun v_11 h_11=>
 ∃ l19,v_11=vS l19/\
 ((([119,104,105,108,101,32,40]:Bs)++l2)++([41,32,123,10]:Bs)).length+l19.length<=9223372036854775807/\
 tp 129 [vI i3] h_11 fun v_12 h_12=>
 ∃ l20,v_12=vS l20/\
 (((([119,104,105,108,101,32,40]:Bs)++l2)++([41,32,123,10]:Bs))++l19).length+l20.length<=9223372036854775807/\
 ((((([119,104,105,108,101,32,40]:Bs)++l2)++([41,32,123,10]:Bs))++l19)++l20).length+([125]:Bs).length<=9223372036854775807/\
 Q (vS (((((([119,104,105,108,101,32,40]:Bs)++l2)++([41,32,123,10]:Bs))++l19)++l20)++([125]:Bs))) h_12)
 (br (i1 == 7)
 (br ((n1:Int) == 0)
 (Q (vS [114,101,116,117,114,110,59]) h_1)
 (([114,101,116,117,114,110,32]:Bs).length+l2.length<=9223372036854775807/\
 (([114,101,116,117,114,110,32]:Bs)++l2).length+([59]:Bs).length<=9223372036854775807/\
 Q (vS ((([114,101,116,117,114,110,32]:Bs)++l2)++([59]:Bs))) h_1))
 (br (i1 == 8)
 (Q (vS [98,114,101,97,107,59]) h_1)
 (Q (vS [99,111,110,116,105,110,117,101,59]) h_1))))))))
theorem T130 {i1 l1 a1 n1 dkk1 a2 n2 dkk2 a3 n3 dkk3 i2 i3 h Q} (hR:R130 i1 l1 a1 n1 dkk1 a2 n2 dkk2 a3 n3 dkk3 i2 i3 h Q):Tri Tryz.prog 130 [vA [vI i1,vS l1,vL a1 n1 dkk1,vL a2 n2 dkk2,vL a3 n3 dkk3,vI i2],vI i3] h Q:=
 tri_of_dn mixed Tryz.func130 rfl (by kernel_rfl) low130 (rs:=[.tmp 4]) (by kernel_rfl) rfl (Eq.mpr (by kernel_rfl) hR)
def d162:DCode:=up ⟨[(19, .l dkk4),(20, .c (.one false [.str]))],[],[(5,19,[(3, .str),(4,qi)],[])]⟩ (lw nf Tryz.f162)
theorem low162:lw nf Tryz.f162=some (eC d162):=by kernel_rfl
def R162 (a1:OA) (n1 dkk1:Nat) (h:PHeap) (Q:Value->PHeap->Prop):Prop:=
 ∃ (I_1:Nat->Bs->Int->PHeap->Prop),(∃ m2,I_1 m2 [] (0:Int) h)/\
 ∀ m1 l1 i1 h_1,I_1 m1 l1 i1 h_1->
 br (decide (i1 < (n1:Int)))
 (br (decide (i1 > 0))
 (l1.length+([44,32]:Bs).length<=9223372036854775807/\
 slt a1 i1 n1 fun b1 o1=>
 ∃ i2 l2 l3 i3 l4 a2 n2 dkk2 i4,h_1.row b1 (o1+(i1).toNat * 7) [vI i2,vS l2,vS l3,vI i3,vS l4,vL a2 n2 dkk2,vI i4]/\
 tp 163 [vA [vI i2,vS l2,vS l3,vI i3,vS l4,vL a2 n2 dkk2,vI i4]] h_1 fun v_1 h_2=>
 ∃ l5,v_1=vS l5/\
 (l1++([44,32]:Bs)).length+l5.length<=9223372036854775807/\
 ∃ m3,m3 < m1/\I_1 m3 ((l1++([44,32]:Bs))++l5) (IntKind.i64.wrap (i1+1)) h_2/\
 True)
 (slt a1 i1 n1 fun b2 o2=>
 ∃ i5 l6 l7 i6 l8 a3 n3 dkk3 i7,h_1.row b2 (o2+(i1).toNat * 7) [vI i5,vS l6,vS l7,vI i6,vS l8,vL a3 n3 dkk3,vI i7]/\
 tp 163 [vA [vI i5,vS l6,vS l7,vI i6,vS l8,vL a3 n3 dkk3,vI i7]] h_1 fun v_2 h_3=>
 ∃ l9,v_2=vS l9/\
 l1.length+l9.length<=9223372036854775807/\
 ∃ m4,m4 < m1/\I_1 m4 (l1++l9) (IntKind.i64.wrap (i1+1)) h_3/\
 True))
 (Q (vS l1) h_1)
theorem T162 {a1 n1 dkk1 h Q} (hR:R162 a1 n1 dkk1 h Q):Tri Tryz.prog 162 [vL a1 n1 dkk1] h Q:=
 tri_of_dn mixed Tryz.func162 rfl (by kernel_rfl) low162 (rs:=[.tmp 2]) (by kernel_rfl) rfl (Eq.mpr (by kernel_rfl) hR)
def d163:DCode:=up ⟨[(9, .l [qi]),(13, .l [qi]),(14, .c (.one false [.str])),(19, .l [.str]),(20, .c (.tup [(false,[.str]),(false,[qi])])),(27, .l [.str]),(31, .l [.str]),(34, .l [.slice]),(36, .l dkk4),(37, .c (.one false [.str])),(43, .l [.str]),(46, .l [.slice]),(47, .c (.one false [.str])),(53, .l [.str]),(55, .l [.slice]),(57, .l dkk4),(59, .l [.slice]),(62, .l [qi]),(64, .c (.one false [.str])),(67, .l [.slice]),(69, .l dkk4),(71, .l [.slice]),(73, .l dkk4),(75, .l [.str]),(76, .c (.one false [qi])),(77, .l dkk4),(79, .l [qi]),(83, .l [.str]),(84, .c (.one false [qi])),(88, .c (.one false [.str])),(91, .l [.str]),(94, .l dkk4),(96, .l [qi]),(100, .l [.str]),(101, .c (.one false [qi])),(105, .c (.one false [.str]))],[],[]⟩ (lw nf Tryz.f163)
theorem low163:lw nf Tryz.f163=some (eC d163):=by kernel_rfl
abbrev K163_2 (v_8:Value) (i15:Int) (l18 l19:Bs) (i16:Int) (l20:Bs) (a5:OA) (n5 k5:Nat) (i17:Int) (l1:Bs) (i12:Int) (h_8:PHeap) (i18:Int) (Q:Value->PHeap->Prop):Prop:=
 ∃ l21,v_8=vS l21/\
 (tv [vI i15])/\
 (tv [vI i15,vS l18,vS l19,vI i16,vS l20,vL a5 n5 k5,vI i17])/\
 (tv [vS l1])/\
 (tv [vI i12])/\
 l21.length+([32]:Bs).length<=9223372036854775807/\
 (l21++([32]:Bs)).length+l1.length<=9223372036854775807/\
 ((l21++([32]:Bs))++l1).length+([32]:Bs).length<=9223372036854775807/\
 br (i15 == 7)
 (tp 27 [vS l18] h_8 fun v_9 h_9=>
 ∃ i20,v_9=vI i20/\
 (tv [vI i15])/\
 (tv [vI i15,vS l18,vS l19,vI i16,vS l20,vL a5 n5 k5,vI i17])/\
 (tv [vS l1])/\
 (tv [vI i12])/\
 tp 186 [vA [vI i15,vS l18,vS l19,vI i16,vS l20,vL a5 n5 k5,vI i17],vB (decide (i20<=i18))] h_9 fun v_10 h_10=>
 ∃ l22,v_10=vS l22/\
 (tv [vI i15])/\
 (tv [vS l1])/\
 (tv [vI i12])/\
 (((l21++([32]:Bs))++l1)++([32]:Bs)).length+l22.length<=9223372036854775807/\
 Q (vS ((((l21++([32]:Bs))++l1)++([32]:Bs))++l22)) h_10)
 ((tv [vI i15])/\
 (tv [vI i15,vS l18,vS l19,vI i16,vS l20,vL a5 n5 k5,vI i17])/\
 (tv [vS l1])/\
 (tv [vI i12])/\
 tp 186 [vA [vI i15,vS l18,vS l19,vI i16,vS l20,vL a5 n5 k5,vI i17],vB false] h_8 fun v_11 h_11=>
 ∃ l23,v_11=vS l23/\
 (tv [vI i15])/\
 (tv [vS l1])/\
 (tv [vI i12])/\
 (((l21++([32]:Bs))++l1)++([32]:Bs)).length+l23.length<=9223372036854775807/\
 Q (vS ((((l21++([32]:Bs))++l1)++([32]:Bs))++l23)) h_11)
abbrev K163_1 (h_6:PHeap) (b5 o5:Nat) (i15:Int) (l18 l19:Bs) (i16:Int) (l20:Bs) (a5:OA) (n5 k5:Nat) (i17:Int) (a1:OA) (n1 dkk1 b4 o4:Nat) (i12:Int) (l15 l16:Bs) (i13:Int) (l17:Bs) (a4:OA) (n4 dkk4:Nat) (i14:Int) (l1:Bs) (i18:Int) (Q:Value->PHeap->Prop):Prop:=
 (h_6.row b5 (o5+7) [vI i15,vS l18,vS l19,vI i16,vS l20,vL a5 n5 k5,vI i17])/\
 (tv [vL a1 n1 dkk1])/\
 (h_6.row b4 o4 [vI i12,vS l15,vS l16,vI i13,vS l17,vL a4 n4 dkk4,vI i14])/\
 (tv [vL a1 n1 dkk1])/\
 (h_6.row b5 (o5+7) [vI i15,vS l18,vS l19,vI i16,vS l20,vL a5 n5 k5,vI i17])/\
 (tv [vL a1 n1 dkk1])/\
 br (i12 == 7)
 (tp 27 [vS l15] h_6 fun v_7 h_7=>
 ∃ i19,v_7=vI i19/\
 (tv [vI i15])/\
 (tv [vI i15,vS l18,vS l19,vI i16,vS l20,vL a5 n5 k5,vI i17])/\
 (tv [vS l1])/\
 (tv [vI i12])/\
 (tv [vI i12,vS l15,vS l16,vI i13,vS l17,vL a4 n4 dkk4,vI i14])/\
 tp 186 [vA [vI i12,vS l15,vS l16,vI i13,vS l17,vL a4 n4 dkk4,vI i14],vB (decide (i19 < i18))] h_7 fun v_8 h_8=>
 K163_2 v_8 i15 l18 l19 i16 l20 a5 n5 k5 i17 l1 i12 h_8 i18 Q)
 ((tv [vI i15])/\
 (tv [vI i15,vS l18,vS l19,vI i16,vS l20,vL a5 n5 k5,vI i17])/\
 (tv [vS l1])/\
 (tv [vI i12])/\
 (tv [vI i12,vS l15,vS l16,vI i13,vS l17,vL a4 n4 dkk4,vI i14])/\
 tp 186 [vA [vI i12,vS l15,vS l16,vI i13,vS l17,vL a4 n4 dkk4,vI i14],vB false] h_6 fun v_12 h_12=>
 K163_2 v_12 i15 l18 l19 i16 l20 a5 n5 k5 i17 l1 i12 h_12 i18 Q)
abbrev K163_3 (l1:Bs) (h:PHeap) (b5 o5:Nat) (i15:Int) (l18 l19:Bs) (i16:Int) (l20:Bs) (a5:OA) (n5 k5:Nat) (i17:Int) (a1:OA) (n1 dkk1 b4 o4:Nat) (i12:Int) (l15 l16:Bs) (i13:Int) (l17:Bs) (a4:OA) (n4 dkk4:Nat) (i14:Int) (Q:Value->PHeap->Prop):Prop:=
 (tv [vS l1])/\
 (h.row b5 (o5+7) [vI i15,vS l18,vS l19,vI i16,vS l20,vL a5 n5 k5,vI i17])/\
 (tv [vL a1 n1 dkk1])/\
 (h.row b4 o4 [vI i12,vS l15,vS l16,vI i13,vS l17,vL a4 n4 dkk4,vI i14])/\
 (tv [vL a1 n1 dkk1])/\
 (tp 27 [vS l1] h fun v_25 h_25=>
 ∃ i25,v_25=vI i25/\
 (h_25.row b5 (o5+7) [vI i15,vS l18,vS l19,vI i16,vS l20,vL a5 n5 k5,vI i17])/\
 (tv [vL a1 n1 dkk1])/\
 (h_25.row b4 o4 [vI i12,vS l15,vS l16,vI i13,vS l17,vL a4 n4 dkk4,vI i14])/\
 (tv [vL a1 n1 dkk1])/\
 K163_1 h_25 b5 o5 i15 l18 l19 i16 l20 a5 n5 k5 i17 a1 n1 dkk1 b4 o4 i12 l15 l16 i13 l17 a4 n4 dkk4 i14 l1 i25 Q)/\
 ((tv [vS l1])/\
 (h.row b5 (o5+7) [vI i15,vS l18,vS l19,vI i16,vS l20,vL a5 n5 k5,vI i17])/\
 (tv [vL a1 n1 dkk1])/\
 (h.row b4 o4 [vI i12,vS l15,vS l16,vI i13,vS l17,vL a4 n4 dkk4,vI i14])/\
 (tv [vL a1 n1 dkk1])/\
 tp 27 [vS l1] h fun v_35 h_35=>
 ∃ i29,v_35=vI i29/\
 K163_1 h_35 b5 o5 i15 l18 l19 i16 l20 a5 n5 k5 i17 a1 n1 dkk1 b4 o4 i12 l15 l16 i13 l17 a4 n4 dkk4 i14 l1 i29 Q)
def R163 (i1:Int) (l1 l2:Bs) (i2:Int) (l3:Bs) (a1:OA) (n1 dkk1:Nat) (i3:Int) (h:PHeap) (Q:Value->PHeap->Prop):Prop:=
 br (i1 == 1)
 (tp 84 [vI i2] h fun v_1 h_1=>
 ∃ l4,v_1=vS l4/\
 Q (vS l4) h_1)
 (br (i1 == 2)
 (tp 185 [vS l3] h fun v_2 h_2=>
 ∃ l5 i4,v_2=vT [vS l5,vI i4]/\
 Q (vS l5) h_2)
 (br (i1 == 3)
 (Q (vS l2) h)
 (br (i1 == 4)
 (l2.length+([91]:Bs).length<=9223372036854775807/\
 slt a1 (0:Int) n1 fun b1 o1=>
 ∃ i5 l6 l7 i6 l8 a2 n2 dkk2 i7,h.row b1 o1 [vI i5,vS l6,vS l7,vI i6,vS l8,vL a2 n2 dkk2,vI i7]/\
 tp 163 [vA [vI i5,vS l6,vS l7,vI i6,vS l8,vL a2 n2 dkk2,vI i7]] h fun v_3 h_3=>
 ∃ l9,v_3=vS l9/\
 (tv [vL a1 n1 dkk1])/\
 (tv [vS l2])/\
 (l2++([91]:Bs)).length+l9.length<=9223372036854775807/\
 ((l2++([91]:Bs))++l9).length+([93]:Bs).length<=9223372036854775807/\
 Q (vS (((l2++([91]:Bs))++l9)++([93]:Bs))) h_3)
 (br (i1 == 5)
 (l2.length+([40]:Bs).length<=9223372036854775807/\
 tp 162 [vL a1 n1 dkk1] h fun v_4 h_4=>
 ∃ l10,v_4=vS l10/\
 (tv [vS l2])/\
 (l2++([40]:Bs)).length+l10.length<=9223372036854775807/\
 ((l2++([40]:Bs))++l10).length+([41]:Bs).length<=9223372036854775807/\
 Q (vS (((l2++([40]:Bs))++l10)++([41]:Bs))) h_4)
 (br (i1 == 6)
 (slt a1 (0:Int) n1 fun b2 o2=>
 ∃ i8 l11 l12 i9 l13 a3 n3 dkk3 i10,h.row b2 o2 [vI i8,vS l11,vS l12,vI i9,vS l13,vL a3 n3 dkk3,vI i10]/\
 slt a1 (0:Int) n1 fun b3 o3=>
 ∃ i11,h.cell b3 o3=some (vI i11)/\
 tp 186 [vA [vI i8,vS l11,vS l12,vI i9,vS l13,vL a3 n3 dkk3,vI i10],vB (i11 == 7)] h fun v_5 h_5=>
 ∃ l14,v_5=vS l14/\
 (h_5.cell b3 o3=some (vI i11))/\
 (tv [vL a1 n1 dkk1])/\
 (tv [vL a1 n1 dkk1])/\
 (tv [vS l1])/\
 l1.length+l14.length<=9223372036854775807/\
 Q (vS (l1++l14)) h_5)
 (slt a1 (0:Int) n1 fun b4 o4=>
 ∃ i12 l15 l16 i13 l17 a4 n4 dkk4 i14,h.row b4 o4 [vI i12,vS l15,vS l16,vI i13,vS l17,vL a4 n4 dkk4,vI i14]/\
 slt a1 (1:Int) n1 fun b5 o5=>
 ∃ i15 l18 l19 i16 l20 a5 n5 k5 i17,h.row b5 (o5+7) [vI i15,vS l18,vS l19,vI i16,vS l20,vL a5 n5 k5,vI i17]/\
 (tp 27 [vS l1] h fun v_6 h_6=>
 ∃ i18,v_6=vI i18/\
 (h_6.row b5 (o5+7) [vI i15,vS l18,vS l19,vI i16,vS l20,vL a5 n5 k5,vI i17])/\
 (tv [vL a1 n1 dkk1])/\
 (h_6.row b4 o4 [vI i12,vS l15,vS l16,vI i13,vS l17,vL a4 n4 dkk4,vI i14])/\
 (tv [vL a1 n1 dkk1])/\
 ((h_6.row b5 (o5+7) [vI i15,vS l18,vS l19,vI i16,vS l20,vL a5 n5 k5,vI i17])/\
 (tv [vL a1 n1 dkk1])/\
 (h_6.row b4 o4 [vI i12,vS l15,vS l16,vI i13,vS l17,vL a4 n4 dkk4,vI i14])/\
 (tv [vL a1 n1 dkk1])/\
 K163_1 h_6 b5 o5 i15 l18 l19 i16 l20 a5 n5 k5 i17 a1 n1 dkk1 b4 o4 i12 l15 l16 i13 l17 a4 n4 dkk4 i14 l1 i18 Q)/\
 ((h_6.row b5 (o5+7) [vI i15,vS l18,vS l19,vI i16,vS l20,vL a5 n5 k5,vI i17])/\
 (tv [vL a1 n1 dkk1])/\
 (h_6.row b4 o4 [vI i12,vS l15,vS l16,vI i13,vS l17,vL a4 n4 dkk4,vI i14])/\
 (tv [vL a1 n1 dkk1])/\
 K163_1 h_6 b5 o5 i15 l18 l19 i16 l20 a5 n5 k5 i17 a1 n1 dkk1 b4 o4 i12 l15 l16 i13 l17 a4 n4 dkk4 i14 l1 i18 Q))/\
 (K163_3 l1 h b5 o5 i15 l18 l19 i16 l20 a5 n5 k5 i17 a1 n1 dkk1 b4 o4 i12 l15 l16 i13 l17 a4 n4 dkk4 i14 Q)/\
 (K163_3 l1 h b5 o5 i15 l18 l19 i16 l20 a5 n5 k5 i17 a1 n1 dkk1 b4 o4 i12 l15 l16 i13 l17 a4 n4 dkk4 i14 Q)))))))
theorem T163 {i1 l1 l2 i2 l3 a1 n1 dkk1 i3 h Q} (hR:R163 i1 l1 l2 i2 l3 a1 n1 dkk1 i3 h Q):Tri Tryz.prog 163 [vA [vI i1,vS l1,vS l2,vI i2,vS l3,vL a1 n1 dkk1,vI i3]] h Q:=
 tri_of_dn mixed Tryz.func163 rfl (by kernel_rfl) low163 (rs:=[.tmp 2]) (by kernel_rfl) rfl (Eq.mpr (by kernel_rfl) hR)
def d185:DCode:=up ⟨[],[],[(11,70,[(5, .str),(6,qi)],[])]⟩ (lw nf Tryz.f185)
theorem low185:lw nf Tryz.f185=some (eC d185):=by kernel_rfl
def R185 (l1:Bs) (h:PHeap) (Q:Value->PHeap->Prop):Prop:=
 br (decide ((l1.length:Int) > 200))
 (Q (vT [vS [],vI 5]) h)
 (∃ (I_1:Nat->Bs->Int->PHeap->Prop),(∃ m2,I_1 m2 [34] (0:Int) h)/\
 ∀ m1 l2 i1 h_1,I_1 m1 l2 i1 h_1->
 br (decide (i1 < (l1.length:Int)))
 (0<=i1/\∃ c1,(l1)[(i1).toNat]? =some c1/\
 br ((c1.toNat:Int) == 10)
 (l2.length+([92,110]:Bs).length<=9223372036854775807/\
 ∃ m3,m3 < m1/\I_1 m3 (l2++([92,110]:Bs)) (IntKind.i64.wrap (i1+1)) h_1/\
 True)
 (br ((c1.toNat:Int) == 9)
 (l2.length+([92,116]:Bs).length<=9223372036854775807/\
 ∃ m4,m4 < m1/\I_1 m4 (l2++([92,116]:Bs)) (IntKind.i64.wrap (i1+1)) h_1/\
 True)
 (br ((c1.toNat:Int) == 0)
 (l2.length+([92,48]:Bs).length<=9223372036854775807/\
 ∃ m5,m5 < m1/\I_1 m5 (l2++([92,48]:Bs)) (IntKind.i64.wrap (i1+1)) h_1/\
 True)
 (br ((c1.toNat:Int) == 92)
 (l2.length+([92]:Bs).length<=9223372036854775807/\
 alc h_1 [vU (c1.toNat:Int)] 5 fun b1 h_2=>
 ∃ l3,BytesAt h_2 (ad b1 0) 1 l3/\
 (l2++([92]:Bs)).length+l3.length<=9223372036854775807/\
 ∃ m6,m6 < m1/\I_1 m6 ((l2++([92]:Bs))++l3) (IntKind.i64.wrap (i1+1)) h_2/\
 True)
 (br ((c1.toNat:Int) == 34)
 (l2.length+([92]:Bs).length<=9223372036854775807/\
 alc h_1 [vU (c1.toNat:Int)] 5 fun b2 h_3=>
 ∃ l4,BytesAt h_3 (ad b2 0) 1 l4/\
 (l2++([92]:Bs)).length+l4.length<=9223372036854775807/\
 ∃ m7,m7 < m1/\I_1 m7 ((l2++([92]:Bs))++l4) (IntKind.i64.wrap (i1+1)) h_3/\
 True)
 (br (decide ((c1.toNat:Int) < 32))
 (l2.length+([92,120]:Bs).length<=9223372036854775807/\
 (0<=(IntKind.u8.wrap (Int.tdiv (c1.toNat:Int) 16))/\(IntKind.u8.wrap (Int.tdiv (c1.toNat:Int) 16))<=(IntKind.u8.wrap ((IntKind.u8.wrap (Int.tdiv (c1.toNat:Int) 16))+1))/\(IntKind.u8.wrap ((IntKind.u8.wrap (Int.tdiv (c1.toNat:Int) 16))+1))<=(16:Int))/\
 (l2++([92,120]:Bs)).length+((([48,49,50,51,52,53,54,55,56,57,97,98,99,100,101,102]:Bs).drop (IntKind.u8.wrap (Int.tdiv (c1.toNat:Int) 16)).toNat).take ((IntKind.u8.wrap ((IntKind.u8.wrap (Int.tdiv (c1.toNat:Int) 16))+1)).toNat - (IntKind.u8.wrap (Int.tdiv (c1.toNat:Int) 16)).toNat)).length<=9223372036854775807/\
 (0<=(Int.tmod (c1.toNat:Int) 16)/\(Int.tmod (c1.toNat:Int) 16)<=(IntKind.u8.wrap ((Int.tmod (c1.toNat:Int) 16)+1))/\(IntKind.u8.wrap ((Int.tmod (c1.toNat:Int) 16)+1))<=(16:Int))/\
 ((l2++([92,120]:Bs))++((([48,49,50,51,52,53,54,55,56,57,97,98,99,100,101,102]:Bs).drop (IntKind.u8.wrap (Int.tdiv (c1.toNat:Int) 16)).toNat).take ((IntKind.u8.wrap ((IntKind.u8.wrap (Int.tdiv (c1.toNat:Int) 16))+1)).toNat - (IntKind.u8.wrap (Int.tdiv (c1.toNat:Int) 16)).toNat))).length+((([48,49,50,51,52,53,54,55,56,57,97,98,99,100,101,102]:Bs).drop (Int.tmod (c1.toNat:Int) 16).toNat).take ((IntKind.u8.wrap ((Int.tmod (c1.toNat:Int) 16)+1)).toNat - (Int.tmod (c1.toNat:Int) 16).toNat)).length<=9223372036854775807/\
 ∃ m8,m8 < m1/\I_1 m8 (((l2++([92,120]:Bs))++((([48,49,50,51,52,53,54,55,56,57,97,98,99,100,101,102]:Bs).drop (IntKind.u8.wrap (Int.tdiv (c1.toNat:Int) 16)).toNat).take ((IntKind.u8.wrap ((IntKind.u8.wrap (Int.tdiv (c1.toNat:Int) 16))+1)).toNat - (IntKind.u8.wrap (Int.tdiv (c1.toNat:Int) 16)).toNat)))++((([48,49,50,51,52,53,54,55,56,57,97,98,99,100,101,102]:Bs).drop (Int.tmod (c1.toNat:Int) 16).toNat).take ((IntKind.u8.wrap ((Int.tmod (c1.toNat:Int) 16)+1)).toNat - (Int.tmod (c1.toNat:Int) 16).toNat))) (IntKind.i64.wrap (i1+1)) h_1/\
 True)
 (br (decide ((c1.toNat:Int) > 126))
 (l2.length+([92,120]:Bs).length<=9223372036854775807/\
 (0<=(IntKind.u8.wrap (Int.tdiv (c1.toNat:Int) 16))/\(IntKind.u8.wrap (Int.tdiv (c1.toNat:Int) 16))<=(IntKind.u8.wrap ((IntKind.u8.wrap (Int.tdiv (c1.toNat:Int) 16))+1))/\(IntKind.u8.wrap ((IntKind.u8.wrap (Int.tdiv (c1.toNat:Int) 16))+1))<=(16:Int))/\
 (l2++([92,120]:Bs)).length+((([48,49,50,51,52,53,54,55,56,57,97,98,99,100,101,102]:Bs).drop (IntKind.u8.wrap (Int.tdiv (c1.toNat:Int) 16)).toNat).take ((IntKind.u8.wrap ((IntKind.u8.wrap (Int.tdiv (c1.toNat:Int) 16))+1)).toNat - (IntKind.u8.wrap (Int.tdiv (c1.toNat:Int) 16)).toNat)).length<=9223372036854775807/\
 (0<=(Int.tmod (c1.toNat:Int) 16)/\(Int.tmod (c1.toNat:Int) 16)<=(IntKind.u8.wrap ((Int.tmod (c1.toNat:Int) 16)+1))/\(IntKind.u8.wrap ((Int.tmod (c1.toNat:Int) 16)+1))<=(16:Int))/\
 ((l2++([92,120]:Bs))++((([48,49,50,51,52,53,54,55,56,57,97,98,99,100,101,102]:Bs).drop (IntKind.u8.wrap (Int.tdiv (c1.toNat:Int) 16)).toNat).take ((IntKind.u8.wrap ((IntKind.u8.wrap (Int.tdiv (c1.toNat:Int) 16))+1)).toNat - (IntKind.u8.wrap (Int.tdiv (c1.toNat:Int) 16)).toNat))).length+((([48,49,50,51,52,53,54,55,56,57,97,98,99,100,101,102]:Bs).drop (Int.tmod (c1.toNat:Int) 16).toNat).take ((IntKind.u8.wrap ((Int.tmod (c1.toNat:Int) 16)+1)).toNat - (Int.tmod (c1.toNat:Int) 16).toNat)).length<=9223372036854775807/\
 ∃ m9,m9 < m1/\I_1 m9 (((l2++([92,120]:Bs))++((([48,49,50,51,52,53,54,55,56,57,97,98,99,100,101,102]:Bs).drop (IntKind.u8.wrap (Int.tdiv (c1.toNat:Int) 16)).toNat).take ((IntKind.u8.wrap ((IntKind.u8.wrap (Int.tdiv (c1.toNat:Int) 16))+1)).toNat - (IntKind.u8.wrap (Int.tdiv (c1.toNat:Int) 16)).toNat)))++((([48,49,50,51,52,53,54,55,56,57,97,98,99,100,101,102]:Bs).drop (Int.tmod (c1.toNat:Int) 16).toNat).take ((IntKind.u8.wrap ((Int.tmod (c1.toNat:Int) 16)+1)).toNat - (Int.tmod (c1.toNat:Int) 16).toNat))) (IntKind.i64.wrap (i1+1)) h_1/\
 True)
 (alc h_1 [vU (c1.toNat:Int)] 5 fun b3 h_4=>
 ∃ l5,BytesAt h_4 (ad b3 0) 1 l5/\
 l2.length+l5.length<=9223372036854775807/\
 ∃ m10,m10 < m1/\I_1 m10 (l2++l5) (IntKind.i64.wrap (i1+1)) h_4/\
 True))))))))
 (l2.length+([34]:Bs).length<=9223372036854775807/\
 Q (vT [vS (l2++([34]:Bs)),vI 0]) h_1))
theorem T185 {l1 h Q} (hR:R185 l1 h Q):Tri Tryz.prog 185 [vS l1] h Q:=
 tri_of_dn mixed Tryz.func185 rfl (by kernel_rfl) low185 (rs:=[.tmp 2, .tmp 3]) (by kernel_rfl) rfl (Eq.mpr (by kernel_rfl) hR)
def d186:DCode:=up ⟨[(6, .l dkk4),(7, .c (.one false [.str])),(10, .l dkk4),(11, .c (.one false [.str]))],[],[]⟩ (lw nf Tryz.f186)
theorem low186:lw nf Tryz.f186=some (eC d186):=by kernel_rfl
def R186 (i1:Int) (l1 l2:Bs) (i2:Int) (l3:Bs) (a1:OA) (n1 dkk1:Nat) (i3:Int) (c1:Bool) (h:PHeap) (Q:Value->PHeap->Prop):Prop:=
 br c1
 (tp 163 [vA [vI i1,vS l1,vS l2,vI i2,vS l3,vL a1 n1 dkk1,vI i3]] h fun v_1 h_1=>
 ∃ l4,v_1=vS l4/\
 ([40]:Bs).length+l4.length<=9223372036854775807/\
 (([40]:Bs)++l4).length+([41]:Bs).length<=9223372036854775807/\
 Q (vS ((([40]:Bs)++l4)++([41]:Bs))) h_1)
 (tp 163 [vA [vI i1,vS l1,vS l2,vI i2,vS l3,vL a1 n1 dkk1,vI i3]] h fun v_2 h_2=>
 ∃ l5,v_2=vS l5/\
 Q (vS l5) h_2)
theorem T186 {i1 l1 l2 i2 l3 a1 n1 dkk1 i3 c1 h Q} (hR:R186 i1 l1 l2 i2 l3 a1 n1 dkk1 i3 c1 h Q):Tri Tryz.prog 186 [vA [vI i1,vS l1,vS l2,vI i2,vS l3,vL a1 n1 dkk1,vI i3],vB c1] h Q:=
 tri_of_dn mixed Tryz.func186 rfl (by kernel_rfl) low186 (rs:=[.tmp 4]) (by kernel_rfl) rfl (Eq.mpr (by kernel_rfl) hR)
def d12:DCode:=up ⟨[(16, .c (.one false [.str])),(19, .c (.tup [(true,[.slice, .slice]),(false,[qi]),(false,[qi])])),(23, .c (.one false [.bool])),(29, .c (.one false [.bool])),(32, .c (.tup [(true,[.slice, .slice]),(false,[qi]),(false,[qi]),(false,[qi])])),(37, .l [.slice, .slice]),(38, .c (.one false [.str])),(41, .c (.tup [(true,[.slice, .slice]),(false,[qi]),(false,[qi]),(false,[qi])])),(50, .l [.slice, .slice]),(51, .c (.one false [.str])),(59, .l [.slice, .slice]),(60, .l [.slice, .slice]),(61, .c (.one false [.bool])),(64, .l [.slice, .slice]),(65, .l [.slice, .slice]),(66, .c (.one false [.bool])),(69, .l [.slice, .slice]),(70, .c (.one false [.str]))],[],[]⟩ (lw nf Tryz.f12)
theorem low12:lw nf Tryz.f12=some (eC d12):=by kernel_rfl
def R12 (l1:Bs) (h:PHeap) (Q:Value->PHeap->Prop):Prop:=
 tp 13 [vS l1] h fun v_1 h_1=>
 ∃ l2,v_1=vS l2/\
 tp 15 [vS l2] h_1 fun v_2 h_2=>
 ∃ a1 n1 dkk1 a2 n2 dkk2 i1 i2,v_2=vT [vA [vL a1 n1 dkk1,vL a2 n2 dkk2],vI i1,vI i2]/\
 tp 16 [] h_2 fun v_3 h_3=>
 ∃ c1,v_3=vB c1/\
 br (!c1)
 (tp 16 [] h_3 fun v_4 h_4=>
 ∃ c2,v_4=vB c2/\
 Q (vB c2) h_4)
 (br (i2 != 0)
 (tp 16 [] h_3 fun v_5 h_5=>
 ∃ c3,v_5=vB c3/\
 Q (vB c3) h_5)
 (tp 14 [vS l2] h_3 fun v_6 h_6=>
 ∃ a3 n3 dkk3 a4 n4 dkk4 i3 i4 i5,v_6=vT [vA [vL a3 n3 dkk3,vL a4 n4 dkk4],vI i3,vI i4,vI i5]/\
 tp 33 [vA [vL a3 n3 dkk3,vL a4 n4 dkk4]] h_6 fun v_7 h_7=>
 ∃ l3,v_7=vS l3/\
 tp 14 [vS l3] h_7 fun v_8 h_8=>
 ∃ a5 n5 k5 a6 n6 k6 i6 i7 i8,v_8=vT [vA [vL a5 n5 k5,vL a6 n6 k6],vI i6,vI i7,vI i8]/\
 br (i5 == 0)
 (tp 34 [vA [vL a1 n1 dkk1,vL a2 n2 dkk2]] h_8 fun v_9 h_9=>
 ∃ l4,v_9=vS l4/\
 br (l3 == l4)
 (br (i8 == 0)
 (tp 18 [vA [vL a5 n5 k5,vL a6 n6 k6],vA [vL a1 n1 dkk1,vL a2 n2 dkk2], .pointer none] h_9 fun v_10 h_10=>
 ∃ c4,v_10=vB c4/\
 br c4
 (tp 32 [vA [vL a3 n3 dkk3,vL a4 n4 dkk4],vA [vL a5 n5 k5,vL a6 n6 k6]] h_10 fun v_11 h_11=>
 ∃ c5,v_11=vB c5/\
 br c5
 (tp 33 [vA [vL a5 n5 k5,vL a6 n6 k6]] h_11 fun v_12 h_12=>
 ∃ l5,v_12=vS l5/\
 Q (vB (l5 == l3)) h_12)
 (Q (vB false) h_11))
 (Q (vB false) h_10))
 (Q (vB false) h_9))
 (Q (vB false) h_9))
 (Q (vB false) h_8)))
theorem T12 {l1 h Q} (hR:R12 l1 h Q):Tri Tryz.prog 12 [vS l1] h Q:=
 tri_of_dn mixed Tryz.func12 rfl (by kernel_rfl) low12 (rs:=[.tmp 2]) (by kernel_rfl) rfl (Eq.mpr (by kernel_rfl) hR)
end
end Go.Proofs.D
namespace Go.Proofs.D
open Go Go.Den Go.Sx
set_option maxRecDepth 100000
theorem ten_l:∀ r:Fin 10,(([48,49,50,51,52,53,54,55,56,57]:Bytes).drop r.val).take (r.val+1 - r.val)=[UInt8.ofNat (48+r.val)]:=by decide+kernel
theorem hexs:∀ r:Fin 16,(([48,49,50,51,52,53,54,55,56,57,97,98,99,100,101,102]:Bytes).drop r.val).take (r.val+1 - r.val)=[hexD r.val]:=by decide+kernel
theorem u8w:∀ r:Fin 256,IntKind.u8.wrap (r.val:Int)=(r.val:Int):=by decide+kernel
attribute [local irreducible] IntKind.wrap Tri
theorem digits_r (n:Nat) (hn:n<=9223372036854775807) (h:PHeap):Tri Tryz.prog 84 [vI n] h fun v h'=>v=vS (digs n)/\h'=h:=by
 have hlen:∀ n,(digs n).length<=n+1:=by
  intro n
  induction n using Nat.strongRecOn with
  | ind n ih=>
    rw [digs]
    split
    . simp
    . have:=ih (n / 10) (by omega)
      rw [List.length_append,List.length_cons,List.length_nil];omega
 refine T84 ?_
 unfold R84
 refine ⟨fun m s i h'=>∃ j:Nat,i=j/\j=m/\j<=n/\digs j++s=digs n/\(digs n).length=(digs j).length+s.length/\h'=h,⟨n,n,rfl,rfl,Nat.le_refl _,by simp,by simp,rfl⟩,?_⟩
 rintro m s _ h1 ⟨j,rfl,hjm,hjn,hs,hsl,rfl⟩
 subst hjm
 have hm:j % 10 < 10:=Nat.mod_lt _ (by decide)
 have e1:Int.tmod ((j:Nat):Int) 10=((j % 10:Nat):Int):=by rw [Int.tmod_eq_emod_of_nonneg (by omega)];rfl
 have e2:Int.tdiv ((j:Nat):Int) 10=((j / 10:Nat):Int):=by rw [Int.tdiv_eq_ediv_of_nonneg (by omega)];rfl
 have hsl2:s.length<=9223372036854775806:=by
  have h1:20≥(digs n).length:=by
   have key:∀ k n:Nat,n < 10 ^ (k+1)->(digs n).length<=k+1:=by
    intro k
    induction k with
    | zero=>intro n hn;rw [digs,if_pos (by simpa using hn)];simp
    | succ k ih=>
      intro n hn
      rw [digs]
      split
      . simp
      . have:=ih (n / 10) (by rw [Nat.pow_succ] at hn;omega)
        rw [List.length_append,List.length_cons,List.length_nil];omega
   exact key 19 n (by omega)
  omega
 rw [e1,e2,wrap64 (show -9223372036854775808<=((j % 10:Nat):Int)+1 by omega) (by omega),wrap64 (show -9223372036854775808<=((j / 10:Nat):Int) by omega) (by omega),show (((j % 10:Nat):Int)+1).toNat=j % 10+1 by omega,Int.toNat_natCast]
 have ht:=ten_l ⟨j % 10,hm⟩
 simp only at ht
 rw [ht]
 refine ⟨⟨by omega,by omega,by omega⟩,by simp;omega,?_⟩
 refine br_split (fun e=>?_) (fun e=>?_)
 . have e:j < 10:=by have:=beq_iff_eq.1 e;omega
   refine ⟨?_,rfl⟩
   rw [←hs,digs,if_pos e,Nat.mod_eq_of_lt e]
 . have e:¬ j < 10:=fun q=>by
    have:j / 10=0:=by omega
    rw [this] at e;cases e
   have hd:digs j=digs (j / 10)++[UInt8.ofNat (48+j % 10)]:=by rw [digs,if_neg e]
   refine ⟨j / 10,by omega,⟨j / 10,rfl,rfl,by omega,?_,?_,rfl⟩,trivial⟩
   . rw [←hs,hd];simp
   . rw [hsl,hd];simp;omega
theorem tabB_snoc (n:Nat):tabB n++[9]=tabB (n+1):=by
 induction n with
 | zero=>rfl
 | succ n ih=>rw [tabB,List.cons_append,ih];rfl
theorem tabs_r (n:Nat) (hn:n<=100000) (h:PHeap):Tri Tryz.prog 129 [vI n] h fun v h'=>v=vS (tabB n)/\h'=h:=by
 refine T129 ?_
 unfold R129
 have hlen:∀ n,(tabB n).length=n:=by
  intro n
  induction n with
  | zero=>rfl
  | succ n ih=>rw [tabB,List.length_cons,ih]
 refine ⟨fun m s i h'=>∃ j:Nat,i=j/\j+m=n/\s=tabB j/\h'=h,⟨n,0,rfl,by omega,rfl,rfl⟩,?_⟩
 rintro m s _ h1 ⟨j,rfl,hjm,rfl,rfl⟩
 refine br_split (fun e=>?_) (fun e=>?_)
 . have e:j < n:=by have:=of_decide_eq_true e;omega
   refine ⟨by have:=hlen j;simp;omega,m - 1,by omega,⟨j+1,?_,by omega,tabB_snoc j,rfl⟩,trivial⟩
   rw [wrap64 (by omega) (by omega)];rfl
 . have e:j=n:=by have:=of_decide_eq_false e;omega
   subst e
   exact ⟨rfl,rfl⟩
theorem hexs_ok (c:UInt8) (r:Nat) (hr:r < 16):(0<=((r:Nat):Int)/\((r:Nat):Int)<=(IntKind.u8.wrap (((r:Nat):Int)+1))/\(IntKind.u8.wrap (((r:Nat):Int)+1))<=(16:Int))/\
 (([48,49,50,51,52,53,54,55,56,57,97,98,99,100,101,102]:Bs).drop ((r:Nat):Int).toNat).take ((IntKind.u8.wrap (((r:Nat):Int)+1)).toNat - ((r:Nat):Int).toNat)=[hexD r]:=by
 have:=u8w ⟨r+1,by omega⟩
 simp only at this
 rw [show (((r:Nat):Int)+1)=((r+1:Nat):Int) from rfl,this,Int.toNat_natCast,Int.toNat_natCast]
 exact ⟨⟨by omega,by omega,by omega⟩,hexs ⟨r,hr⟩⟩
theorem quote_r (s:Bytes) (hl:s.length<=200) (h:PHeap):Tri Tryz.prog 185 [vS s] h fun v h'=>v=vT [vS (quoteS s),vI 0]/\Ext h h':=by
 refine T185 ?_
 unfold R185
 refine br_neg (by simp;omega) ?_
 refine ⟨fun m t i h'=>∃ j:Nat,i=j/\j+m=s.length/\t=34::qcs (s.take j)/\Ext h h',⟨s.length,0,rfl,by omega,rfl,Ext.refl _⟩,?_⟩
 rintro m t _ h2 ⟨j,rfl,hjm,ht,hx⟩
 have h4:=qcs_len4 (s.take j)
 rw [List.length_take] at h4
 have htl:t.length<=100000:=by rw [ht,List.length_cons];omega
 refine br_split (fun e=>?_) (fun e=>?_)
 . have hj:j < s.length:=by have:=of_decide_eq_true e;omega
   refine ⟨by omega,s[j],by rw [Int.toNat_natCast];exact List.getElem?_eq_getElem hj,?_⟩
   have htake:qcs (s.take (j+1))=qcs (s.take j)++qc s[j]:=by
    rw [←List.take_append_getElem hj,qcs_app]
    simp [qcs]
   generalize s[j]=c at *
   have hc:=c.toNat_lt
   have next:∀ (t':Bytes) (h3:PHeap),t'=t++qc c->Ext h2 h3->
    ∃ (m3:Nat),m3 < m/\(∃ j':Nat,IntKind.i64.wrap ((j:Nat)+1)=j'/\j'+m3=s.length/\t'=34::qcs (s.take j')/\Ext h h3)/\True:=by
    rintro t' h3 rfl hx3
    refine ⟨m - 1,by omega,⟨j+1,?_,by omega,?_,hx.trans hx3⟩,trivial⟩
    . rw [wrap64 (by omega) (by omega)];rfl
    . rw [htake,ht];rfl
   refine br_split (fun e1=>?_) (fun e1=>?_)
   . have e1:c=10:=by rw [show (10:Int)=((10:UInt8).toNat:Int) from rfl,u8_beq] at e1;simpa using e1
     subst e1
     exact ⟨by simp;omega,next _ _ rfl (Ext.refl _)⟩
   have n10:(c == 10)=false:=by rw [show (10:Int)=((10:UInt8).toNat:Int) from rfl,u8_beq] at e1;exact e1
   refine br_split (fun e2=>?_) (fun e2=>?_)
   . have e2:c=9:=by rw [show (9:Int)=((9:UInt8).toNat:Int) from rfl,u8_beq] at e2;simpa using e2
     subst e2
     exact ⟨by simp;omega,next _ _ rfl (Ext.refl _)⟩
   have n9:(c == 9)=false:=by rw [show (9:Int)=((9:UInt8).toNat:Int) from rfl,u8_beq] at e2;exact e2
   refine br_split (fun e3=>?_) (fun e3=>?_)
   . have e3:c=0:=by rw [show (0:Int)=((0:UInt8).toNat:Int) from rfl,u8_beq] at e3;simpa using e3
     subst e3
     exact ⟨by simp;omega,next _ _ rfl (Ext.refl _)⟩
   have n0:(c == 0)=false:=by rw [show (0:Int)=((0:UInt8).toNat:Int) from rfl,u8_beq] at e3;exact e3
   have byt:∀ b2 h3,h2 b2=none->h3=h2.put b2 (.cells ⟨[vU (c.toNat:Int)]⟩ 5)->BytesAt h3 (ad b2 0) 1 [c]/\Ext h2 h3:=by
    intro b2 h3 hb hh3
    refine ⟨.inr ⟨b2,0,rfl,rfl,row_lit (Put.at hh3) fun i v hv=>?_⟩,Put.ext hh3 hb⟩
    rw [Nat.zero_add];exact hv
   refine br_split (fun e4=>?_) (fun e4=>?_)
   . have e4:c=92:=by rw [show (92:Int)=((92:UInt8).toNat:Int) from rfl,u8_beq] at e4;simpa using e4
     subst e4
     refine ⟨by simp;omega,fun b2 hb h3 hh3=>⟨_,(byt b2 h3 hb hh3).1,by simp;omega,next _ _ (by simp [qc]) (byt b2 h3 hb hh3).2⟩⟩
   have n92:(c == 92)=false:=by rw [show (92:Int)=((92:UInt8).toNat:Int) from rfl,u8_beq] at e4;exact e4
   refine br_split (fun e5=>?_) (fun e5=>?_)
   . have e5:c=34:=by rw [show (34:Int)=((34:UInt8).toNat:Int) from rfl,u8_beq] at e5;simpa using e5
     subst e5
     refine ⟨by simp;omega,fun b2 hb h3 hh3=>⟨_,(byt b2 h3 hb hh3).1,by simp;omega,next _ _ (by simp [qc]) (byt b2 h3 hb hh3).2⟩⟩
   have n34:(c == 34)=false:=by rw [show (34:Int)=((34:UInt8).toNat:Int) from rfl,u8_beq] at e5;exact e5
   have d1:IntKind.u8.wrap (Int.tdiv (c.toNat:Int) 16)=((c.toNat / 16:Nat):Int):=by
    rw [Int.tdiv_eq_ediv_of_nonneg (by omega)]
    exact u8w ⟨c.toNat / 16,by omega⟩
   have d2:Int.tmod (c.toNat:Int) 16=((c.toNat % 16:Nat):Int):=by rw [Int.tmod_eq_emod_of_nonneg (by omega)];rfl
   obtain ⟨x1,x2⟩:=hexs_ok c (c.toNat / 16) (by omega)
   obtain ⟨x3,x4⟩:=hexs_ok c (c.toNat % 16) (by omega)
   rw [d1,d2,x2,x4]
   have qhex:(c.toNat < 32∨126 < c.toNat)->qc c=[92,120,hexD (c.toNat / 16),hexD (c.toNat % 16)]:=by
    intro hc
    unfold qc
    rw [n10,n9,n0,n92,n34]
    simp only [Bool.or_false,Bool.false_eq_true,if_false]
    rw [if_pos (by simpa using hc)]
   refine br_split (fun e6=>?_) (fun e6=>?_)
   . have e6:c.toNat < 32:=by have:=of_decide_eq_true e6;omega
     exact ⟨by simp;omega,x1,by simp;omega,x3,by simp;omega,next _ _ (by rw [qhex (.inl e6)];simp) (Ext.refl _)⟩
   refine br_split (fun e7=>?_) (fun e7=>?_)
   . have e7:126 < c.toNat:=by have:=of_decide_eq_true e7;omega
     exact ⟨by simp;omega,x1,by simp;omega,x3,by simp;omega,next _ _ (by rw [qhex (.inr e7)];simp) (Ext.refl _)⟩
   . have e6:32<=c.toNat:=by have:=of_decide_eq_false e6;omega
     have e7:c.toNat<=126:=by have:=of_decide_eq_false e7;omega
     refine fun b2 hb h3 hh3=>⟨_,(byt b2 h3 hb hh3).1,by simp;omega,next _ _ ?_ (byt b2 h3 hb hh3).2⟩
     unfold qc
     rw [n10,n9,n0,n92,n34]
     simp only [Bool.or_false,Bool.false_eq_true,if_false]
     rw [if_neg (by simp;omega)]
 . have hj:s.length<=j:=by have:=of_decide_eq_false e;omega
   refine ⟨by simp;omega,?_,hx⟩
   rw [ht,List.take_of_length_le hj]
   rfl
end Go.Proofs.D
namespace Go.Proofs.D
open Go Go.Den Go.Sx
set_option maxRecDepth 100000
attribute [local irreducible] IntKind.wrap Tri
theorem Ext.only {D:Nat->Prop} {h h':PHeap} (x:Ext h h'):Ext (only D h) (Go.Proofs.D.only D h'):=only_ext fun k o hn hk=>⟨hn,x k o hk⟩
def plR (n:Nat):List Value:=[vI n]
structure DC where
 kind:Int
 op:List UInt8
 name:List UInt8
 value:Int
 text:List UInt8
 aa:Option Addr
 an:Nat
 ac:Nat
 pos:Int
def DC.l (c:DC):List Value:=[vI c.kind,vS c.op,vS c.name,vI c.value,vS c.text,vL c.aa c.an c.ac,vI c.pos]
theorem DC.one (c:DC):allOne c.l=true:=rfl
def REx (K:QK) (h:PHeap) (r:R E) (v:Value) (h':PHeap):Prop:=
 ∃ (x':XC) (c:DC),v=vT [vA x'.l,vA c.l]/\Ext h h'/\XX K x' r fun e=>RE plR 7 (only (New h) h') e c.l
def RLs (K:QK) (h:PHeap) (r:R (List E)) (v:Value) (h':PHeap):Prop:=
 ∃ (x':XC) (a:Option Addr) (n c:Nat),v=vT [vA x'.l,vL a n c]/\Ext h h'/\XX K x' r fun l=>n=l.length/\At 7 (RE plR 7) (only (New h) h') a l
section
variable {K : QK} {x : XC} {h : PHeap} {ts : List Tok} {d : Int}
theorem REx.after {h1 h2:PHeap} {r:R E} {v:Value} (hx:Ext h h1) (hE:REx K h1 r v h2):REx K h r v h2:=by
 obtain ⟨x',c,rfl,hx2,hX⟩:=hE
 exact ⟨x',c,rfl,hx.trans hx2,hX.mono fun e he=>he.ext (only_new hx.dom)⟩
theorem XS.adv1 {α β:Type} {y:α} {z:β} (hx:XS K x (.ok (y,ts,d):R α)) (hI:K.In h) (hk:(hd ts).kind≠0):
 XS K ⟨x.ta,x.tn,x.tc,IntKind.i64.wrap (x.i+1),x.op,x.err,x.bad⟩ (.ok (z,ts.tail,d):R β):=by
 have hlo:=hx.low hk
 have:=hx.adv (z:=z) hI hk (d':=d) (by omega) (by omega)
 rw [hlo.2.2.1];exact this
theorem pUn_succ (f:Nat) (ts:List Tok) (d:Int):pUn (f+1) ts d=if isT ts [45] || isT ts [33] || isT ts [126] then
 bindR (pUn f ts.tail d) fun e ts' d'=> .ok (.mk 6 (hd ts).text [] 0 [] [e] (hd ts).pos,ts',d')
 else pPrim f ts d:=by conv=>lhs;unfold pUn
theorem pPrim_succ (f:Nat) (ts:List Tok) (d:Int):pPrim (f+1) ts d=if isK ts 2 then .ok (.mk 1 [] [] (hd ts).value [] [] (hd ts).pos,ts.tail,d)
 else if isK ts 3 then .ok (.mk 2 [] [] 0 (hd ts).bytes [] (hd ts).pos,ts.tail,d)
 else if isK ts 1 then pName f ts d
 else bindR (takeT [40] ts d) fun _ ts d=>bindR (pBin f 1 ts d) fun e ts d=>bindR (takeT [41] ts d) fun _ ts d=> .ok (e,ts,d):=by conv=>lhs;unfold pPrim
theorem pName_succ (f:Nat) (ts:List Tok) (d:Int):pName (f+1) ts d=if isT ts.tail [40] then pCall f (hd ts) ts.tail d
 else if isT ts.tail [91] then bindR (takeT [91] ts.tail d) fun _ ts' d=>bindR (pBin f 1 ts' d) fun e ts' d=>bindR (takeT [93] ts' d) fun _ ts' d=>
  .ok (.mk 4 [] (hd ts).text 0 [] [e] (hd ts).pos,ts',d)
 else .ok (.mk 3 [] (hd ts).text 0 [] [] (hd ts).pos,ts.tail,d):=by conv=>lhs;unfold pName
theorem pCall_succ (f:Nat) (t:Tok) (ts:List Tok) (d:Int):pCall (f+1) t ts d=bindR (takeT [40] ts d) fun _ ts d=>bindR (pArgs f ts d) fun l ts d=>bindR (takeT [41] ts d) fun _ ts d=> .ok (.mk 5 [] t.text 0 [] l t.pos,ts,d):=by conv=>lhs;unfold pCall
theorem pBin_succ (f lv:Nat) (ts:List Tok) (d:Int):pBin (f+1) lv ts d=if lv=11 then pUn f ts d else bindR (pBin f (lv+1) ts d) fun e ts d=>pLoop f lv e ts d:=by conv=>lhs;unfold pBin
def pArgL (f:Nat) (ts:List Tok) (d:Int):R (List E):=bindR (takeT [40] ts d) fun _ ts d=>bindR (pArgs f ts d) fun l ts d=>bindR (takeT [41] ts d) fun _ ts d=> .ok (l,ts,d)
theorem pCall_args (f:Nat) (t:Tok) (ts:List Tok) (d:Int):pCall (f+1) t ts d=mapR (fun l=> .mk 5 [] t.text 0 [] l t.pos) (pArgL f ts d):=by
 rw [pCall_succ];simp only [mapR,pArgL,bindR_bind,bindR_ok]
theorem prim_er {e:Nat×Nat} (hx:XS K x (.error e:R Unit)) (hI:K.In h):Tri Tryz.prog 194 [vA x.l] h (REx K h (.error e)):=by
 refine T194 ?_
 unfold R194
 obtain ⟨t,ht1,ht2,ht3,_⟩:=hx.tok hI
 refine ⟨K.tb,0,ht1,ht2,_,_,_,_,_,ht3,?_⟩
 refine Tri.mono (kind_r hx hI 2) ?_
 rintro _ h ⟨rfl,rfl⟩
 refine ⟨_,rfl,br_neg rfl ?_⟩
 refine Tri.mono (kind_r hx hI 3) ?_
 rintro _ h ⟨rfl,rfl⟩
 refine ⟨_,rfl,br_neg rfl ?_⟩
 refine Tri.mono (isw_r hx hI [40]) ?_
 rintro _ h ⟨rfl,rfl⟩
 refine ⟨_,rfl,br_neg rfl ?_⟩
 refine Tri.mono (ident_r hx hI) ?_
 rintro _ h ⟨rfl,x',nm,pos,rfl,hx'⟩
 have hx1:XS K x' (.error e:R Unit):=hx'.1
 refine ⟨_,_,_,_,_,_,_,_,_,rfl,?_⟩
 refine Tri.mono (isw_r hx1 hI [40]) ?_
 rintro _ h ⟨rfl,rfl⟩
 refine ⟨_,rfl,br_neg rfl ?_⟩
 refine Tri.mono (isw_r hx1 hI [91]) ?_
 rintro _ h ⟨rfl,rfl⟩
 exact ⟨_,rfl,br_neg rfl ⟨x',⟨3,[],nm,0,[],none,0,0,pos⟩,rfl,Ext.refl _,XX.er hx1⟩⟩
theorem un_er {e:Nat×Nat} (hx:XS K x (.error e:R Unit)) (hI:K.In h):Tri Tryz.prog 174 [vA x.l] h (REx K h (.error e)):=by
 refine T174 ?_
 unfold R174
 refine Tri.mono (isw_r hx hI [45]) ?_
 rintro _ h ⟨rfl,rfl⟩
 refine ⟨_,rfl,br_neg rfl ?_⟩
 refine Tri.mono (isw_r hx hI [33]) ?_
 rintro _ h ⟨rfl,rfl⟩
 refine ⟨_,rfl,br_neg rfl ?_⟩
 refine Tri.mono (isw_r hx hI [126]) ?_
 rintro _ h ⟨rfl,rfl⟩
 refine ⟨_,rfl,br_neg rfl ?_⟩
 refine Tri.mono (prim_er hx hI) ?_
 rintro _ h2 hE
 have hE':=hE
 obtain ⟨x',c,rfl,_,_⟩:=hE
 exact ⟨_,_,_,_,_,_,_,_,_,_,_,_,_,_,_,_,rfl,hE'⟩
theorem bin_er {e:Nat×Nat}:∀ (n lv:Nat) {x:XC} {h:PHeap},lv+n=11->XS K x (.error e:R Unit)->K.In h->Tri Tryz.prog 142 [vA x.l,vI lv] h (REx K h (.error e)):=by
 intro n
 induction n with
 | zero=>
   intro lv x h hlv hx hI
   refine T142 ?_
   unfold R142
   refine br_pos (decide_eq_true (by omega)) ?_
   refine Tri.mono (un_er hx hI) ?_
   rintro _ h2 hE
   have hE':=hE
   obtain ⟨x',c,rfl,_,_⟩:=hE
   exact ⟨_,_,_,_,_,_,_,_,_,_,_,_,_,_,_,_,rfl,hE'⟩
 | succ n ih=>
   intro lv x h hlv hx hI
   refine T142 ?_
   unfold R142
   refine br_neg (decide_eq_false (by omega)) ?_
   have hw:IntKind.i64.wrap ((lv:Int)+1)=((lv+1:Nat):Int):=by rw [wrap64 (by omega) (by omega)];rfl
   rw [hw]
   refine Tri.mono (ih (lv+1) (by omega) hx hI) ?_
   rintro _ h2 ⟨x',c,rfl,hx2,hX⟩
   refine ⟨_,_,_,_,_,_,_,_,_,_,_,_,_,_,_,_,rfl,?_⟩
   refine ⟨fun m a1 a2 a3 a4 a5 a6 a7 b1 b2 b3 b4 b5 b6 b7 b8 b9 h'=>h'=h2/\XS K ⟨a1,a2,a3,a4,a5,a6,a7⟩ (.error e:R Unit),⟨0,rfl,hX.1⟩,?_⟩
   rintro m a1 a2 a3 a4 a5 a6 a7 b1 b2 b3 b4 b5 b6 b7 b8 b9 h2 ⟨rfl,hx3⟩
   refine br_neg hx3.err0 ⟨rfl,⟨a1,a2,a3,a4,a5,a6,a7⟩,⟨b1,b2,b3,b4,b5,b6,b7,b8,b9⟩,rfl,hx2,XX.er hx3⟩
theorem args_er {e:Nat×Nat} (hx:XS K x (.error e:R Unit)) (hI:K.In h):Tri Tryz.prog 144 [vA x.l] h (RLs K h (.error e)):=by
 refine T144 ?_
 unfold R144
 refine Tri.mono (takew_r hx hI [40]) ?_
 rintro _ h ⟨rfl,x1,rfl,hx1⟩
 have hx1:XS K x1 (.error e:R Unit):=hx1
 refine ⟨_,_,_,_,_,_,_,rfl,?_⟩
 refine Tri.mono (isw_r hx1 hI [41]) ?_
 rintro _ h ⟨rfl,rfl⟩
 refine ⟨_,rfl,br_pos rfl (br_neg hx1.err0 ?_)⟩
 refine Tri.mono (takew_r hx1 hI [41]) ?_
 rintro _ h ⟨rfl,x2,rfl,hx2⟩
 exact ⟨_,_,_,_,_,_,_,rfl,x2,none,0,0,rfl,Ext.refl _,XX.er hx2⟩
structure YOk (K:QK) (f:Nat):Prop where
 bin:∀ (lv:Nat) (ts:List Tok) (d:Int) (x:XC) (h:PHeap),lv<=11->K.In h->XS K x (.ok ((),ts,d):R Unit)->NF (pBin f lv ts d)->Tri Tryz.prog 142 [vA x.l,vI lv] h (REx K h (pBin f lv ts d))
 un:∀ (ts:List Tok) (d:Int) (x:XC) (h:PHeap),K.In h->XS K x (.ok ((),ts,d):R Unit)->NF (pUn f ts d)->Tri Tryz.prog 174 [vA x.l] h (REx K h (pUn f ts d))
 prim:∀ (ts:List Tok) (d:Int) (x:XC) (h:PHeap),K.In h->XS K x (.ok ((),ts,d):R Unit)->NF (pPrim f ts d)->Tri Tryz.prog 194 [vA x.l] h (REx K h (pPrim f ts d))
 args:∀ (ts:List Tok) (d:Int) (x:XC) (h:PHeap),K.In h->XS K x (.ok ((),ts,d):R Unit)->NF (pArgL f ts d)->Tri Tryz.prog 144 [vA x.l] h (RLs K h (pArgL f ts d))
theorem bin_r {f:Nat} (Y:YOk K f) {α:Type} (lv:Nat) (hlv:lv<=11) (r:R α) (hI:K.In h) (hx:XS K x r) (hn:NF (bindR r fun _ ts d=>pBin f lv ts d)):Tri Tryz.prog 142 [vA x.l,vI lv] h (REx K h (bindR r fun _ ts d=>pBin f lv ts d)):=by
 match r,hx,hn with
 | .error e,hx,hn=>exact bin_er (11 - lv) lv (by omega) hx hI
 | .ok (y,ts,d),hx,hn=>exact Y.bin lv ts d x h hlv hI hx hn
theorem unr_ok {f:Nat} (Y:YOk K f) (hI:K.In h) (hx:XS K x (.ok ((),ts,d):R Unit)) (hn:NF (pUn (f+1) ts d)):Tri Tryz.prog 174 [vA x.l] h (REx K h (pUn (f+1) ts d)):=by
 refine T174 ?_
 unfold R174
 have go:(isT ts [45] || isT ts [33] || isT ts [126])=true->
  (∃ (b1 o1:Nat),x.ta=some ⟨b1,o1,none⟩/\(0<=x.i/\x.i < x.tn)/\
   ∃ (Kind1:Int) (Text1:List UInt8) (Value1:Int) (Bytes1:List UInt8) (At1:Int),h.row b1 (o1+(x.i).toNat * 5) [vI Kind1,vS Text1,vI Value1,vS Bytes1,vI At1]/\
   Tri Tryz.prog 174 [vA [vL x.ta x.tn x.tc,vI (IntKind.i64.wrap (x.i+1)),vI x.op,vI x.err,vI x.bad]] h fun v_2 h_2=>
   ∃ (Ta1:Option Addr) (Tn1 Tc1:Nat) (I_1 Open1 Err1 Bad1 Kind2:Int) (Op1 Name1:List UInt8) (Value2:Int) (Text2:List UInt8) (Argsa1:Option Addr) (Argsn1 Argsc1:Nat) (At2:Int),v_2=vT [vA [vL Ta1 Tn1 Tc1,vI I_1,vI Open1,vI Err1,vI Bad1],vA [vI Kind2,vS Op1,vS Name1,vI Value2,vS Text2,vL Argsa1 Argsn1 Argsc1,vI At2]]/\
   (∀ (b2:Nat),h_2 b2=none->∀ (h_3:PHeap),h_3=h_2.put b2 (.cells ⟨[vI Kind2,vS Op1,vS Name1,vI Value2,vS Text2,vL Argsa1 Argsn1 Argsc1,vI At2]⟩ 186)->
    (([vI At1]:List Value)=([vI At1]:List Value))/\
    (([vS Text1]:List Value)=([vS Text1]:List Value))/\
    (([vL Ta1 Tn1 Tc1,vI I_1,vI Open1,vI Err1,vI Bad1]:List Value)=([vL Ta1 Tn1 Tc1,vI I_1,vI Open1,vI Err1,vI Bad1]:List Value))/\
    (([vI At1]:List Value)=([vI At1]:List Value))/\
    (([vS Text1]:List Value)=([vS Text1]:List Value))/\
    REx K h (pUn (f+1) ts d) (vT [vA [vL Ta1 Tn1 Tc1,vI I_1,vI Open1,vI Err1,vI Bad1],vA [vI 6,vS Text1,vS [],vI 0,vS [],vL (ad b2 0) 1 1,vI At1]]) h_3)/\
   ((([vI At1]:List Value)=([vI At1]:List Value))/\
     (([vI Kind2,vS Op1,vS Name1,vI Value2,vS Text2,vL Argsa1 Argsn1 Argsc1,vI At2]:List Value)=([vI Kind2,vS Op1,vS Name1,vI Value2,vS Text2,vL Argsa1 Argsn1 Argsc1,vI At2]:List Value))/\
     (([vS Text1]:List Value)=([vS Text1]:List Value))/\
     ∀ (b3:Nat),h_2 b3=none->∀ (h_4:PHeap),h_4=h_2.put b3 (.cells ⟨[vI Kind2,vS Op1,vS Name1,vI Value2,vS Text2,vL Argsa1 Argsn1 Argsc1,vI At2]⟩ 186)->
     (([vI At1]:List Value)=([vI At1]:List Value))/\
     (([vS Text1]:List Value)=([vS Text1]:List Value))/\
     REx K h (pUn (f+1) ts d) (vT [vA [vL Ta1 Tn1 Tc1,vI I_1,vI Open1,vI Err1,vI Bad1],vA [vI 6,vS Text1,vS [],vI 0,vS [],vL (ad b3 0) 1 1,vI At1]]) h_4)):=by
  intro e'
  have hk:(hd ts).kind≠0:=by
   simp only [Bool.or_eq_true] at e'
   rcases e' with (e' | e') | e' <;> exact isT_kind e'
  have he:pUn (f+1) ts d=mapR (fun e=> .mk 6 (hd ts).text [] 0 [] [e] (hd ts).pos) (pUn f ts.tail d):=by
   rw [pUn_succ,if_pos e'];rfl
  rw [he] at hn ⊢
  obtain ⟨t,ht1,ht2,ht3,ht4⟩:=hx.tok hI
  have:=ht4 _ _ _ rfl
  subst this
  refine ⟨K.tb,0,ht1,ht2,_,_,_,_,_,ht3,?_⟩
  refine Tri.mono (Y.un ts.tail d _ h hI (hx.adv1 hI hk) hn.map) ?_
  rintro _ h2 ⟨x2,c2,rfl,hx2,hX2⟩
  have fin:∀ (b:Nat),h2 b=none->∀ h3,h3=h2.put b (.cells ⟨c2.l⟩ 186)->REx K h (mapR (fun e=> .mk 6 (hd ts).text [] 0 [] [e] (hd ts).pos) (pUn f ts.tail d)) (vT [vA x2.l,vA [vI 6,vS (hd ts).text,vS [],vI 0,vS [],vL (ad b 0) 1 1,vI ((hd ts).pos:Nat)]]) h3:=fun b hb h3 hh=>by
   have hx3:=Put.ext hh hb
   have hbk:only (New h) h3 b=some (.cells ⟨c2.l⟩ 186 (0,0)):=only_some.2 ⟨hx2.dom b hb,Put.at hh⟩
   exact ⟨x2,⟨6,(hd ts).text,[],0,[],ad b 0,1,1,_⟩,rfl,hx2.trans hx3,hX2.map fun e he=>RE_mk 6 _ [] 0 [] [e] _ (ad b 0) 1 (.inr ⟨b,0,rfl,REs_one hbk (he.ext hx3.only)⟩)⟩
  exact ⟨_,_,_,_,_,_,_,_,_,_,_,_,_,_,_,_,rfl,fun b hb h3 hh=>⟨rfl,rfl,rfl,rfl,rfl,fin b hb h3 hh⟩,rfl,rfl,rfl,fun b hb h3 hh=>⟨rfl,rfl,fin b hb h3 hh⟩⟩
 refine Tri.mono (isw_r hx hI [45]) ?_
 rintro _ h ⟨rfl,rfl⟩
 refine ⟨_,rfl,br_split (fun e1=>go (by simp [show isT ts [45]=true from e1])) (fun e1=>?_)⟩
 refine Tri.mono (isw_r hx hI [33]) ?_
 rintro _ h ⟨rfl,rfl⟩
 refine ⟨_,rfl,br_split (fun e2=>go (by simp [show isT ts [33]=true from e2])) (fun e2=>?_)⟩
 refine Tri.mono (isw_r hx hI [126]) ?_
 rintro _ h ⟨rfl,rfl⟩
 refine ⟨_,rfl,br_split (fun e3=>go (by simp [show isT ts [126]=true from e3])) (fun e3=>?_)⟩
 have he:pUn (f+1) ts d=pPrim f ts d:=by
  rw [pUn_succ,if_neg (by simp [show isT ts [45]=false from e1,show isT ts [33]=false from e2,show isT ts [126]=false from e3])]
 rw [he] at hn ⊢
 refine Tri.mono (Y.prim ts d x h hI hx hn) ?_
 rintro _ h2 hE
 have hE':=hE
 obtain ⟨x',c,rfl,_,_⟩:=hE
 exact ⟨_,_,_,_,_,_,_,_,_,_,_,_,_,_,_,_,rfl,hE'⟩
theorem primr_ok {f:Nat} (Y:∀ g,g<=f->YOk K g) (hI:K.In h) (hx:XS K x (.ok ((),ts,d):R Unit)) (hn:NF (pPrim (f+1) ts d)):Tri Tryz.prog 194 [vA x.l] h (REx K h (pPrim (f+1) ts d)):=by
 refine T194 ?_
 unfold R194
 obtain ⟨t,ht1,ht2,ht3,ht4⟩:=hx.tok hI
 have:=ht4 _ _ _ rfl
 subst this
 refine ⟨K.tb,0,ht1,ht2,_,_,_,_,_,ht3,?_⟩
 rw [pPrim_succ] at hn ⊢
 refine Tri.mono (kind_r hx hI 2) ?_
 rintro _ h ⟨rfl,rfl⟩
 refine ⟨_,rfl,br_split (fun e1=>?_) (fun e1=>?_)⟩
 . have e1:isK ts 2=true:=e1
   rw [if_pos e1]
   have hk:(hd ts).kind≠0:=by simp [isK] at e1;omega
   exact ⟨rfl,rfl,_,⟨1,[],[],_,[],none,0,0,_⟩,rfl,Ext.refl _,hx.adv1 (z:=(.mk 1 [] [] (hd ts).value [] [] (hd ts).pos:E)) hI hk,fun y ts d h=>by cases h;exact ⟨none,0,rfl, .inl rfl⟩⟩
 have e1:isK ts 2=false:=e1
 rw [if_neg (by rw [e1];decide)] at hn ⊢
 refine Tri.mono (kind_r hx hI 3) ?_
 rintro _ h ⟨rfl,rfl⟩
 refine ⟨_,rfl,br_split (fun e2=>?_) (fun e2=>?_)⟩
 . have e2:isK ts 3=true:=e2
   rw [if_pos e2]
   have hk:(hd ts).kind≠0:=by simp [isK] at e2;omega
   exact ⟨rfl,rfl,_,⟨2,[],[],0,_,none,0,0,_⟩,rfl,Ext.refl _,hx.adv1 (z:=(.mk 2 [] [] 0 (hd ts).bytes [] (hd ts).pos:E)) hI hk,fun y ts d h=>by cases h;exact ⟨none,0,rfl, .inl rfl⟩⟩
 have e2:isK ts 3=false:=e2
 rw [if_neg (by rw [e2];decide)] at hn ⊢
 refine Tri.mono (isw_r hx hI [40]) ?_
 rintro _ h ⟨rfl,rfl⟩
 refine ⟨_,rfl,br_split (fun e3=>?_) (fun e3=>?_)⟩
 . have e3:isT ts [40]=true:=e3
   have nk:isK ts 1=false:=by
    simp only [isT,Bool.and_eq_true,Bool.or_eq_true] at e3
    rcases e3.1 with h4 | h5
    . have:(hd ts).kind=4:=by simpa using h4
      simp [isK,this]
    . have:(hd ts).kind=5:=by simpa using h5
      simp [isK,this]
   rw [if_neg (by rw [nk];decide)] at hn ⊢
   have he:(bindR (takeT [40] ts d) fun _ ts d=>bindR (pBin f 1 ts d) fun e ts d=>bindR (takeT [41] ts d) fun _ ts d=>(.ok (e,ts,d):R E))=thenR (bindR (takeT [40] ts d) fun _ ts d=>pBin f 1 ts d) fun ts d=>takeT [41] ts d:=by
    simp only [thenR,bindR_bind,bindR_ok]
   rw [he] at hn ⊢
   refine Tri.mono (takew_r hx hI [40]) ?_
   rintro _ h ⟨rfl,x1,rfl,hx1⟩
   rw [bindR_ok] at hx1
   refine ⟨_,_,_,_,_,_,_,rfl,?_⟩
   refine Tri.mono (bin_r (Y f (Nat.le_refl _)) 1 (by decide) _ hI hx1 hn.then.bind) ?_
   rintro _ h2 ⟨x2,c2,rfl,hx2,hX2⟩
   refine ⟨_,_,_,_,_,_,_,_,_,_,_,_,_,_,_,_,rfl,?_⟩
   refine Tri.mono (takew_r hX2.1 (hI.ext hx2) [41]) ?_
   rintro _ h2 ⟨rfl,x3,rfl,hx3⟩
   exact ⟨_,_,_,_,_,_,_,rfl,rfl,rfl,x3,c2,rfl,hx2,hX2.then hx3 fun _ h=>h⟩
 have e3:isT ts [40]=false:=e3
 refine Tri.mono (ident_r hx hI) ?_
 rintro _ h ⟨rfl,x1,nm,pos,rfl,hX1⟩
 refine ⟨_,_,_,_,_,_,_,_,_,rfl,?_⟩
 rw [bindR_ok] at hX1
 rcases (Bool.eq_false_or_eq_true (isK ts 1)).symm with nk | nk
 . rw [if_neg (by rw [nk];decide)] at hn ⊢
   have ht:takeT [40] ts d= .error (30,(hd ts).pos):=by simp [takeT,e3]
   have hk':takeK 1 ts d= .error (30,(hd ts).pos):=by simp [takeK,nk]
   rw [hk'] at hX1
   have hx1:XS K x1 (.error (30,(hd ts).pos):R Unit):=hX1.1
   rw [ht,bindR_err]
   refine Tri.mono (isw_r hx1 hI [40]) ?_
   rintro _ h ⟨rfl,rfl⟩
   refine ⟨_,rfl,br_neg rfl ?_⟩
   refine Tri.mono (isw_r hx1 hI [91]) ?_
   rintro _ h ⟨rfl,rfl⟩
   exact ⟨_,rfl,br_neg rfl ⟨x1,⟨3,[],nm,0,[],none,0,0,pos⟩,rfl,Ext.refl _,XX.er hx1⟩⟩
 . rw [if_pos nk] at hn ⊢
   have hk':takeK 1 ts d= .ok (hd ts,ts.tail,d):=by simp [takeK,nk]
   rw [hk'] at hX1
   have hx1:XS K x1 (.ok ((),ts.tail,d):R Unit):=hX1.1
   obtain ⟨rfl,rfl⟩:=hX1.2 _ _ _ rfl
   match f,Y,hn with
   | 0,Y,hn=>exact absurd (by unfold pName;rfl) hn
   | f+1,Y,hn=>
   rw [pName_succ] at hn ⊢
   refine Tri.mono (isw_r hx1 hI [40]) ?_
   rintro _ h ⟨rfl,rfl⟩
   refine ⟨_,rfl,br_split (fun e4=>?_) (fun e4=>?_)⟩
   . have e4:isT ts.tail [40]=true:=e4
     rw [if_pos e4] at hn ⊢
     match f,Y,hn with
     | 0,Y,hn=>exact absurd (by unfold pCall;rfl) hn
     | f+1,Y,hn=>
     rw [pCall_args] at hn ⊢
     refine Tri.mono ((Y f (by omega)).args ts.tail d x1 h hI hx1 hn.map) ?_
     rintro _ h2 ⟨x2,a,n,c,rfl,hx2,hX2⟩
     refine ⟨_,_,_,_,_,_,_,_,_,_,rfl,x2,⟨5,[],(hd ts).text,0,[],a,n,c,_⟩,rfl,hx2,hX2.map fun l hl=>?_⟩
     obtain ⟨rfl,hl⟩:=hl
     exact RE_iff.2 ⟨a,c,rfl,hl⟩
   have e4:isT ts.tail [40]=false:=e4
   rw [if_neg (by rw [e4];decide)] at hn ⊢
   refine Tri.mono (isw_r hx1 hI [91]) ?_
   rintro _ h ⟨rfl,rfl⟩
   refine ⟨_,rfl,br_split (fun e5=>?_) (fun e5=>?_)⟩
   . have e5:isT ts.tail [91]=true:=e5
     rw [if_pos e5] at hn ⊢
     have he:(bindR (takeT [91] ts.tail d) fun _ ts' d=>bindR (pBin f 1 ts' d) fun e ts' d=>bindR (takeT [93] ts' d) fun _ ts' d=>(.ok (.mk 4 [] (hd ts).text 0 [] [e] (hd ts).pos,ts',d):R E))=
      mapR (fun e=> .mk 4 [] (hd ts).text 0 [] [e] (hd ts).pos) (thenR (bindR (takeT [91] ts.tail d) fun _ ts d=>pBin f 1 ts d) fun ts d=>takeT [93] ts d):=by
       simp only [mapR,thenR,bindR_bind,bindR_ok]
     rw [he] at hn ⊢
     refine Tri.mono (takew_r hx1 hI [91]) ?_
     rintro _ h ⟨rfl,x2,rfl,hx2⟩
     rw [bindR_ok] at hx2
     refine ⟨_,_,_,_,_,_,_,rfl,?_⟩
     refine Tri.mono (bin_r (Y f (by omega)) 1 (by decide) _ hI hx2 hn.map.then.bind) ?_
     rintro _ h3 ⟨x3,c3,rfl,hxh3,hX3⟩
     refine ⟨_,_,_,_,_,_,_,_,_,_,_,_,_,_,_,_,rfl,?_,?_⟩
     . refine Tri.mono (takew_r hX3.1 (hI.ext hxh3) [93]) ?_
       rintro _ h3 ⟨rfl,x4,rfl,hx4⟩
       have fin:∀ (b:Nat),h3 b=none->∀ h4,h4=h3.put b (.cells ⟨c3.l⟩ 186)->REx K h (mapR (fun e=> .mk 4 [] (hd ts).text 0 [] [e] (hd ts).pos) (thenR (bindR (takeT [91] ts.tail d) fun _ ts d=>pBin f 1 ts d) fun ts d=>takeT [93] ts d)) (vT [vA x4.l,vA [vI 4,vS [],vS (hd ts).text,vI 0,vS [],vL (ad b 0) 1 1,vI ((hd ts).pos:Nat)]]) h4:=fun b hb h4 hh=>by
        have hxh4:=Put.ext hh hb
        have hbk:only (New h) h4 b=some (.cells ⟨c3.l⟩ 186 (0,0)):=only_some.2 ⟨hxh3.dom b hb,Put.at hh⟩
        exact ⟨x4,⟨4,[],(hd ts).text,0,[],ad b 0,1,1,_⟩,rfl,hxh3.trans hxh4,(hX3.then hx4 fun _ h=>h).map fun e he=>RE_mk 4 [] _ 0 [] [e] _ (ad b 0) 1 (.inr ⟨b,0,rfl,REs_one hbk (he.ext hxh4.only)⟩)⟩
       exact ⟨_,_,_,_,_,_,_,rfl,rfl,fun b hb h4 hh=>fin b hb h4 hh,rfl,fun b hb h4 hh=>fin b hb h4 hh⟩
     . intro b hb h4 hh
       have hxh4:=Put.ext hh hb
       refine ⟨rfl,?_⟩
       refine Tri.mono (takew_r hX3.1 (hI.ext (hxh3.trans hxh4)) [93]) ?_
       rintro _ h4 ⟨rfl,x4,rfl,hx4⟩
       have hbk:only (New h) h4 b=some (.cells ⟨c3.l⟩ 186 (0,0)):=only_some.2 ⟨hxh3.dom b hb,Put.at hh⟩
       exact ⟨_,_,_,_,_,_,_,rfl,x4,⟨4,[],(hd ts).text,0,[],ad b 0,1,1,_⟩,rfl,hxh3.trans hxh4,(hX3.then hx4 fun _ h=>h).map fun e he=>RE_mk 4 [] _ 0 [] [e] _ (ad b 0) 1 (.inr ⟨b,0,rfl,REs_one hbk (he.ext hxh4.only)⟩)⟩
   . have e5:isT ts.tail [91]=false:=e5
     rw [if_neg (by rw [e5];decide)] at hn ⊢
     exact ⟨x1,⟨3,[],(hd ts).text,0,[],none,0,0,_⟩,rfl,Ext.refl _,hX1.1,fun y ts d h=>by cases h;exact ⟨none,0,rfl, .inl rfl⟩⟩
end
end Go.Proofs.D
namespace Go.Proofs.D
open Go Go.Den Go.Sx
set_option maxRecDepth 100000
attribute [local irreducible] IntKind.wrap Tri
def EP (k:Nat):Prop:=∀ (e:E),cntE e<=k->OkE e->(prE e).length<=1000000->∀ (cs:List Value) (h:PHeap),RE plR 7 h e cs->Tri Tryz.prog 163 [vA cs] h fun v h'=>v=vS (prE e)/\Ext h h'
theorem moreB_drop {l:List Bytes} {j:Nat} (hj:j < l.length):moreB (l.drop j)=44::32::(l[j]++moreB (l.drop (j+1))):=by
 rw [List.drop_eq_getElem_cons hj];rfl
theorem list_r {k:Nat} (hE:EP k) (es:List E) (hc:cntEs es<=k) (hk:k<=100000) (hok:∀ e∈es,OkE e) (hl:(commaB (es.map prE)).length<=1000000) {a:OA} {c:Nat} {h:PHeap} (hA:At 7 (RE plR 7) h a es):
 Tri Tryz.prog 162 [vL a es.length c] h fun v h'=>v=vS (commaB (es.map prE))/\Ext h h':=by
 refine T162 ?_
 unfold R162
 have hlen:=cntEs_len es
 refine ⟨fun m s i h'=>∃ j:Nat,i=j/\j+m=es.length/\Ext h h'/\((j=0/\s=[])∨(0 < j/\s++moreB ((es.map prE).drop j)=commaB (es.map prE))),⟨es.length,0,rfl,by omega,Ext.refl _, .inl ⟨rfl,rfl⟩⟩,?_⟩
 rintro m s _ h1 ⟨j,rfl,hjm,hx,hs⟩
 refine br_split (fun e=>?_) (fun e=>?_)
 . have hj:j < es.length:=by have:=of_decide_eq_true e;omega
   obtain ⟨b,o,cs,ha,hr,hrel⟩:=hA.get hj
   have hr:=row_ext (fun ob=>hx b ob) hr
   have hmem:=List.getElem_mem hj
   have hcj:=cntEs_mem hmem
   have hoj:=hok _ hmem
   have hj2:j < (es.map prE).length:=by simpa using hj
   have hle:(prE es[j]).length<=(commaB (es.map prE)).length:=commaB_mem (List.mem_map_of_mem hmem)
   have hwj:IntKind.i64.wrap (((j:Nat):Int)+1)=((j+1:Nat):Int):=by rw [wrap64 (by omega) (by omega)];rfl
   have hEj:=hE es[j] (by omega) hoj (by omega) cs h1 (hrel.ext hx)
   have hgj:(es.map prE)[j]=prE es[j]:=by simp
   have hd:=moreB_drop hj2
   rw [hgj] at hd
   have hfirst:j=0->commaB (es.map prE)=prE es[j]++moreB ((es.map prE).drop (j+1)):=by
    intro e0
    have h0:=List.drop_eq_getElem_cons hj2
    rw [hgj] at h0
    subst e0
    rw [List.drop_zero] at h0
    conv=>lhs;rw [h0]
    rfl
   generalize es[j]=x at *
   match x,hrel,hEj with
   | .mk kd op nm v tx args pos,hrel,hEj=>
   obtain ⟨a3,c3,rfl,hA3⟩:=RE_iff.1 hrel
   refine br_split (fun e1=>?_) (fun e1=>?_)
   . have e1:0 < j:=by have:=of_decide_eq_true e1;omega
     rcases hs with ⟨e2,_⟩ | ⟨_,hs⟩
     . omega
     have hsl:=congrArg List.length hs
     rw [hd] at hs hsl
     simp only [List.length_append,List.length_cons] at hsl
     refine ⟨by simp;omega,b,o,ha,⟨by omega,by omega⟩,_,_,_,_,_,_,_,_,_,hr,?_⟩
     refine Tri.mono hEj ?_
     rintro _ h2 ⟨rfl,hx2⟩
     refine ⟨_,rfl,by simp;omega,m - 1,by omega,⟨j+1,hwj,by omega,hx.trans hx2, .inr ⟨by omega,?_⟩⟩,trivial⟩
     rw [←hs];simp
   . have e1:j=0:=by have:=of_decide_eq_false e1;omega
     have hs:s=[]:=by
      rcases hs with ⟨_,hs⟩ | ⟨h0,_⟩
      . exact hs
      . omega
     subst hs
     refine ⟨b,o,ha,⟨by omega,by omega⟩,_,_,_,_,_,_,_,_,_,hr,?_⟩
     refine Tri.mono hEj ?_
     rintro _ h2 ⟨rfl,hx2⟩
     refine ⟨_,rfl,by simp;omega,m - 1,by omega,⟨j+1,hwj,by omega,hx.trans hx2, .inr ⟨by omega,?_⟩⟩,trivial⟩
     rw [hfirst e1];simp
 . have hj:es.length<=j:=by have:=of_decide_eq_false e;omega
   refine ⟨?_,hx⟩
   rcases hs with ⟨e0,hs⟩ | ⟨_,hs⟩
   . have:es=[]:=List.eq_nil_of_length_eq_zero (by omega)
     subst this;rw [hs];rfl
   . rw [List.drop_eq_nil_of_le (by simpa using hj),moreB,List.append_nil] at hs
     rw [hs]
theorem wrap_r {k:Nat} (hE:EP k) {e:E} (hc:cntE e<=k) (hok:OkE e) (hl:(prE e).length<=1000000) {cs:List Value} {h:PHeap} (hrel:RE plR 7 h e cs) (b:Bool):
 Tri Tryz.prog 186 [vA cs,vB b] h fun v h'=>v=vS (encB b (prE e))/\Ext h h':=by
 have hEe:=hE e hc hok hl cs h hrel
 match e,hrel,hEe,hl with
 | .mk kd op nm v tx args pos,hrel,hEe,hl=>
 obtain ⟨a3,c3,rfl,hA3⟩:=RE_iff.1 hrel
 refine T186 ?_
 unfold R186
 cases b with
 | true=>
   refine br_pos rfl ?_
   refine Tri.mono hEe ?_
   rintro _ h2 ⟨rfl,hx2⟩
   exact ⟨_,rfl,by simp;omega,by simp;omega,rfl,hx2⟩
 | false=>
   refine br_neg rfl ?_
   refine Tri.mono hEe ?_
   rintro _ h2 ⟨rfl,hx2⟩
   exact ⟨_,rfl,rfl,hx2⟩
set_option maxHeartbeats 4000000 in
theorem exp_succ {k:Nat} (hE:EP k) (hk:k<=100000):EP (k+1):=by
 intro e hc hok hl cs h hrel
 have hsub:=sub_len hok
 match e,hc,hok,hl,hrel,hsub with
 | .mk kd op nm vl tx args pos,hc,hok,hl,hrel,hsub=>
 obtain ⟨a1,c1,rfl,hA1⟩:=RE_iff.1 hrel
 simp only [cntE] at hc
 refine T163 ?_
 unfold R163
 cases hok with
 | num hv=>
   refine br_pos rfl ?_
   refine Tri.mono (digits_r vl (by omega) h) ?_
   rintro _ h1 ⟨rfl,rfl⟩
   exact ⟨_,rfl,by rw [pr_num],Ext.refl _⟩
 | str hb=>
   refine br_neg rfl (br_pos rfl ?_)
   refine Tri.mono (quote_r tx hb h) ?_
   rintro _ h1 ⟨rfl,hx⟩
   exact ⟨_,_,rfl,by rw [pr_str],hx⟩
 | var hn=>
   refine br_neg rfl (br_neg rfl (br_pos rfl ⟨by rw [pr_var],Ext.refl _⟩))
 | @elem _ x _ hn hx=>
   obtain ⟨b,o,cs,ha,hr,hrel0⟩:=hA1.get (n:=0) (by simp)
   simp only [List.getElem_cons_zero] at hrel0
   have hlx:(prE x).length<=_:=hsub x (List.mem_cons_self ..)
   simp only [cntEs] at hc
   have hEx:=hE x (by omega) hx (by omega) cs h hrel0
   rw [pr_elem] at hl ⊢
   simp only [List.length_append,List.length_cons,List.length_nil] at hl
   match x,hrel0,hEx,hl with
   | .mk k0 op0 nm0 v0 tx0 args0 pos0,hrel0,hEx,hl=>
   obtain ⟨a3,c3,rfl,hA3⟩:=RE_iff.1 hrel0
   refine br_neg rfl (br_neg rfl (br_neg rfl (br_pos rfl ⟨by simp;omega,b,o,ha,⟨by decide,by simp⟩,_,_,_,_,_,_,_,_,_,hr,?_⟩)))
   refine Tri.mono hEx ?_
   rintro _ h1 ⟨rfl,hx1⟩
   exact ⟨_,rfl,rfl,rfl,by simp;omega,by simp;omega,by simp,hx1⟩
 | @call _ es _ hn hes=>
   rw [pr_call,prEs_map] at hl ⊢
   simp only [List.length_append,List.length_cons,List.length_nil] at hl
   refine br_neg rfl (br_neg rfl (br_neg rfl (br_neg rfl (br_pos rfl ⟨by simp;omega,?_⟩))))
   refine Tri.mono (list_r hE _ (by omega) hk hes (by omega) hA1) ?_
   rintro _ h1 ⟨rfl,hx1⟩
   exact ⟨_,rfl,rfl,by simp;omega,by simp;omega,by simp,hx1⟩
 | @un _ x _ ho hx=>
   obtain ⟨b,o,cs,ha,hr,hrel0⟩:=hA1.get (n:=0) (by simp)
   simp only [List.getElem_cons_zero] at hrel0
   have hlx:(prE x).length<=_:=hsub x (List.mem_cons_self ..)
   simp only [cntEs] at hc
   have hW:=fun b=>wrap_r hE (e:=x) (by omega) hx (by omega) hrel0 b
   rw [pr_un] at hl ⊢
   simp only [List.length_append] at hl
   match x,hrel0,hW,hl with
   | .mk k0 op0 nm0 v0 tx0 args0 pos0,hrel0,hW,hl=>
   obtain ⟨a3,c3,rfl,hA3⟩:=RE_iff.1 hrel0
   have heq:encB ((k0:Int) == 7) (prE (.mk k0 op0 nm0 v0 tx0 args0 pos0))=prL 11 (.mk k0 op0 nm0 v0 tx0 args0 pos0):=by
    rw [prL,low_mk]
    congr 1
    have:decide (levelS op0 < 11)=true:=by have:=level_le op0;simp;omega
    rw [this,Bool.and_true,show (7:Int)=((7:Nat):Int) from rfl,Bool.eq_iff_iff,beq_iff_eq,beq_iff_eq]
    omega
   refine br_neg rfl (br_neg rfl (br_neg rfl (br_neg rfl (br_neg rfl (br_pos rfl ⟨b,o,ha,⟨by decide,by simp⟩,_,_,_,_,_,_,_,_,_,hr,b,o,ha,⟨by decide,by simp⟩,_,hr.1,?_⟩)))))
   refine Tri.mono (hW _) ?_
   rintro _ h1 ⟨rfl,hx1⟩
   rw [heq]
   exact ⟨_,rfl,row_ext (l:=[_]) (fun ob=>hx1 b ob) hr.1,rfl,rfl,rfl,by omega,rfl,hx1⟩
 | @bin _ x y _ ho hx hy=>
   iterate 6 refine br_neg rfl ?_
   have hlx:(prE x).length<=_:=hsub x (List.mem_cons_self ..)
   have hly:(prE y).length<=_:=hsub y (List.mem_cons_of_mem _ (List.mem_cons_self ..))
   simp only [cntEs] at hc
   rcases hA1 with hA1 | ⟨eb,eo,rfl,hA1⟩
   . cases hA1
   obtain ⟨cs0,hr0,hrel0⟩:=hA1 0 x rfl
   obtain ⟨cs1,hr1,hrel1⟩:=hA1 1 y rfl
   have hW0:=fun b h' (hx':Ext h h')=>wrap_r hE (e:=x) (by omega) hx (by omega) (hrel0.ext hx') b
   have hW1:=fun b h' (hx':Ext h h')=>wrap_r hE (e:=y) (by omega) hy (by omega) (hrel1.ext hx') b
   rw [pr_bin] at hl ⊢
   simp only [List.length_append,List.length_cons] at hl
   match x,y,hrel0,hrel1,hl,hW0,hW1 with
   | .mk k0 op0 nm0 v0 tx0 args0 pos0, .mk k1 op1 nm1 v1 tx1 args1 pos1,hrel0,hrel1,hl,hW0,hW1=>
   obtain ⟨a3,c3,rfl,hA3⟩:=RE_iff.1 hrel0
   obtain ⟨a4,c4,rfl,hA4⟩:=RE_iff.1 hrel1
   have hr0:h.row eb eo ([vI k0,vS op0,vS nm0,vI v0,vS tx0,vL a3 args0.length c3]++plR pos0):=by have:=hr0;rwa [Nat.zero_mul] at this
   have hr1:h.row eb (eo+7) ([vI k1,vS op1,vS nm1,vI v1,vS tx1,vL a4 args1.length c4]++plR pos1):=by have:=hr1;rwa [Nat.one_mul] at this
   have hL:∀ b:Bool,(k0 == 7 && decide (levelS op0 < levelS op))=b->encB b (prE (.mk k0 op0 nm0 v0 tx0 args0 pos0))=prL (levelS op) (.mk k0 op0 nm0 v0 tx0 args0 pos0):=fun b hb=>by rw [prL,low_mk,hb]
   have hR:∀ b:Bool,(k1 == 7 && decide (levelS op1 < levelS op+1))=b->encB b (prE (.mk k1 op1 nm1 v1 tx1 args1 pos1))=prL (levelS op+1) (.mk k1 op1 nm1 v1 tx1 args1 pos1):=fun b hb=>by rw [prL,low_mk,hb]
   have K2:∀ h8,Ext h h8->∀ v8,v8=vS (prL (levelS op) (.mk k0 op0 nm0 v0 tx0 args0 pos0))->K163_2 v8 (k1:Nat) op1 nm1 (v1:Nat) tx1 a4 args1.length c4 (pos1:Nat) op (k0:Nat) h8 (levelS op:Nat) fun v h'=>v=vS (prL (levelS op) (.mk k0 op0 nm0 v0 tx0 args0 pos0)++32::(op++32::prL (levelS op+1) (.mk k1 op1 nm1 v1 tx1 args1 pos1)))/\Ext h h':=by
    rintro h8 hx8 _ rfl
    unfold K163_2
    refine ⟨_,rfl,rfl,rfl,rfl,rfl,by simp;omega,by simp;omega,by simp;omega,br_split (fun e=>?_) (fun e=>?_)⟩
    . have e:k1=7:=by have:=beq_iff_eq.1 e;omega
      refine Tri.mono (level_r op1 h8) ?_
      rintro _ h9 ⟨rfl,hx9⟩
      refine ⟨_,rfl,rfl,rfl,rfl,rfl,?_⟩
      refine Tri.mono (hW1 _ h9 (hx8.trans hx9)) ?_
      rintro _ h10 ⟨rfl,hx10⟩
      rw [dec_le,hR _ (by rw [e];rfl)]
      exact ⟨_,rfl,rfl,rfl,rfl,by simp;omega,by simp,(hx8.trans hx9).trans hx10⟩
    . have e:k1≠7:=fun q=>by subst q;cases e
      refine ⟨rfl,rfl,rfl,rfl,?_⟩
      refine Tri.mono (hW1 _ h8 hx8) ?_
      rintro _ h10 ⟨rfl,hx10⟩
      rw [hR false (by simp [e])]
      exact ⟨_,rfl,rfl,rfl,rfl,by simp;omega,by simp,hx8.trans hx10⟩
   have K1:∀ h6,Ext h h6->K163_1 h6 eb eo (k1:Nat) op1 nm1 (v1:Nat) tx1 a4 args1.length c4 (pos1:Nat) (ad eb eo) 2 c1 eb eo (k0:Nat) op0 nm0 (v0:Nat) tx0 a3 args0.length c3 (pos0:Nat) op (levelS op:Nat) fun v h'=>v=vS (prL (levelS op) (.mk k0 op0 nm0 v0 tx0 args0 pos0)++32::(op++32::prL (levelS op+1) (.mk k1 op1 nm1 v1 tx1 args1 pos1)))/\Ext h h':=by
    intro h6 hx6
    have q0:=row_ext (fun ob=>hx6 eb ob) hr0
    have q1:=row_ext (fun ob=>hx6 eb ob) hr1
    unfold K163_1
    refine ⟨q1,rfl,q0,rfl,q1,rfl,br_split (fun e=>?_) (fun e=>?_)⟩
    . have e:k0=7:=by have:=beq_iff_eq.1 e;omega
      refine Tri.mono (level_r op0 h6) ?_
      rintro _ h7 ⟨rfl,hx7⟩
      refine ⟨_,rfl,rfl,rfl,rfl,rfl,rfl,?_⟩
      refine Tri.mono (hW0 _ h7 (hx6.trans hx7)) ?_
      rintro _ h8 ⟨rfl,hx8⟩
      exact K2 h8 ((hx6.trans hx7).trans hx8) _ (by rw [dec_lt2,hL _ (by rw [e];rfl)])
    . have e:k0≠7:=fun q=>by subst q;cases e
      refine ⟨rfl,rfl,rfl,rfl,rfl,?_⟩
      refine Tri.mono (hW0 _ h6 hx6) ?_
      rintro _ h8 ⟨rfl,hx8⟩
      exact K2 h8 (hx6.trans hx8) _ (by rw [hL false (by simp [e])])
   have K3:K163_3 op h eb eo (k1:Nat) op1 nm1 (v1:Nat) tx1 a4 args1.length c4 (pos1:Nat) (ad eb eo) 2 c1 eb eo (k0:Nat) op0 nm0 (v0:Nat) tx0 a3 args0.length c3 (pos0:Nat) fun v h'=>v=vS (prL (levelS op) (.mk k0 op0 nm0 v0 tx0 args0 pos0)++32::(op++32::prL (levelS op+1) (.mk k1 op1 nm1 v1 tx1 args1 pos1)))/\Ext h h':=by
    unfold K163_3
    refine ⟨rfl,hr1,rfl,hr0,rfl,?_,rfl,hr1,rfl,hr0,rfl,?_⟩
    . refine Tri.mono (level_r op h) ?_
      rintro _ h6 ⟨rfl,hx6⟩
      exact ⟨_,rfl,row_ext (fun ob=>hx6 eb ob) hr1,rfl,row_ext (fun ob=>hx6 eb ob) hr0,rfl,K1 h6 hx6⟩
    . refine Tri.mono (level_r op h) ?_
      rintro _ h6 ⟨rfl,hx6⟩
      exact ⟨_,rfl,K1 h6 hx6⟩
   refine ⟨eb,eo,rfl,⟨by decide,by simp⟩,_,_,_,_,_,_,_,_,_,hr0,eb,eo,rfl,⟨by decide,by simp⟩,_,_,_,_,_,_,_,_,_,hr1,?_,K3,K3⟩
   refine Tri.mono (level_r op h) ?_
   rintro _ h6 ⟨rfl,hx6⟩
   have q0:=row_ext (fun ob=>hx6 eb ob) hr0
   have q1:=row_ext (fun ob=>hx6 eb ob) hr1
   exact ⟨_,rfl,q1,rfl,q0,rfl,⟨q1,rfl,q0,rfl,K1 h6 hx6⟩,⟨q1,rfl,q0,rfl,K1 h6 hx6⟩⟩
theorem exp_r:∀ k,k<=100001->EP k
 | 0,_=>fun e he=>by have:=cntE_pos e;omega
 | k+1,hk=>exp_succ (exp_r k (by omega)) (by omega)
end Go.Proofs.D
namespace Go.Proofs.D
open Go Go.Den Go.Sx Go.Shelf
set_option maxRecDepth 100000
def layR_ren:Go.Shelf.Ren:=⟨fun | 105=>124 | 212=>157 | 99=>131 | 165=>127 | 166=>123 | 170=>158 | 169=>83 | 263=>178 | 264=>179 | 206=>164 | 240=>156 | 241=>160 | 276=>177 | 277=>184 | n=>n,fun | 9=>9 | 3=>3 | 4=>4 | 20=>20 | 0=>0 | 46=>221 | 109=>225 | 5=>5 | 72=>151 | 76=>198 | 51=>239 | 146=>240 | 53=>242 | 148=>243 | 70=>149 | 37=>45 | 75=>197 | 127=>204 | 164=>237 | 80=>156 | n=>n,fun | n=>n⟩
theorem layR:Go.Proofs.Lays.n105 Tryz.prog layR_ren where
 mixed:=by kernel_rfl
 f99:=Tryz.func131.trans (congrArg some (by kernel_rfl))
 f105:=Tryz.func124.trans (congrArg some (by kernel_rfl))
 f165:=Tryz.func127.trans (congrArg some (by kernel_rfl))
 f166:=Tryz.func123.trans (congrArg some (by kernel_rfl))
 f169:=Tryz.func83.trans (congrArg some (by kernel_rfl))
 f170:=Tryz.func158.trans (congrArg some (by kernel_rfl))
 f206:=Tryz.func164.trans (congrArg some (by kernel_rfl))
 f212:=Tryz.func157.trans (congrArg some (by kernel_rfl))
 f240:=Tryz.func156.trans (congrArg some (by kernel_rfl))
 f241:=Tryz.func160.trans (congrArg some (by kernel_rfl))
 f263:=Tryz.func178.trans (congrArg some (by kernel_rfl))
 f264:=Tryz.func179.trans (congrArg some (by kernel_rfl))
 f276:=Tryz.func177.trans (congrArg some (by kernel_rfl))
 f277:=Tryz.func184.trans (congrArg some (by kernel_rfl))
 t0:=Tryz.underlying0
 a0:=Tryz.isAgg0
 z0:=Tryz.sizeOf0
 v0:=Tryz.zeroValue0
 t3:=Tryz.underlying3
 a3:=Tryz.isAgg3
 z3:=Tryz.sizeOf3
 v3:=Tryz.zeroValue3
 t4:=Tryz.underlying4
 a4:=Tryz.isAgg4
 z4:=Tryz.sizeOf4
 v4:=Tryz.zeroValue4
 t5:=Tryz.underlying5
 a5:=Tryz.isAgg5
 z5:=Tryz.sizeOf5
 v5:=Tryz.zeroValue5
 t9:=Tryz.underlying9
 a9:=Tryz.isAgg9
 z9:=Tryz.sizeOf9
 v9:=Tryz.zeroValue9
 t20:=Tryz.underlying20
 a20:=Tryz.isAgg20
 z20:=Tryz.sizeOf20
 v20:=Tryz.zeroValue20
 t37:=Tryz.underlying45
 a37:=Tryz.isAgg45
 z37:=Tryz.sizeOf45
 v37:=Tryz.zeroValue45
 t46:=Tryz.underlying221
 a46:=Tryz.isAgg221
 z46:=Tryz.sizeOf221
 v46:=Tryz.zeroValue221
 t51:=Tryz.underlying239
 a51:=Tryz.isAgg239
 z51:=Tryz.sizeOf239
 v51:=Tryz.zeroValue239
 t53:=Tryz.underlying242
 a53:=Tryz.isAgg242
 z53:=Tryz.sizeOf242
 v53:=Tryz.zeroValue242
 t70:=Tryz.underlying149
 a70:=Tryz.isAgg149
 z70:=Tryz.sizeOf149
 v70:=Tryz.zeroValue149
 t72:=Tryz.underlying151
 a72:=Tryz.isAgg151
 z72:=Tryz.sizeOf151
 v72:=Tryz.zeroValue151
 t75:=Tryz.underlying197
 a75:=Tryz.isAgg197
 z75:=Tryz.sizeOf197
 v75:=Tryz.zeroValue197
 t76:=Tryz.underlying198
 a76:=Tryz.isAgg198
 z76:=Tryz.sizeOf198
 v76:=Tryz.zeroValue198
 t109:=Tryz.underlying225
 a109:=Tryz.isAgg225
 z109:=Tryz.sizeOf225
 v109:=Tryz.zeroValue225
 t127:=Tryz.underlying204
 a127:=Tryz.isAgg204
 z127:=Tryz.sizeOf204
 v127:=Tryz.zeroValue204
 t146:=Tryz.underlying240
 a146:=Tryz.isAgg240
 z146:=Tryz.sizeOf240
 v146:=Tryz.zeroValue240
 t148:=Tryz.underlying243
 a148:=Tryz.isAgg243
 z148:=Tryz.sizeOf243
 v148:=Tryz.zeroValue243
 t164:=Tryz.underlying237
 a164:=Tryz.isAgg237
 z164:=Tryz.sizeOf237
 v164:=Tryz.zeroValue237
theorem exR:Go.Proofs.Builder.Extra Tryz.prog layR_ren where
 sizeBuilder:=by kernel_rfl
 liesBuilder:=by kernel_rfl
 t5:=Tryz.underlying5
 a5:=Tryz.isAgg5
 z5:=Tryz.sizeOf5
 v5:=Tryz.zeroValue5
 infoByte:=by kernel_rfl
 cellsByte:=by kernel_rfl
 sizeByte:=by kernel_rfl
 neB5:=by decide
theorem repeatL_tab (n:Nat):Lib.repeatL [9] n=tabB n:=by
 induction n with
 | zero=>rfl
 | succ n ih=>rw [Lib.repeatL,ih];rfl
theorem repeat_t {h:PHeap} (n:Nat) (hn:n<=1000000):Tri Tryz.prog 124 [vS [9],vI n] h fun r h'=>r=vS (tabB n)/\h'=h:=by
 refine tri_calls Tryz.func124 (by kernel_rfl) rfl fun w _=>?_
 refine Calls.mono (Any.strings_Repeat layR exR ⟨#[9]⟩ n w (by omega) (by show 1 * n<=_;omega)) ?_
 rintro e w' ⟨rfl,hb⟩
 exact ⟨_,rfl,by rw [show (⟨#[9]⟩:ByteArray).data.toList=[9] from rfl,repeatL_tab],hb⟩
end Go.Proofs.D
namespace Go.Proofs.D
open Go Go.Den Go.Sx Go.Shelf Go.RowKit
set_option maxRecDepth 100000
theorem layC:Go.Proofs.Lays.n240 Tryz.prog layJ_ren:={ layJ with }
theorem copy_used (w:World) (b:Nat) (h0:w.cell? ⟨b,0,none⟩=some (.pointer (some ⟨b,0,none⟩))):
 Calls Tryz.prog 156 #[.pointer (some ⟨b,0,none⟩)] w fun e w'=>e= .returned (.tuple #[])/\w'=w:=Any.Builder_copyCheck_used layC exJ.toX72 b w h0
set_option maxHeartbeats 1000000 in
theorem copy_first (w:World) (b:Nat) (h0:w.cell? ⟨b,0,none⟩=some (.pointer none)) (hsh:w.shape? b=some (153,3)) (hfz:w.frozen? ⟨b,0,none⟩=false):
 Calls Tryz.prog 156 #[.pointer (some ⟨b,0,none⟩)] w fun e w'=>e= .returned (.tuple #[])/\w'=w.setCell ⟨b,0,none⟩ (.pointer (some ⟨b,0,none⟩)):=by
 have L:=layC
 obtain ⟨j,hj,hjs⟩:=Option.map_eq_some_iff.1 exJ.sizeBuilder
 have mixed:=L.mixed
 have t72:=L.t72;have a72:=L.a72;have z72:=L.z72;have v72:=L.v72;have u72:=run_underlying L.t72
 have t70:=L.t70;have a70:=L.a70;have z70:=L.z70;have v70:=L.v70;have u70:=run_underlying L.t70
 have t9:=L.t9;have a9:=L.a9;have z9:=L.z9;have v9:=L.v9;have u9:=run_underlying L.t9
 have t4:=L.t4;have a4:=L.a4;have z4:=L.z4;have v4:=L.v4;have u4:=run_underlying L.t4
 have t164:=L.t164;have a164:=L.a164;have z164:=L.z164;have v164:=L.v164;have u164:=run_underlying L.t164
 have hlies:liesAt Tryz.prog Tryz.prog.depth 153 (3 / Tryz.prog.cellsOf 153) 0 (layJ_ren.t 72) 1=true:=by kernel_rfl
 go_enter L.f240,Body.n240_ntmps layJ_ren
 go_wp2
 rw [Lib.run_to_unsafe w ⟨b,0,none⟩ L.t70 L.t164 hj (by rw [hjs];decide) hsh (Nat.zero_lt_succ 2)]
 simp only [Result.andThen]
 rw [Oper.upon_value]
 go_wp2
 rw [run_callFunc_extern L.f276 (by kernel_rfl) (by kernel_rfl) (by kernel_rfl) (e:=Extern.AbiNoEscape.same) (by kernel_rfl)]
 rw [Lib.run_noEscape]
 simp only [Result.andThen]
 rw [Oper.upon_value]
 go_wp2
 rw [Lib.run_from_unsafe w ⟨b,0,none⟩ L.t164 L.t70 hj hsh hlies]
 simp only [Result.andThen]
 rw [Oper.upon_value]
 go_wp2
 go_end0
 exact ⟨rfl,rfl⟩
end Go.Proofs.D
namespace Go.Proofs.D
open Go Go.Den
noncomputable section
set_option maxRecDepth 100000
set_option maxHeartbeats 4000000
abbrev djk1:List CK:=[.str,qi,qi,qi,qi]
abbrev djk2:List CK:=[.str, .slice, .slice,qi,qi]
abbrev djk3:List CK:=[qi, .str, .slice, .slice, .slice,qi,qi]
abbrev djk4:List CK:=[qi, .str, .str,qi, .str, .slice,qi,qi]
def d33:DCode:=up ⟨[(8, .l [.slice, .slice]),(9, .c (.one false [.bool])),(14, .l [.slice]),(19, .l djk1),(28, .l [qi]),(32, .l [.str]),(36, .l [qi]),(37, .c (.one false [.str])),(40, .c (.tup [])),(43, .l [qi]),(47, .l [.str]),(51, .l [qi]),(52, .c (.one false [.str])),(55, .c (.tup [])),(22, .l [.str]),(25, .c (.tup [])),(58, .l [.slice]),(63, .l djk2),(66, .l [.str]),(70, .l [.slice]),(71, .c (.one false [.str])),(74, .c (.tup [])),(77, .l [.slice]),(78, .c (.tup [])),(80, .c (.tup [])),(85, .c (.one false [.str]))],[],[(17,42,[(16,qi)],[]),(61,23,[(60,qi)],[])]⟩ (lw (fun d=>Nat.beq d 12) Tryz.f33)
theorem low33:lw (fun d=>Nat.beq d 12) Tryz.f33=some (eC d33):=by kernel_rfl
def R33 (a1:OA) (n1 djk1:Nat) (a2:OA) (n2 djk2:Nat) (h:PHeap) (Q:Value->PHeap->Prop):Prop:=
 tp 56 [vA [vL a1 n1 djk1,vL a2 n2 djk2]] h fun v_1 h_1=>
 ∃ c1,v_1=vB c1/\
 br (!c1)
 (Q (vS []) h_1)
 (alc h_1 [.pointer none,vL none 0 0,vI 0] 153 fun b1 h_2=>
 ∃ (I_1:Nat->Int->PHeap->Prop),(∃ m2,I_1 m2 0 h_2)/\
 ∀ m1 i1 h_3,I_1 m1 i1 h_3->
 br (decide (i1 < (n1:Int)))
 (slt a1 i1 n1 fun b2 o1=>
 ∃ l1 i2 i3 i4 i5,h_3.row b2 (o1+(i1).toNat * 5) [vS l1,vI i2,vI i3,vI i4,vI i5]/\
 br (i2 != 0)
 (([118,97,114,32]:Bs).length+l1.length<=9223372036854775807/\
 (([118,97,114,32]:Bs)++l1).length+([91]:Bs).length<=9223372036854775807/\
 tp 80 [vI i2] h_3 fun v_2 h_4=>
 ∃ l2,v_2=vS l2/\
 (tv [vS l1])/\
 ((([118,97,114,32]:Bs)++l1)++([91]:Bs)).length+l2.length<=9223372036854775807/\
 (((([118,97,114,32]:Bs)++l1)++([91]:Bs))++l2).length+([93,59]:Bs).length<=9223372036854775807/\
 tp 79 [vP b1 0,vS ((((([118,97,114,32]:Bs)++l1)++([91]:Bs))++l2)++([93,59]:Bs))] h_4 fun v_3 h_5=>
 v_3=vT []/\
 (tv [vS l1])/\
 ∃ m3,m3 < m1/\I_1 m3 (IntKind.i64.wrap (i1+1)) h_5/\
 tv [vL a1 n1 djk1,vL a2 n2 djk2]/\True)
 (br (i3 != 0)
 (([118,97,114,32]:Bs).length+l1.length<=9223372036854775807/\
 (([118,97,114,32]:Bs)++l1).length+([32,61,32]:Bs).length<=9223372036854775807/\
 tp 80 [vI i3] h_3 fun v_4 h_6=>
 ∃ l3,v_4=vS l3/\
 (tv [vS l1])/\
 ((([118,97,114,32]:Bs)++l1)++([32,61,32]:Bs)).length+l3.length<=9223372036854775807/\
 (((([118,97,114,32]:Bs)++l1)++([32,61,32]:Bs))++l3).length+([59]:Bs).length<=9223372036854775807/\
 tp 79 [vP b1 0,vS ((((([118,97,114,32]:Bs)++l1)++([32,61,32]:Bs))++l3)++([59]:Bs))] h_6 fun v_5 h_7=>
 v_5=vT []/\
 (tv [vS l1])/\
 ∃ m4,m4 < m1/\I_1 m4 (IntKind.i64.wrap (i1+1)) h_7/\
 tv [vL a1 n1 djk1,vL a2 n2 djk2]/\True)
 (([118,97,114,32]:Bs).length+l1.length<=9223372036854775807/\
 (([118,97,114,32]:Bs)++l1).length+([59]:Bs).length<=9223372036854775807/\
 tp 79 [vP b1 0,vS ((([118,97,114,32]:Bs)++l1)++([59]:Bs))] h_3 fun v_6 h_8=>
 v_6=vT []/\
 ∃ m5,m5 < m1/\I_1 m5 (IntKind.i64.wrap (i1+1)) h_8/\
 tv [vL a1 n1 djk1,vL a2 n2 djk2]/\True)))
 (∃ (I_2:Nat->Int->PHeap->Prop),(∃ m7,I_2 m7 0 h_3)/\
 ∀ m6 i6 h_9,I_2 m6 i6 h_9->
 br (decide (i6 < (n2:Int)))
 (slt a2 i6 n2 fun b3 o2=>
 ∃ l4 a3 n3 djk3 a4 n4 djk4 i7 i8,h_9.row b3 (o2+(i6).toNat * 5) [vS l4,vL a3 n3 djk3,vL a4 n4 djk4,vI i7,vI i8]/\
 ([102,117,110,99,32]:Bs).length+l4.length<=9223372036854775807/\
 (([102,117,110,99,32]:Bs)++l4).length+([40]:Bs).length<=9223372036854775807/\
 tp 81 [vL a3 n3 djk3,vS [44,32]] h_9 fun v_7 h_10=>
 ∃ l5,v_7=vS l5/\
 (tv [vS l4])/\
 ((([102,117,110,99,32]:Bs)++l4)++([40]:Bs)).length+l5.length<=9223372036854775807/\
 (((([102,117,110,99,32]:Bs)++l4)++([40]:Bs))++l5).length+([41,32,123]:Bs).length<=9223372036854775807/\
 tp 79 [vP b1 0,vS ((((([102,117,110,99,32]:Bs)++l4)++([40]:Bs))++l5)++([41,32,123]:Bs))] h_10 fun v_8 h_11=>
 v_8=vT []/\
 (tv [vS l4])/\
 tp 82 [vP b1 0,vL a4 n4 djk4] h_11 fun v_9 h_12=>
 v_9=vT []/\
 tp 79 [vP b1 0,vS [125]] h_12 fun v_10 h_13=>
 v_10=vT []/\
 ∃ m8,m8 < m6/\I_2 m8 (IntKind.i64.wrap (i6+1)) h_13/\
 tv [vL a1 n1 djk1,vL a2 n2 djk2]/\True)
 (tp 83 [vP b1 0] h_9 fun v_11 h_14=>
 ∃ l6,v_11=vS l6/\
 Q (vS l6) h_14)))
theorem T33 {a1 n1 djk1 a2 n2 djk2 h Q} (hR:R33 a1 n1 djk1 a2 n2 djk2 h Q):Tri Tryz.prog 33 [vA [vL a1 n1 djk1,vL a2 n2 djk2]] h Q:=
 tri_of_dn mixed Tryz.func33 rfl (by kernel_rfl) low33 (rs:=[.tmp 2]) (by kernel_rfl) rfl (Eq.mpr (by kernel_rfl) hR)
def d79:DCode:=up ⟨[(10, .l [qi]),(11, .c (.one false [.str])),(12, .c (.tup [(false,[qi]),(false,[.any])])),(17, .c (.tup [(false,[qi]),(false,[.any])])),(21, .c (.one false [.any]))],[],[]⟩ (lw nf Tryz.f79)
theorem low79:lw nf Tryz.f79=some (eC d79):=by kernel_rfl
def R79 (p1 o1:Nat) (l1:Bs) (h:PHeap) (Q:Value->PHeap->Prop):Prop:=
 ∃ i1,h.cell p1 (o1+2)=some (vI i1)/\
 tp 124 [vS [9],vI i1] h fun v_1 h_1=>
 ∃ l2,v_1=vS l2/\
 tp 123 [vP p1 o1,vS l2] h_1 fun v_2 h_2=>
 ∃ i2 u1,v_2=vT [vI i2,u1]/\
 tp 123 [vP p1 o1,vS l1] h_2 fun v_3 h_3=>
 ∃ i3 u2,v_3=vT [vI i3,u2]/\
 tp 125 [vP p1 o1,vU 10] h_3 fun v_4 h_4=>
 ∃ u3,v_4=u3/\
 Q (vT []) h_4
theorem T79 {p1 o1 l1 h Q} (hR:R79 p1 o1 l1 h Q):Tri Tryz.prog 79 [vP p1 o1,vS l1] h Q:=
 tri_of_dn mixed Tryz.func79 rfl (by kernel_rfl) low79 (rs:=[]) (by kernel_rfl) rfl (Eq.mpr (by kernel_rfl) hR)
def d82:DCode:=up ⟨[(9, .l [qi]),(18, .l djk3),(20, .l djk3),(21, .c (.tup [])),(26, .l [qi])],[12,29],[(16,9,[(15,qi)],[])]⟩ (lw nf Tryz.f82)
theorem low82:lw nf Tryz.f82=some (eC d82):=by kernel_rfl
def R82 (p1 o1:Nat) (a1:OA) (n1 djk1:Nat) (h:PHeap) (Q:Value->PHeap->Prop):Prop:=
 ∃ i1,h.cell p1 (o1+2)=some (vI i1)/\
 sto h p1 (o1+2) 1 [vI (IntKind.i64.wrap (i1+1))] fun h_1=>
 ∃ (I_1:Nat->Int->PHeap->Prop),(∃ m2,I_1 m2 0 h_1)/\
 ∀ m1 i2 h_2,I_1 m1 i2 h_2->
 br (decide (i2 < (n1:Int)))
 (slt a1 i2 n1 fun b1 o2=>
 ∃ i3 l2 a2 n2 djk2 a3 n3 djk3 a4 n4 djk4 i4 i5,h_2.row b1 (o2+(i2).toNat * 7) [vI i3,vS l2,vL a2 n2 djk2,vL a3 n3 djk3,vL a4 n4 djk4,vI i4,vI i5]/\
 tp 128 [vP p1 o1,vA [vI i3,vS l2,vL a2 n2 djk2,vL a3 n3 djk3,vL a4 n4 djk4,vI i4,vI i5]] h_2 fun v_1 h_3=>
 v_1=vT []/\
 ∃ m3,m3 < m1/\I_1 m3 (IntKind.i64.wrap (i2+1)) h_3/\
 True)
 (∃ i6,h_2.cell p1 (o1+2)=some (vI i6)/\
 sto h_2 p1 (o1+2) 1 [vI (IntKind.i64.wrap (i6 - 1))] fun h_4=>
 Q (vT []) h_4)
theorem T82 {p1 o1 a1 n1 djk1 h Q} (hR:R82 p1 o1 a1 n1 djk1 h Q):Tri Tryz.prog 82 [vP p1 o1,vL a1 n1 djk1] h Q:=
 tri_of_dn mixed Tryz.func82 rfl (by kernel_rfl) low82 (rs:=[]) (by kernel_rfl) rfl (Eq.mpr (by kernel_rfl) hR)
abbrev o123_0:Op:= .call { callee:=(.builtin .append),args:=#[(.tmp 12),(.tmp 13)],argTypes:=#[45,9] }
def d123:DCode:=up ⟨[(7, .c (.tup [])),(12, .l [.slice]),(14, .c (.one false [.slice]))],[16],[]⟩ (lw nf Tryz.f123)
theorem low123:lw nf Tryz.f123=some (eC d123):=by kernel_rfl
def R123 (p1 o1:Nat) (l1:Bs) (h:PHeap) (Q:Value->PHeap->Prop):Prop:=
 tp 156 [vP p1 o1] h fun v_1 h_1=>
 v_1=vT []/\
 ∃ a1 n1 djk1,h_1.cell p1 (o1+1)=some (vL a1 n1 djk1)/\
 rq [(12,vL a1 n1 djk1),(13,vS l1)] o123_0 45 h_1 fun v_2 h_2=>
 ∃ a2 n2 djk2,v_2=vL a2 n2 djk2/\
 sto h_2 p1 (o1+1) 1 [vL a2 n2 djk2] fun h_3=>
 Q (vT [vI (l1.length:Int), .nilIface]) h_3
theorem T123 {p1 o1 l1 h Q} (hR:R123 p1 o1 l1 h Q):Tri Tryz.prog 123 [vP p1 o1,vS l1] h Q:=
 tri_of_dn mixed Tryz.func123 rfl (by kernel_rfl) low123 (rs:=[.tmp 4, .tmp 5]) (by kernel_rfl) rfl (Eq.mpr (by kernel_rfl) hR)
abbrev o125_0:Op:= .call { callee:=(.builtin .append),args:=#[(.tmp 11),(.tmp 13)],argTypes:=#[45,45] }
def d125:DCode:=up ⟨[(6, .c (.tup [])),(11, .l [.slice]),(14, .c (.one false [.slice]))],[16],[]⟩ (lw nf Tryz.f125)
theorem low125:lw nf Tryz.f125=some (eC d125):=by kernel_rfl
def R125 (p1 o1:Nat) (i1:Int) (h:PHeap) (Q:Value->PHeap->Prop):Prop:=
 tp 156 [vP p1 o1] h fun v_1 h_1=>
 v_1=vT []/\
 ∃ a1 n1 djk1,h_1.cell p1 (o1+1)=some (vL a1 n1 djk1)/\
 alc h_1 [vU i1] 5 fun b1 h_2=>
 rq [(11,vL a1 n1 djk1),(13,vL (ad b1 0) 1 1)] o125_0 45 h_2 fun v_2 h_3=>
 ∃ a2 n2 djk2,v_2=vL a2 n2 djk2/\
 sto h_3 p1 (o1+1) 1 [vL a2 n2 djk2] fun h_4=>
 Q .nilIface h_4
theorem T125 {p1 o1 i1 h Q} (hR:R125 p1 o1 i1 h Q):Tri Tryz.prog 125 [vP p1 o1,vU i1] h Q:=
 tri_of_dn mixed Tryz.func125 rfl (by kernel_rfl) low125 (rs:=[.tmp 4]) (by kernel_rfl) rfl (Eq.mpr (by kernel_rfl) hR)
abbrev o83_0:Op:= .call { callee:=(.builtin .unsafeSliceData),args:=#[(.tmp 6)],argTypes:=#[45] }
abbrev o83_1:Op:= .call { callee:=(.builtin .unsafeString),args:=#[(.tmp 7),(.tmp 12)],argTypes:=#[204,3] }
def d83:DCode:=up ⟨[(6, .l [.slice]),(7, .c (.one false [.any])),(11, .l [.slice]),(13, .c (.one false [.str]))],[],[]⟩ (lw nf Tryz.f83)
theorem low83:lw nf Tryz.f83=some (eC d83):=by kernel_rfl
def R83 (p1 o1:Nat) (h:PHeap) (Q:Value->PHeap->Prop):Prop:=
 ∃ a1 n1 djk1,h.cell p1 (o1+1)=some (vL a1 n1 djk1)/\
 ∃ a2 n2 djk2,h.cell p1 (o1+1)=some (vL a2 n2 djk2)/\
 rq [(6,vL a1 n1 djk1)] o83_0 204 h fun v_1 h_1=>
 ∃ u1,v_1=u1/\
 (h_1.cell p1 (o1+1)=some (vL a2 n2 djk2))/\
 rq [(7,u1),(12,vI (n2:Int))] o83_1 9 h_1 fun v_2 h_2=>
 ∃ l1,v_2=vS l1/\
 (h_2.cell p1 (o1+1)=some (vL a2 n2 djk2))/\
 Q (vS l1) h_2
theorem T83 {p1 o1 h Q} (hR:R83 p1 o1 h Q):Tri Tryz.prog 83 [vP p1 o1] h Q:=
 tri_of_dn mixed Tryz.func83 rfl (by kernel_rfl) low83 (rs:=[.tmp 2]) (by kernel_rfl) rfl (Eq.mpr (by kernel_rfl) hR)
abbrev o128_1:Op:= .call { callee:=(.builtin .append),args:=#[(.tmp 14),(.tmp 17)],argTypes:=#[51,51] }
def d128:DCode:=up ⟨[(8, .l [.slice]),(13, .l djk4),(15, .l djk4),(16, .c (.one false [.str])),(18, .c (.one false [.slice])),(21, .l [qi]),(29, .l [.str]),(32, .c (.tup [])),(35, .l [.str]),(40, .l [.str]),(43, .c (.tup [])),(48, .l [.str]),(52, .l [.str]),(55, .c (.tup [])),(60, .l [.str]),(64, .l [.str]),(69, .l [.str]),(72, .c (.tup [])),(78, .l [.str]),(80, .c (.tup [])),(84, .l djk3),(85, .c (.tup [])),(91, .l [.str]),(94, .c (.tup [])),(97, .l [.slice]),(98, .c (.tup [])),(100, .c (.tup [])),(107, .c (.tup [])),(111, .l [.str]),(114, .c (.tup [])),(118, .c (.tup [])),(122, .c (.tup []))],[],[(11,12,[(4, .slice),(10,qi)],[])]⟩ (lw nf Tryz.f128)
theorem low128:lw nf Tryz.f128=some (eC d128):=by kernel_rfl
def R128 (p1 o1:Nat) (i1:Int) (l1:Bs) (a1:OA) (n1 djk1:Nat) (a2:OA) (n2 djk2:Nat) (a3:OA) (n3 djk3:Nat) (i2 i3:Int) (h:PHeap) (Q:Value->PHeap->Prop):Prop:=
 ∃ (I_1:Nat->OA->Nat->Nat->Int->PHeap->Prop),(∃ m2,I_1 m2 none 0 0 0 h)/\
 ∀ m1 a4 n4 djk4 i4 h_1,I_1 m1 a4 n4 djk4 i4 h_1->
 br (decide (i4 < (n1:Int)))
 (slt a1 i4 n1 fun b1 o2=>
 ∃ i5 l2 l3 i6 l4 a5 n5 k5 i7 i8,h_1.row b1 (o2+(i4).toNat * 8) [vI i5,vS l2,vS l3,vI i6,vS l4,vL a5 n5 k5,vI i7,vI i8]/\
 tp 67 [vA [vI i5,vS l2,vS l3,vI i6,vS l4,vL a5 n5 k5,vI i7,vI i8]] h_1 fun v_1 h_2=>
 ∃ l5,v_1=vS l5/\
 alc h_2 [vS l5] 9 fun b2 h_3=>
 rq [(14,vL a4 n4 djk4),(17,vL (ad b2 0) 1 1)] o128_1 51 h_3 fun v_2 h_4=>
 ∃ a6 n6 k6,v_2=vL a6 n6 k6/\
 ∃ m3,m3 < m1/\I_1 m3 a6 n6 k6 (IntKind.i64.wrap (i4+1)) h_4/\
 tv [vI i1,vS l1,vL a1 n1 djk1,vL a2 n2 djk2,vL a3 n3 djk3,vI i2,vI i3]/\True)
 (br (i1 == 1)
 (br ((n4:Int) == 0)
 (([118,97,114,32]:Bs).length+l1.length<=9223372036854775807/\
 (([118,97,114,32]:Bs)++l1).length+([59]:Bs).length<=9223372036854775807/\
 tp 79 [vP p1 o1,vS ((([118,97,114,32]:Bs)++l1)++([59]:Bs))] h_1 fun v_3 h_5=>
 v_3=vT []/\
 Q (vT []) h_5)
 (([118,97,114,32]:Bs).length+l1.length<=9223372036854775807/\
 (([118,97,114,32]:Bs)++l1).length+([32,61,32]:Bs).length<=9223372036854775807/\
 slt a4 (0:Int) n4 fun b3 o3=>
 ∃ l6,h_1.cell b3 o3=some (vS l6)/\
 ((([118,97,114,32]:Bs)++l1)++([32,61,32]:Bs)).length+l6.length<=9223372036854775807/\
 (((([118,97,114,32]:Bs)++l1)++([32,61,32]:Bs))++l6).length+([59]:Bs).length<=9223372036854775807/\
 tp 79 [vP p1 o1,vS ((((([118,97,114,32]:Bs)++l1)++([32,61,32]:Bs))++l6)++([59]:Bs))] h_1 fun v_4 h_6=>
 v_4=vT []/\
 (h_6.cell b3 o3=some (vS l6))/\
 (tv [vS l1])/\
 Q (vT []) h_6))
 (br (i1 == 2)
 (l1.length+([32,61,32]:Bs).length<=9223372036854775807/\
 slt a4 (0:Int) n4 fun b4 o4=>
 ∃ l7,h_1.cell b4 o4=some (vS l7)/\
 (l1++([32,61,32]:Bs)).length+l7.length<=9223372036854775807/\
 ((l1++([32,61,32]:Bs))++l7).length+([59]:Bs).length<=9223372036854775807/\
 tp 79 [vP p1 o1,vS (((l1++([32,61,32]:Bs))++l7)++([59]:Bs))] h_1 fun v_5 h_7=>
 v_5=vT []/\
 (h_7.cell b4 o4=some (vS l7))/\
 (tv [vS l1])/\
 Q (vT []) h_7)
 (br (i1 == 3)
 (l1.length+([91]:Bs).length<=9223372036854775807/\
 slt a4 (0:Int) n4 fun b5 o5=>
 ∃ l8,h_1.cell b5 o5=some (vS l8)/\
 (l1++([91]:Bs)).length+l8.length<=9223372036854775807/\
 ((l1++([91]:Bs))++l8).length+([93,32,61,32]:Bs).length<=9223372036854775807/\
 slt a4 (1:Int) n4 fun b6 o6=>
 ∃ l9,h_1.cell b6 (o6+1)=some (vS l9)/\
 (((l1++([91]:Bs))++l8)++([93,32,61,32]:Bs)).length+l9.length<=9223372036854775807/\
 ((((l1++([91]:Bs))++l8)++([93,32,61,32]:Bs))++l9).length+([59]:Bs).length<=9223372036854775807/\
 tp 79 [vP p1 o1,vS (((((l1++([91]:Bs))++l8)++([93,32,61,32]:Bs))++l9)++([59]:Bs))] h_1 fun v_6 h_8=>
 v_6=vT []/\
 (h_8.cell b6 (o6+1)=some (vS l9))/\
 (h_8.cell b5 o5=some (vS l8))/\
 (tv [vS l1])/\
 Q (vT []) h_8)
 (br (i1 == 4)
 (slt a4 (0:Int) n4 fun b7 o7=>
 ∃ l10,h_1.cell b7 o7=some (vS l10)/\
 l10.length+([59]:Bs).length<=9223372036854775807/\
 tp 79 [vP p1 o1,vS (l10++([59]:Bs))] h_1 fun v_7 h_9=>
 v_7=vT []/\
 Q (vT []) h_9)
 (br (i1 == 5)
 (tp 161 [vP p1 o1,vA [vI i1,vS l1,vL a1 n1 djk1,vL a2 n2 djk2,vL a3 n3 djk3,vI i2,vI i3]] h_1 fun v_8 h_10=>
 v_8=vT []/\
 Q (vT []) h_10)
 (br (i1 == 6)
 (slt a4 (0:Int) n4 fun b8 o8=>
 ∃ l11,h_1.cell b8 o8=some (vS l11)/\
 ([119,104,105,108,101,32,40]:Bs).length+l11.length<=9223372036854775807/\
 (([119,104,105,108,101,32,40]:Bs)++l11).length+([41,32,123]:Bs).length<=9223372036854775807/\
 tp 79 [vP p1 o1,vS ((([119,104,105,108,101,32,40]:Bs)++l11)++([41,32,123]:Bs))] h_1 fun v_9 h_11=>
 v_9=vT []/\
 tp 82 [vP p1 o1,vL a2 n2 djk2] h_11 fun v_10 h_12=>
 v_10=vT []/\
 tp 79 [vP p1 o1,vS [125]] h_12 fun v_11 h_13=>
 v_11=vT []/\
 Q (vT []) h_13)
 (br (i1 == 7)
 (br ((n4:Int) == 0)
 (tp 79 [vP p1 o1,vS [114,101,116,117,114,110,59]] h_1 fun v_12 h_14=>
 v_12=vT []/\
 Q (vT []) h_14)
 (slt a4 (0:Int) n4 fun b9 o9=>
 ∃ l12,h_1.cell b9 o9=some (vS l12)/\
 ([114,101,116,117,114,110,32]:Bs).length+l12.length<=9223372036854775807/\
 (([114,101,116,117,114,110,32]:Bs)++l12).length+([59]:Bs).length<=9223372036854775807/\
 tp 79 [vP p1 o1,vS ((([114,101,116,117,114,110,32]:Bs)++l12)++([59]:Bs))] h_1 fun v_13 h_15=>
 v_13=vT []/\
 Q (vT []) h_15))
 (br (i1 == 8)
 (tp 79 [vP p1 o1,vS [98,114,101,97,107,59]] h_1 fun v_14 h_16=>
 v_14=vT []/\
 Q (vT []) h_16)
 (br (i1 == 9)
 (tp 79 [vP p1 o1,vS [99,111,110,116,105,110,117,101,59]] h_1 fun v_15 h_17=>
 v_15=vT []/\
 Q (vT []) h_17)
 (Q (vT []) h_1))))))))))
theorem T128 {p1 o1 i1 l1 a1 n1 djk1 a2 n2 djk2 a3 n3 djk3 i2 i3 h Q} (hR:R128 p1 o1 i1 l1 a1 n1 djk1 a2 n2 djk2 a3 n3 djk3 i2 i3 h Q):Tri Tryz.prog 128 [vP p1 o1,vA [vI i1,vS l1,vL a1 n1 djk1,vL a2 n2 djk2,vL a3 n3 djk3,vI i2,vI i3]] h Q:=
 tri_of_dn mixed Tryz.func128 rfl (by kernel_rfl) low128 (rs:=[]) (by kernel_rfl) rfl (Eq.mpr (by kernel_rfl) hR)
def d161:DCode:=up ⟨[(9, .l [.slice]),(11, .l djk4),(12, .c (.one false [.str])),(15, .c (.tup [])),(18, .l [.slice]),(19, .c (.tup [])),(21, .l [.slice]),(26, .l [.slice]),(29, .l [qi]),(33, .l [.slice]),(35, .l djk3),(37, .l [.slice]),(41, .c (.tup [])),(44, .l [.slice]),(45, .c (.tup [])),(47, .c (.tup []))],[],[(5,32,[(4, .str)],[(3,djk3)])]⟩ (lw nf Tryz.f161)
theorem low161:lw nf Tryz.f161=some (eC d161):=by kernel_rfl
def R161 (p1 o1:Nat) (i1:Int) (l1:Bs) (a1:OA) (n1 djk1:Nat) (a2:OA) (n2 djk2:Nat) (a3:OA) (n3 djk3:Nat) (i2 i3:Int) (h:PHeap) (Q:Value->PHeap->Prop):Prop:=
 ∃ (I_1:Nat->Bs->Int->Bs->OA->Nat->Nat->OA->Nat->Nat->OA->Nat->Nat->Int->Int->PHeap->Prop),(∃ m2,I_1 m2 [] i1 l1 a1 n1 djk1 a2 n2 djk2 a3 n3 djk3 i2 i3 h)/\
 ∀ m1 l2 i4 l3 a4 n4 djk4 a5 n5 k5 a6 n6 k6 i5 i6 h_1,I_1 m1 l2 i4 l3 a4 n4 djk4 a5 n5 k5 a6 n6 k6 i5 i6 h_1->
 l2.length+([105,102,32,40]:Bs).length<=9223372036854775807/\
 slt a4 (0:Int) n4 fun b1 o2=>
 ∃ i7 l4 l5 i8 l6 a7 n7 k7 i9 i10,h_1.row b1 o2 [vI i7,vS l4,vS l5,vI i8,vS l6,vL a7 n7 k7,vI i9,vI i10]/\
 tp 67 [vA [vI i7,vS l4,vS l5,vI i8,vS l6,vL a7 n7 k7,vI i9,vI i10]] h_1 fun v_1 h_2=>
 ∃ l7,v_1=vS l7/\
 (l2++([105,102,32,40]:Bs)).length+l7.length<=9223372036854775807/\
 ((l2++([105,102,32,40]:Bs))++l7).length+([41,32,123]:Bs).length<=9223372036854775807/\
 tp 79 [vP p1 o1,vS (((l2++([105,102,32,40]:Bs))++l7)++([41,32,123]:Bs))] h_2 fun v_2 h_3=>
 v_2=vT []/\
 tp 82 [vP p1 o1,vL a5 n5 k5] h_3 fun v_3 h_4=>
 v_3=vT []/\
 br ((n6:Int) != 1)
 (br (decide ((n6:Int) > 0))
 (tp 79 [vP p1 o1,vS [125,32,101,108,115,101,32,123]] h_4 fun v_4 h_5=>
 v_4=vT []/\
 tp 82 [vP p1 o1,vL a6 n6 k6] h_5 fun v_5 h_6=>
 v_5=vT []/\
 tp 79 [vP p1 o1,vS [125]] h_6 fun v_6 h_7=>
 v_6=vT []/\
 Q (vT []) h_7)
 (tp 79 [vP p1 o1,vS [125]] h_4 fun v_7 h_8=>
 v_7=vT []/\
 Q (vT []) h_8))
 (slt a6 (0:Int) n6 fun b2 o3=>
 ∃ i11,h_4.cell b2 o3=some (vI i11)/\
 br (i11 != 5)
 (br (decide ((n6:Int) > 0))
 (tp 79 [vP p1 o1,vS [125,32,101,108,115,101,32,123]] h_4 fun v_8 h_9=>
 v_8=vT []/\
 tp 82 [vP p1 o1,vL a6 n6 k6] h_9 fun v_9 h_10=>
 v_9=vT []/\
 tp 79 [vP p1 o1,vS [125]] h_10 fun v_10 h_11=>
 v_10=vT []/\
 Q (vT []) h_11)
 (tp 79 [vP p1 o1,vS [125]] h_4 fun v_11 h_12=>
 v_11=vT []/\
 Q (vT []) h_12))
 (slt a6 (0:Int) n6 fun b3 o4=>
 ∃ i12 l8 a8 n8 k8 a9 n9 k9 a10 n10 k10 i13 i14,h_4.row b3 o4 [vI i12,vS l8,vL a8 n8 k8,vL a9 n9 k9,vL a10 n10 k10,vI i13,vI i14]/\
 ∃ m3,m3 < m1/\I_1 m3 [125,32,101,108,115,101,32] i12 l8 a8 n8 k8 a9 n9 k9 a10 n10 k10 i13 i14 h_4/\
 True))
theorem T161 {p1 o1 i1 l1 a1 n1 djk1 a2 n2 djk2 a3 n3 djk3 i2 i3 h Q} (hR:R161 p1 o1 i1 l1 a1 n1 djk1 a2 n2 djk2 a3 n3 djk3 i2 i3 h Q):Tri Tryz.prog 161 [vP p1 o1,vA [vI i1,vS l1,vL a1 n1 djk1,vL a2 n2 djk2,vL a3 n3 djk3,vI i2,vI i3]] h Q:=
 tri_of_dn mixed Tryz.func161 rfl (by kernel_rfl) low161 (rs:=[]) (by kernel_rfl) rfl (Eq.mpr (by kernel_rfl) hR)
end
end Go.Proofs.D
namespace Go.Proofs.D
open Go Go.Den Go.Sx
set_option maxRecDepth 100000
theorem cc_t {h:PHeap} {b:Nat} {p x y:Value} (hb:h b=some (.cells ⟨[p,x,y]⟩ 153 (0,0))) (hp:p= .pointer none∨p=vP b 0):
 Tri Tryz.prog 156 [vP b 0] h fun v h'=>v=vT []/\h'=h.put b (.cells ⟨[vP b 0,x,y]⟩ 153 (0,0)):=by
 intro w hs
 unfold CallR
 rw [enters_of Tryz.func156 (by kernel_rfl) rfl]
 have hw:=hs _ _ hb
 have hc0:w.cell? ⟨b,0,none⟩=some p:=by simp [World.cell?,hw]
 rcases hp with rfl | rfl
 . refine Calls.mono (copy_first w b hc0 (by simp [World.shape?,hw]) (by simp [World.frozen?,hw])) ?_
   rintro e w' ⟨rfl,rfl⟩
   have hsame:=Lib.heap_setCell_same (i:=0) hw (.pointer (some ⟨b,0,none⟩))
   have hother:∀ k,k≠b->(w.setCell ⟨b,0,none⟩ (.pointer (some ⟨b,0,none⟩))).heap[k]? =w.heap[k]? :=fun k hk=>RowKit.Below.heap_setCell w ⟨b,0,none⟩ _ k hk
   refine ⟨_,⟨rfl,rfl⟩,fun k o hk=>?_,rfl,rfl,rfl,by simp [World.setCell],fun k hk hn=>?_⟩
   . by_cases e:k=b
     . subst e
       rw [PHeap.put,if_pos rfl] at hk
       injection hk with hk
       rw [hsame,←hk];rfl
     . rw [PHeap.put,if_neg e] at hk
       rw [hother k e];exact hs _ _ hk
   . have e:k≠b:=fun e=>by subst e;rw [hb] at hn;cases hn
     rw [PHeap.put,if_neg e]
     exact ⟨hn,hother k e⟩
 . refine Calls.mono (copy_used w b hc0) ?_
   rintro e w' ⟨rfl,rfl⟩
   have:h.put b (.cells ⟨[vP b 0,x,y]⟩ 153 (0,0))=h:=by
    funext k
    unfold PHeap.put
    by_cases e:k=b
    . subst e;rw [if_pos rfl];exact hb.symm
    . rw [if_neg e]
   exact ⟨h,⟨rfl,this.symm⟩,hs,Keep.refl w' h⟩
attribute [local irreducible] IntKind.wrap Tri
theorem raw_appendz {h:PHeap} {ρ:Operand->Value} {cl:Call} {x y:Operand} {t t2 ty e:TypeId} {i:TypeInfo} {a:OA} {n cap:Nat} {vy:Value} (hc:cl.callee= .builtin .append) (ha:cl.args=#[x,y]) (hts:cl.argTypes=#[t,t2]) (hu:Tryz.prog.underlying t=some (.slice e)) (hi:Tryz.prog.info? e=some i)
 (hsrc:SrcH Tryz.prog h i.size t2 vy 0 []) (hx:ρ x=vL a n cap) (hy:ρ y=vy) (hfit:n<=cap):Raw Tryz.prog (execOp ρ (mkO (.call cl) ty)) h fun v h'=>v=vL a n cap/\h'=h:=by
 intro w hs
 have hsr:=hsrc w hs
 have hexec:(execOp ρ (mkO (.call cl) ty)).run Tryz.prog w=((Builtin.append_ #[t,t2] ty #[vL a n cap,vy]).run Tryz.prog w).andThen fun v w'=> .ok (.value v) w':=by
  simp [execOp,mkO,resolve,hc,ha,hts,hx,hy,invoke,builtin]
 have hrun:(Builtin.append_ #[t,t2] ty #[vL a n cap,vy]).run Tryz.prog w= .ok (vL a n cap) w:=by
  cases a <;> rcases hsr.kind with ⟨e',hk⟩ | hk <;> simp [Builtin.append_,run_underlying hu,run_underlying hk,sizeOf,typeInfo,hi,hsr.len,hfit,hsr.cells,storeCells]
 exact ⟨_,_,w,h,by rw [hexec,hrun];rfl, .inl rfl,⟨rfl,rfl⟩,hs,Keep.refl w h⟩
theorem OB.fit {h0 h:PHeap} {a:OA} {n k:Nat} {l:Bytes} (hb:OB h0 h a n k l):n<=k:=by
 rcases hb.own.2 with ⟨h1,h2⟩ | ⟨b',cap,rest,h1,h2,_,h4⟩
 . omega
 . injection h1 with _ _ h1;omega
theorem OB.app {h0 h:PHeap} {a:OA} {n k:Nat} {l m:Bytes} {t2 ty:TypeId} {vy:Value} (hb:OB h0 h a n k l) (hl:l.length<=10000000) (hl2:m.length<=10000000) (hsrc:SrcH Tryz.prog h 1 t2 vy m.length (m.map byteV))
 {ρ:Operand->Value} {cl:Call} {x y:Operand} (hcl:cl.callee= .builtin .append) (hca:cl.args=#[x,y]) (hts:cl.argTypes=#[45,t2]) (hx:ρ x=vL a n k) (hy:ρ y=vy):
 Raw Tryz.prog (execOp ρ (mkO (.call cl) ty)) h fun v h2=>∃ a' n' k',v=vL a' n' k'/\OB h0 h2 a' n' k' (l++m)/\∀ q o,h q=some o->a≠ad q 0->h2 q=some o/\a'≠ad q 0:=by
 obtain ⟨i,z,hi,hz,hzc,hk,hby⟩:=elem5
 have hn:=hb.len
 have hbig:(16 * (n+m.length)+16384) * i.bytes<=281474976710656:=by
  have:(16 * (n+m.length)+16384) * i.bytes<=(16 * (n+m.length)+16384) * 200:=Nat.mul_le_mul_left _ hby
  omega
 by_cases hm:m.length=0
 . have hm:m=[]:=List.eq_nil_of_length_eq_zero hm
   subst hm
   refine Raw.mono (raw_appendz hcl hca hts und45 hi (by rw [hk];exact hsrc) hx hy hb.fit) ?_
   rintro v h2 ⟨rfl,rfl⟩
   exact ⟨_,_,_,rfl,by rw [List.append_nil];exact hb,fun q o hq hne=>⟨hq,hne⟩⟩
 refine Raw.mono (raw_append hcl hca hts und45 hi hz hx hy (by rw [hk];exact hb.own) (by rw [hk];exact hsrc) (by rw [hzc,hk]) (by omega) hbig (by omega)) ?_
 rintro v h2 ⟨b,cap,rest,rfl,rfl,hr,hcap,hor⟩
 have hnew:h0 b=none:=by
  rcases hor with hor | ⟨c,hor⟩
  . cases e:h0 b with
    | none=>rfl
    | some o=>rw [hb.ext _ _ e] at hor;cases hor
  . injection hor with h1;exact hb.new b h1
 refine ⟨_,_,_,rfl,⟨⟨?_, .inr ⟨b,cap,rest,rfl,?_,by rw [hr,hk],hcap⟩⟩,fun q hq=>?_,fun q o hq=>?_⟩,fun q o hq hne=>?_⟩
 . simp;omega
 . rw [put_same,List.map_append]
 . injection hq with hq;injection hq with hq;subst hq;exact hnew
 . have hqb:q≠b:=fun e=>by subst e;rw [hnew] at hq;cases hq
   rw [put_ne hqb];exact hb.ext _ _ hq
 . have hqb:q≠b:=fun e=>by
    subst e
    rcases hor with hor | ⟨c,hor⟩
    . rw [hor] at hq;cases hq
    . injection hor with h1;exact hne h1
   exact ⟨by rw [put_ne hqb];exact hq,fun e=>by injection e with e;injection e with e;exact hqb e.symm⟩
theorem OB.putb {h0 h:PHeap} {a:OA} {n k b:Nat} {l:Bytes} {o:Obj} (hb:OB h0 h a n k l) (hab:a≠ad b 0) (hn:h0 b=none):OB h0 (h.put b o) a n k l:=by
 refine ⟨Own.keep (fun q hq=>put_ne (fun e=>by subst e;exact hab hq)) hb.own,hb.new,fun q o' hq=>?_⟩
 have hqb:q≠b:=fun e=>by subst e;rw [hn] at hq;cases hq
 rw [put_ne hqb];exact hb.ext _ _ hq
theorem OB.up {h0 h h':PHeap} {a:OA} {n k:Nat} {l:Bytes} (hb:OB h0 h a n k l) (x:Ext h h'):OB h0 h' a n k l:=by
 refine ⟨⟨hb.own.1,?_⟩,hb.new,hb.ext.trans x⟩
 rcases hb.own.2 with h1 | ⟨b',cap,rest,h1,h2,h3,h4⟩
 . exact .inl h1
 . exact .inr ⟨b',cap,rest,h1,x _ _ h2,h3,h4⟩
structure PW (h0 h:PHeap) (b:Nat) (β:Bytes) (d:Nat):Prop where
 blk:∃ p a n k,h b=some (.cells ⟨[p,vL a n k,vI d]⟩ 153 (0,0))/\(p= .pointer none∨p=vP b 0)/\OB h0 h a n k β/\a≠ad b 0
 new:h0 b=none
section
variable {h0 h h' : PHeap} {b : Nat} {β : Bytes} {d : Nat}
theorem PW.ext (hw:PW h0 h b β d):Ext h0 h:=by
 obtain ⟨p,a,n,k,_,_,hO,_⟩:=hw.blk
 exact hO.ext
theorem PW.up (hw:PW h0 h b β d) (x:Ext h h'):PW h0 h' b β d:=by
 obtain ⟨p,a,n,k,hb,hp,hO,hne⟩:=hw.blk
 exact ⟨⟨p,a,n,k,x _ _ hb,hp,hO.up x,hne⟩,hw.new⟩
theorem PW.depth (hw:PW h0 h b β d):h.cell b (0+2)=some (vI d):=by
 obtain ⟨p,a,n,k,hb,hp,hO,hne⟩:=hw.blk
 rw [cell_of hb];rfl
theorem PW.setd (hw:PW h0 h b β d) (d':Nat):∃ l,h b=some (.cells ⟨l⟩ 153 (0,0))/\(0+2)+1<=l.length/\∀ v,v=vI d'->PW h0 (h.put b (.cells ⟨splice l (0+2) [v]⟩ 153 (0,0))) b β d':=by
 obtain ⟨p,a,n,k,hb,hp,hO,hne⟩:=hw.blk
 refine ⟨_,hb,by simp,fun v hv=>?_⟩
 subst hv
 exact ⟨⟨p,a,n,k,put_same _ _ _,hp,hO.putb hne hw.new,hne⟩,hw.new⟩
theorem writes_t {l:Bytes} (hw:PW h0 h b β d) (hl:β.length<=10000000) (hl2:l.length<=10000000):Tri Tryz.prog 123 [vP b 0,vS l] h fun v h'=>∃ i u,v=vT [vI i,u]/\PW h0 h' b (β++l) d:=by
 obtain ⟨p,a,n,k,hb,hp,hO,hne⟩:=hw.blk
 refine T123 ?_
 unfold R123
 refine Tri.mono (cc_t hb hp) ?_
 rintro _ h1 ⟨rfl,rfl⟩
 have hO1:OB h0 (h.put b (.cells ⟨[vP b 0,vL a n k,vI d]⟩ 153 (0,0))) a n k β:=hO.putb hne hw.new
 refine ⟨rfl,a,n,k,by rw [cell_of (put_same _ _ _)];rfl,?_⟩
 refine Raw.mono (OB.app hO1 hl hl2 (SrcH.string rfl ⟨⟨l⟩⟩) rfl rfl rfl rfl rfl) ?_
 rintro v h2 ⟨a',n',k',rfl,hO2,hk⟩
 obtain ⟨hb2,hne2⟩:=hk b _ (put_same _ _ _) hne
 refine ⟨_,_,_,rfl,_,_,_,hb2,⟨by simp,Nat.zero_le _⟩,fun h3 hh3=>?_⟩
 subst hh3
 exact ⟨_,_,rfl,⟨_,a',n',k',put_same _ _ _, .inr rfl,hO2.putb hne2 hw.new,hne2⟩,hw.new⟩
theorem writeb_t {c:UInt8} (hw:PW h0 h b β d) (hl:β.length<=10000000):Tri Tryz.prog 125 [vP b 0,vU c.toNat] h fun _ h'=>PW h0 h' b (β++[c]) d:=by
 obtain ⟨p,a,n,k,hb,hp,hO,hne⟩:=hw.blk
 refine T125 ?_
 unfold R125
 refine Tri.mono (cc_t hb hp) ?_
 rintro _ h1 ⟨rfl,rfl⟩
 have hO1:OB h0 (h.put b (.cells ⟨[vP b 0,vL a n k,vI d]⟩ 153 (0,0))) a n k β:=hO.putb hne hw.new
 refine ⟨rfl,a,n,k,by rw [cell_of (put_same _ _ _)];rfl,fun b2 hb2 h2 hh2=>?_⟩
 have hx2:=Put.ext hh2 hb2
 refine Raw.mono (OB.app (m:=[c]) (hO1.up hx2) hl (by simp) (SrcH.row (b:=b2) (o:=0) (c:=1) und45 rfl (by exact (row_lit (Put.at hh2) fun j v hj=>by rw [Nat.zero_add];exact hj)) rfl) rfl rfl rfl rfl rfl) ?_
 rintro v h3 ⟨a',n',k',rfl,hO2,hk⟩
 obtain ⟨hb3,hne2⟩:=hk b _ (hx2 _ _ (put_same _ _ _)) hne
 refine ⟨_,_,_,rfl,_,_,_,hb3,⟨by simp,Nat.zero_le _⟩,fun h4 hh4=>?_⟩
 subst hh4
 exact ⟨⟨_,a',n',k',put_same _ _ _, .inr rfl,hO2.putb hne2 hw.new,hne2⟩,hw.new⟩
theorem tabB_len (n:Nat):(tabB n).length=n:=by
 induction n with
 | zero=>rfl
 | succ n ih=>rw [tabB,List.length_cons,ih]
theorem line_t {l:Bytes} (hw:PW h0 h b β d) (hd:d<=100000) (hl:β.length+l.length<=1000000):Tri Tryz.prog 79 [vP b 0,vS l] h fun v h'=>v=vT []/\PW h0 h' b (β++(tabB d++(l++[10]))) d:=by
 refine T79 ?_
 unfold R79
 refine ⟨_,hw.depth,?_⟩
 refine Tri.mono (repeat_t d (by omega)) ?_
 rintro _ h1 ⟨rfl,rfl⟩
 have ht:=tabB_len d
 refine ⟨_,rfl,?_⟩
 refine Tri.mono (writes_t hw (by omega) (by omega)) ?_
 rintro _ h2 ⟨i,u,rfl,hw2⟩
 refine ⟨_,_,rfl,?_⟩
 refine Tri.mono (writes_t hw2 (by rw [List.length_append];omega) (by omega)) ?_
 rintro _ h3 ⟨i3,u3,rfl,hw3⟩
 refine ⟨_,_,rfl,?_⟩
 refine Tri.mono (writeb_t (c:=10) hw3 (by simp only [List.length_append];omega)) ?_
 intro v4 h4 hw4
 exact ⟨_,rfl,rfl,by simpa using hw4⟩
end
end Go.Proofs.D
namespace Go.Proofs.D
open Go Go.Den Go.Sx
set_option maxRecDepth 100000
attribute [local irreducible] IntKind.wrap Tri
section
variable {h0 h h' g : PHeap} {b : Nat} {β : Bytes} {d : Nat}
theorem PW.base (hw:PW h0 h b β d):∃ g,Ext h0 g/\PW g h b β d/\∀ q l z,h q=some (.cells l 9 z)->g q=some (.cells l 9 z):=by
 obtain ⟨p,a,n,k,hb,hp,hO,hne⟩:=hw.blk
 refine ⟨only (fun q=>q≠b/\a≠ad q 0) h,fun q o hq=>only_some.2 ⟨⟨fun e=>?_,fun e=>?_⟩,hO.ext q o hq⟩,⟨⟨p,a,n,k,hb,hp,⟨hO.own,fun q hq=>?_,only_sub⟩,hne⟩,?_⟩,fun q l z hq=>only_some.2 ⟨⟨fun e=>?_,fun e=>?_⟩,hq⟩⟩
 . subst e;rw [hw.new] at hq;cases hq
 . rw [hO.new q e] at hq;cases hq
 . unfold only;rw [if_neg];exact fun h=>h.2 hq
 . unfold only;rw [if_neg];exact fun h=>h.1 rfl
 . subst e;rw [hb] at hq;injection hq with hq;injection hq with _ hq;cases hq
 . rcases hO.own.2 with ⟨h1,_⟩ | ⟨b',cap,rest,h1,h2,_⟩
   . injection h1 with h1;rw [e] at h1;cases h1
   . injection h1 with h1;rw [e] at h1;injection h1 with h1;injection h1 with h1;subst h1
     rw [h2] at hq;injection hq with hq;injection hq with _ hq;cases hq
theorem PW.rebase (x:Ext h0 g) (hw:PW g h b β d):PW h0 h b β d:=by
 obtain ⟨p,a,n,k,hb,hp,hO,hne⟩:=hw.blk
 have key:∀ q,g q=none->h0 q=none:=fun q hq=>by
  cases e:h0 q with
  | none=>rfl
  | some o=>rw [x _ _ e] at hq;cases hq
 exact ⟨⟨p,a,n,k,hb,hp,⟨hO.own,fun q hq=>key q (hO.new q hq),x.trans hO.ext⟩,hne⟩,key _ hw.new⟩
theorem line_k {l:Bytes} (hw:PW h0 h b β d) (hd:d<=100000) (hl:β.length+l.length<=1000000):Tri Tryz.prog 79 [vP b 0,vS l] h fun v h'=>v=vT []/\PW h0 h' b (β++(tabB d++(l++[10]))) d/\∀ q l z,h q=some (.cells l 9 z)->h' q=some (.cells l 9 z):=by
 obtain ⟨g,x,hg,hk⟩:=hw.base
 refine Tri.mono (line_t hg hd hl) ?_
 rintro _ h' ⟨rfl,hg'⟩
 exact ⟨rfl,hg'.rebase x,fun q l z hq=>hg'.ext _ _ (hk q l z hq)⟩
end
theorem elB_nil (n:Nat):elB n []=[]:=rfl
theorem elB_chain (n:Nat) {s:S} (h:sk s=5):elB n [s]=32::(kElse++32::prS n s):=by simp [elB,chain,h,prSl]
theorem elB_block (n:Nat) {c:List S} (h1:c≠[]) (h2:chain c=false):elB n c=32::(kElse++32::123::10::(prSs (n+1) c++(tabB n++[125]))):=by
 unfold elB
 rw [if_neg (by simpa using h1),h2];rfl
theorem LM.txt {h0 h:PHeap} {a:OA} {n k:Nat} {L:List E} (hM:LM 9 1 h0 h a n k (L.map fun e=>[vS (prE e)])) (hL:L≠[]):
 ∃ b l z,a=ad b 0/\h b=some (.cells l 9 z)/\∀ g:PHeap,g b=some (.cells l 9 z)->∀ (j:Nat) (e:E),L[j]? =some e->g.cell b j=some (vS (prE e)):=by
 have hrow:=hM.row
 have hlen:=hM.len
 rw [flat_vS2] at hrow
 rcases hrow.2 with ⟨_,h1⟩ | ⟨b',cap,rest,h1,h2,_,_⟩
 . subst h1;simp at hlen;exact absurd hlen hL
 . injection h1 with h1 _ _
   refine ⟨b',_,_,h1,h2,fun g hg j e he=>?_⟩
   rw [cell_of hg,List.getElem?_append_left (by simp;exact (List.getElem?_eq_some_iff.1 he).1)]
   simp [he]
section
variable {p : Nat → Int × Int} {h0 : PHeap} {b : Nat}
def LP (p:Nat->Int×Int) (h0:PHeap) (b k:Nat):Prop:=∀ (l:List S),cntSs l<=k->(∀ s∈l,OkS s)->∀ (a:OA) (c:Nat) (h:PHeap) (β:Bytes) (d:Nat),At 7 (RS (plQ p) 8 7) h0 a l->PW h0 h b β d->d+k<=50000->β.length+(prSs (d+1) l).length<=1000000->
 Tri Tryz.prog 82 [vP b 0,vL a l.length c] h fun v h'=>v=vT []/\PW h0 h' b (β++prSs (d+1) l) d
def SP (p:Nat->Int×Int) (h0:PHeap) (b k:Nat):Prop:=∀ (s:S),cntS s<=k->OkS s->∀ (cs:List Value) (h:PHeap) (β:Bytes) (d:Nat),RS (plQ p) 8 7 h0 s cs->PW h0 h b β d->d+k<=50001->β.length+(tabB d++(prS d s++[10])).length<=1000000->
 Tri Tryz.prog 128 [vP b 0,vA cs] h fun v h'=>v=vT []/\PW h0 h' b (β++(tabB d++(prS d s++[10]))) d
theorem prSs_drop {n:Nat} {l:List S} {j:Nat} (hj:j < l.length):prSs n (l.drop j)=tabB n++(prS n l[j]++10::prSs n (l.drop (j+1))):=by
 rw [List.drop_eq_getElem_cons hj];rfl
theorem list_p {k:Nat} (hS:SP p h0 b k):LP p h0 b k:=by
 intro l hc hok a c h β d hA hw hd hl
 refine T82 ?_
 unfold R82
 have hlen:=cntSs_len l
 obtain ⟨l1,hl1,hl2,hset⟩:=hw.setd (d+1)
 have w1:IntKind.i64.wrap (((d:Nat):Int)+1)=((d+1:Nat):Int):=by rw [wrap64 (by omega) (by omega)];rfl
 refine ⟨_,hw.depth,l1,_,_,hl1,⟨hl2,Nat.zero_le _⟩,fun h1 hh1=>?_⟩
 have hw1:=hset (vI (IntKind.i64.wrap (((d:Nat):Int)+1))) (by rw [w1])
 rw [←hh1] at hw1
 refine ⟨fun m i h'=>∃ (j:Nat) (β':Bytes),i=j/\j+m=l.length/\PW h0 h' b β' (d+1)/\β'++prSs (d+1) (l.drop j)=β++prSs (d+1) l,⟨l.length,0,β,rfl,by omega,hw1,rfl⟩,?_⟩
 rintro m _ h2 ⟨j,β',rfl,hjm,hw2,hβ⟩
 refine br_split (fun e=>?_) (fun e=>?_)
 . have hj:j < l.length:=by have:=of_decide_eq_true e;omega
   obtain ⟨b1,o,cs,ha,hr,hrel⟩:=hA.get hj
   have hmem:=List.getElem_mem hj
   have hcj:=cntSs_mem hmem
   have hokj:=hok _ hmem
   have hβl:=congrArg List.length hβ
   rw [prSs_drop hj] at hβ hβl
   simp only [List.length_append,List.length_cons] at hβl
   generalize l[j]=s at *
   have hSs:=hS s (by omega) hokj cs h2 β' (d+1) hrel hw2 (by omega) (by simp only [List.length_append,List.length_cons,List.length_nil];omega)
   match s,hrel with
   | .mk kd nm args body els pos,hrel=>
   obtain ⟨a3,ac,b3,bc,e3,ec,rfl,_⟩:=RS_iff.1 hrel
   refine ⟨b1,o,ha,⟨by omega,by omega⟩,_,_,_,_,_,_,_,_,_,_,_,_,_,row_ext (fun ob=>hw2.ext b1 ob) hr,?_⟩
   refine Tri.mono hSs ?_
   rintro _ h3 ⟨rfl,hw3⟩
   refine ⟨rfl,m - 1,by omega,⟨j+1,_,?_,by omega,hw3,?_⟩,trivial⟩
   . rw [wrap64 (by omega) (by omega)];rfl
   . rw [←hβ];simp
 . have hj:l.length<=j:=by have:=of_decide_eq_false e;omega
   rw [List.drop_eq_nil_of_le hj,prSs,List.append_nil] at hβ
   subst hβ
   obtain ⟨l2,hl3,hl4,hset2⟩:=hw2.setd d
   refine ⟨_,hw2.depth,l2,_,_,hl3,⟨hl4,Nat.zero_le _⟩,fun h3 hh3=>⟨rfl,?_⟩⟩
   rw [hh3]
   exact hset2 _ (by rw [wrap64 (by omega) (by omega)];congr 1;omega)
set_option maxHeartbeats 4000000 in
theorem if_p {k:Nat} (hL:LP p h0 b k) (hpt:PowTab h0):∀ (s:S),sk s=5->cntS s<=k+1->OkS s->∀ (cs:List Value) (h:PHeap) (β:Bytes) (d:Nat),RS (plQ p) 8 7 h0 s cs->PW h0 h b β d->d+k<=50000->β.length+(tabB d++(prS d s++[10])).length<=1000000->
 Tri Tryz.prog 161 [vP b 0,vA cs] h fun v h'=>v=vT []/\PW h0 h' b (β++(tabB d++(prS d s++[10]))) d:=by
 intro s hsk hc hok cs h β d hrel hw hd hl
 obtain ⟨total,ht⟩:∃ t,t=β++(tabB d++(prS d s++[10])):=⟨_,rfl⟩
 have htl:total.length<=1000000:=by rw [ht,List.length_append];exact hl
 rw [←ht]
 match s,hsk,hc,hok,hrel,ht with
 | .mk kd nm args body els pos,hsk,hc,hok,hrel,ht=>
 have hrel0:=hrel
 obtain ⟨a3,ac,b3,bc,e3,ec,rfl,_⟩:=RS_iff.1 hrel
 refine T161 ?_
 unfold R161
 refine ⟨fun m pre i1 l1 a1 n1 k1 a2 n2 k2 a3 n3 k3 i2 i3 h'=>∃ (s':S) (β':Bytes),sk s'=5/\cntS s'=m/\m<=k+1/\OkS s'/\RS (plQ p) 8 7 h0 s' [vI i1,vS l1,vL a1 n1 k1,vL a2 n2 k2,vL a3 n3 k3,vI i2,vI i3]/\PW h0 h' b β' d/\β'++(tabB d++(pre++(prS d s'++[10])))=total,
  ⟨_,_,β,hsk,rfl,hc,hok,hrel0,hw,ht.symm⟩,?_⟩
 clear ht hrel0 hrel hok hc hsk hl hw
 rintro m pre i1 l1 a1 n1 k1 a2 n2 k2 a4 n4 k4 i2 i3 h1 ⟨s',β',hsk,hm,hmk,hok,hrel,hw,ht⟩
 cases hok with
 | ifs he hb hc=>
   rename_i e bd c pos'
   obtain ⟨a3',ac',b3',bc',e3',ec',hcs,hA,hB,hC⟩:=RS_iff.1 hrel
   simp only [plQ,List.cons_append,List.nil_append,List.cons.injEq,Value.int.injEq,Value.slice.injEq,true_and,and_true] at hcs
   obtain ⟨-, -,⟨rfl,rfl,rfl⟩,⟨rfl,rfl,rfl⟩,⟨rfl,rfl,rfl⟩, -, -⟩:=hcs
   simp only [cntS,cntEs] at hm
   have htl2:=congrArg List.length ht
   rw [ps_if] at ht htl2
   simp only [List.length_append,List.length_cons] at htl2
   obtain ⟨b1,o,cse,ha,hr,hrelE⟩:=hA.get (n:=0) (by simp)
   have hexp:=exp_q (p:=p) (cntE e) e (Nat.le_refl _) (by omega) he (by omega) cse h1 (hpt.ext hw.ext) (hrelE.ext hw.ext)
   match e,hexp,hrelE with
   | .mk kde ope nme vle txe argse pose,hexp,hrelE=>
   obtain ⟨a8,c8,rfl,hA8⟩:=RE_iff.1 hrelE
   generalize prE (.mk kde ope nme vle txe argse pose)=X at *
   simp only [kIf,List.length_cons,List.length_nil] at htl2
   refine ⟨by simp;omega,b1,o,ha,⟨by decide,by simp⟩,_,_,_,_,_,_,_,_,_,_,row_ext (fun ob=>hw.ext b1 ob) hr,?_⟩
   refine Tri.mono hexp ?_
   rintro _ h2 ⟨rfl,hx2⟩
   refine ⟨_,rfl,by simp;omega,by simp;omega,?_⟩
   refine Tri.mono (line_t (hw.up hx2) (by omega) (by simp;omega)) ?_
   rintro _ h3 ⟨rfl,hw3⟩
   refine ⟨rfl,?_⟩
   refine Tri.mono (hL bd (by omega) hb _ _ _ _ _ hB hw3 (by omega) (by simp;omega)) ?_
   rintro _ h4 ⟨rfl,hw4⟩
   refine ⟨rfl,?_⟩
   have hblock:∀ (Q':Prop),c≠[]->chain c=false->Tri Tryz.prog 79 [vP b 0,vS [125,32,101,108,115,101,32,123]] h4 fun v_4 h_5=>v_4=vT []/\Tri Tryz.prog 82 [vP b 0,vL a4 c.length k4] h_5 fun v_5 h_6=>v_5=vT []/\Tri Tryz.prog 79 [vP b 0,vS [125]] h_6 fun v_6 h_7=>v_6=vT []/\(vT []=vT []/\PW h0 h_7 b total d):=by
    intro _ hn hch
    rw [elB_block d hn hch] at ht htl2
    simp only [kElse,List.length_append,List.length_cons,List.length_nil] at htl2
    refine Tri.mono (line_t hw4 (by omega) (by simp;omega)) ?_
    rintro _ h5 ⟨rfl,hw5⟩
    refine ⟨rfl,?_⟩
    refine Tri.mono (hL c (by omega) hc _ _ _ _ _ hC hw5 (by omega) (by simp;omega)) ?_
    rintro _ h6 ⟨rfl,hw6⟩
    refine ⟨rfl,?_⟩
    refine Tri.mono (line_t hw6 (by omega) (by simp;omega)) ?_
    rintro _ h7 ⟨rfl,hw7⟩
    refine ⟨rfl,rfl,?_⟩
    rw [←ht]
    simpa [kIf,kElse] using hw7
   have hcn:=cntSs_len c
   match c,hc,hC,hm,ht,htl2,hblock with
   | [],hc,hC,hm,ht,htl2,hblock=>
     refine br_pos rfl (br_neg rfl ?_)
     rw [elB_nil] at ht htl2
     simp only [List.length_nil] at htl2
     refine Tri.mono (line_t hw4 (by omega) (by simp;omega)) ?_
     rintro _ h5 ⟨rfl,hw5⟩
     refine ⟨rfl,rfl,?_⟩
     rw [←ht]
     simpa [kIf] using hw5
   | s1::s2::c',hc,hC,hm,ht,htl2,hblock=>
     refine br_pos (by simp;omega) (br_pos (by simp;omega) ?_)
     exact hblock True (by simp) rfl
   | [s1],hc,hC,hm,ht,htl2,hblock=>
     obtain ⟨b5,o5,cs5,ha5,hr5,hrel5⟩:=hC.get (n:=0) (by simp)
     have hr5:=row_ext (fun ob=>hw4.ext b5 ob) hr5
     have hok1:=hc s1 (List.mem_cons_self ..)
     match s1,hC,hrel5,hc,hm,ht,htl2,hblock,hok1 with
     | .mk kd1 nm1 args1 bd1 els1 pos1,hC,hrel5,hc,hm,ht,htl2,hblock,hok1=>
     have hrel6:=hrel5
     obtain ⟨a9,ac9,b9,bc9,e9,ec9,rfl,_⟩:=RS_iff.1 hrel5
     refine br_neg rfl ⟨b5,o5,ha5,⟨by decide,by simp⟩,_,hr5.1,?_⟩
     refine br_split (fun e1=>?_) (fun e1=>?_)
     . refine br_pos (by simp) ?_
       have e1:kd1≠5:=by intro e;subst e;simp at e1
       exact hblock True (by simp) (by simp [chain,sk,e1])
     . have e1:kd1=5:=by simp at e1;omega
       subst e1
       refine ⟨b5,o5,ha5,⟨by decide,by simp⟩,_,_,_,_,_,_,_,_,_,_,_,_,_,hr5,?_⟩
       rw [elB_chain d rfl] at ht
       simp only [cntSs] at hm
       refine ⟨_,?_,⟨_,_,rfl,rfl,?_,hok1,hrel6,hw4,?_⟩,trivial⟩
       . omega
       . omega
       . rw [←ht];simp [kIf,kElse]
 | _=>cases hsk
end
end Go.Proofs.D
namespace Go.Proofs.D
open Go Go.Den Go.Sx
set_option maxRecDepth 100000
attribute [local irreducible] IntKind.wrap Tri
theorem args_le {k:Nat} {nm:Bytes} {args:List E} {body els:List S} {pos:Nat} (h:OkS (.mk k nm args body els pos)) (n:Nat):∀ e∈args,OkE e/\(prE e).length<=(prS n (.mk k nm args body els pos)).length:=by
 cases h with
 | decl _=>intro e he;cases he
 | decl1 _ h=>intro e he;simp at he;subst he;exact ⟨h,by rw [ps_decl1];simp;omega⟩
 | asg _ h=>intro e he;simp at he;subst he;exact ⟨h,by rw [ps_asg];simp;omega⟩
 | sto _ h1 h2=>
   intro e he;simp at he
   rcases he with rfl | rfl
   . exact ⟨h1,by rw [ps_sto];simp;omega⟩
   . exact ⟨h2,by rw [ps_sto];simp;omega⟩
 | call hn h=>intro e he;simp at he;subst he;exact ⟨.call hn h,by rw [ps_call];simp⟩
 | ifs h _ _=>intro e he;simp at he;subst he;exact ⟨h,by rw [ps_if];simp;omega⟩
 | whl h _=>intro e he;simp at he;subst he;exact ⟨h,by rw [ps_while];simp;omega⟩
 | ret=>intro e he;cases he
 | ret1 h=>intro e he;simp at he;subst he;exact ⟨h,by rw [ps_ret1];simp;omega⟩
 | brk=>intro e he;cases he
 | cont=>intro e he;cases he
section
variable {p : Nat → Int × Int} {h0 : PHeap} {b : Nat}
set_option maxHeartbeats 4000000 in
theorem stmt_p {k:Nat} (hL:LP p h0 b k) (hpt:PowTab h0):SP p h0 b (k+1):=by
 intro s hc hok cs h β d hrel hw hd hl
 have hif:=if_p hL hpt s
 match s,hc,hok,hrel,hl,hif with
 | .mk kd nm args body els pos,hc,hok,hrel,hl,hif=>
 have hrel0:=hrel
 have harg:=args_le hok d
 obtain ⟨a3,ac,b3,bc,e3,ec,rfl,hA,hB,hC⟩:=RS_iff.1 hrel
 have hc':=hc
 simp only [cntS] at hc'
 have hlen:=cntEs_len args
 refine T128 ?_
 unfold R128
 refine ⟨fun m a n k i h'=>∃ j:Nat,i=j/\j+m=args.length/\n=j/\Ext h h'/\LM 9 1 h h' a n k ((args.take j).map fun e=>[vS (prE e)]),⟨args.length,0,rfl,by omega,rfl,Ext.refl _,LM.nil⟩,?_⟩
 rintro m a2 n2 k2 _ h1 ⟨j,rfl,hjm,rfl,hx1,hM1⟩
 have hw1:=hw.up hx1
 refine br_split (fun e2=>?_) (fun e2=>?_)
 . have hj:n2 < args.length:=by
    have:=of_decide_eq_true e2
    omega
   obtain ⟨b1,o,cs,rfl,hr,hrel⟩:=hA.get hj
   have hmem:=List.getElem_mem hj
   obtain ⟨hoe,hle⟩:=harg _ hmem
   have hce:=cntEs_mem hmem
   simp only [List.length_append,List.length_cons,List.length_nil] at hl
   have ihj:=exp_q (p:=p) (cntE args[n2]) _ (Nat.le_refl _) (by omega) hoe (by omega) cs h1 (hpt.ext hw1.ext) (hrel.ext hw1.ext)
   have htake:=List.take_append_getElem hj
   generalize args[n2]=x at *
   match x,hrel,ihj with
   | .mk kd' op' nm' vl' tx' args' pos',hrel,ihj=>
   obtain ⟨a3,c3,rfl,hA3⟩:=RE_iff.1 hrel
   refine ⟨b1,o,rfl,⟨by omega,by omega⟩,_,_,_,_,_,_,_,_,_,_,row_ext (fun ob=>hw1.ext b1 ob) hr,?_⟩
   refine Tri.mono ihj ?_
   rintro _ h2 ⟨rfl,hx2⟩
   refine ⟨_,rfl,?_⟩
   intro b2 hb2 h3 hh3
   refine Raw.mono (LM.append (h0:=h) (cs:=[vS _]) und51 elem9 rfl rfl rfl rfl rfl (hM1.ext hx2) hb2 hh3 rfl rfl (by omega) (hx1.trans hx2).dom) ?_
   rintro _ h4 ⟨b4,cap4,rfl,hk4,hd4,hn4,hq4,hM4,hR4⟩
   refine ⟨_,_,_,rfl,m - 1,by omega,⟨n2+1,?_,by omega,rfl,fun q o hq=>hk4 q o (ne_of hq) ((hx1.trans hx2) q o hq),?_⟩,rfl,trivial⟩
   . rw [wrap64 (by omega) (by omega)];rfl
   . rw [←htake,List.map_append];exact hM4
 have hjl:n2=args.length:=by
  have:=of_decide_eq_false e2
  omega
 subst hjl
 rw [List.take_length] at hM1
 have hxt:=hM1.txt
 clear hM1
 have one:∀ X,X=prS d (.mk kd nm args body els pos)->Tri Tryz.prog 79 [vP b 0,vS X] h1 fun v h'=>v=vT []/\PW h0 h' b (β++(tabB d++(prS d (.mk kd nm args body els pos)++[10]))) d/\∀ q l z,h1 q=some (.cells l 9 z)->h' q=some (.cells l 9 z):=by
  rintro X rfl
  exact line_k hw1 (by omega) (by simp only [List.length_append,List.length_cons,List.length_nil] at hl ⊢;omega)
 simp only [List.length_append,List.length_cons,List.length_nil] at hl
 cases hok with
 | decl _=>
   rw [ps_decl] at one hl
   simp only [kVar,List.length_append,List.length_cons,List.length_nil] at hl
   refine br_pos rfl (br_pos rfl ⟨by simp;omega,by simp;omega,?_⟩)
   refine Tri.mono (one _ (by simp [kVar])) ?_
   rintro _ h2 ⟨rfl,hw2,_⟩
   exact ⟨rfl,rfl,hw2⟩
 | decl1 _ he=>
   obtain ⟨b5,l5,z5,rfl,hb5,hg5⟩:=hxt (by simp)
   rw [ps_decl1] at one hl
   simp only [kVar,List.length_append,List.length_cons,List.length_nil] at hl
   refine br_pos rfl (br_neg rfl ⟨by simp;omega,by simp;omega,b5,0,rfl,⟨by decide,by simp⟩,_,hg5 h1 hb5 0 _ rfl,by simp;omega,by simp;omega,?_⟩)
   refine Tri.mono (one _ (by simp [kVar])) ?_
   rintro _ h2 ⟨rfl,hw2,hk2⟩
   exact ⟨rfl,hg5 h2 (hk2 _ _ _ hb5) 0 _ rfl,rfl,rfl,hw2⟩
 | asg _ he=>
   obtain ⟨b5,l5,z5,rfl,hb5,hg5⟩:=hxt (by simp)
   rw [ps_asg] at one hl
   simp only [List.length_append,List.length_cons,List.length_nil] at hl
   refine br_neg rfl (br_pos rfl ⟨by simp;omega,b5,0,rfl,⟨by decide,by simp⟩,_,hg5 h1 hb5 0 _ rfl,by simp;omega,by simp;omega,?_⟩)
   refine Tri.mono (one _ (by simp)) ?_
   rintro _ h2 ⟨rfl,hw2,hk2⟩
   exact ⟨rfl,hg5 h2 (hk2 _ _ _ hb5) 0 _ rfl,rfl,rfl,hw2⟩
 | sto _ he1 he2=>
   obtain ⟨b5,l5,z5,rfl,hb5,hg5⟩:=hxt (by simp)
   rw [ps_sto] at one hl
   simp only [List.length_append,List.length_cons,List.length_nil] at hl
   refine br_neg rfl (br_neg rfl (br_pos rfl ⟨by simp;omega,b5,0,rfl,⟨by decide,by simp⟩,_,hg5 h1 hb5 0 _ rfl,by simp;omega,by simp;omega,b5,0,rfl,⟨by decide,by simp⟩,_,hg5 h1 hb5 1 _ rfl,by simp;omega,by simp;omega,?_⟩))
   refine Tri.mono (one _ (by simp)) ?_
   rintro _ h2 ⟨rfl,hw2,hk2⟩
   exact ⟨rfl,hg5 h2 (hk2 _ _ _ hb5) 1 _ rfl,hg5 h2 (hk2 _ _ _ hb5) 0 _ rfl,rfl,rfl,hw2⟩
 | call _ he=>
   obtain ⟨b5,l5,z5,rfl,hb5,hg5⟩:=hxt (by simp)
   rw [ps_call] at one hl
   simp only [List.length_append,List.length_cons,List.length_nil] at hl
   refine br_neg rfl (br_neg rfl (br_neg rfl (br_pos rfl ⟨b5,0,rfl,⟨by decide,by simp⟩,_,hg5 h1 hb5 0 _ rfl,by simp;omega,?_⟩)))
   refine Tri.mono (one _ (by simp)) ?_
   rintro _ h2 ⟨rfl,hw2,hk2⟩
   exact ⟨rfl,rfl,hw2⟩
 | ifs he hb hcc=>
   refine br_neg rfl (br_neg rfl (br_neg rfl (br_neg rfl (br_pos rfl ?_))))
   refine Tri.mono (hif rfl hc (.ifs he hb hcc) _ _ _ _ hrel0 hw1 (by omega) (by simp only [List.length_append,List.length_cons,List.length_nil];omega)) ?_
   rintro _ h2 ⟨rfl,hw2⟩
   exact ⟨rfl,rfl,hw2⟩
 | whl he hb=>
   obtain ⟨b5,l5,z5,rfl,hb5,hg5⟩:=hxt (by simp)
   rw [ps_while] at hl ⊢
   simp only [kWhile,List.length_append,List.length_cons,List.length_nil] at hl
   refine br_neg rfl (br_neg rfl (br_neg rfl (br_neg rfl (br_neg rfl (br_pos rfl ⟨b5,0,rfl,⟨by decide,by simp⟩,_,hg5 h1 hb5 0 _ rfl,by simp;omega,by simp;omega,?_⟩)))))
   refine Tri.mono (line_t hw1 (by omega) (by simp;omega)) ?_
   rintro _ h3 ⟨rfl,hw3⟩
   refine ⟨rfl,?_⟩
   simp only [cntEs] at hc'
   refine Tri.mono (hL body (by omega) hb _ _ _ _ _ hB hw3 (by omega) (by simp;omega)) ?_
   rintro _ h4 ⟨rfl,hw4⟩
   refine ⟨rfl,?_⟩
   refine Tri.mono (line_t hw4 (by omega) (by simp;omega)) ?_
   rintro _ h5 ⟨rfl,hw5⟩
   refine ⟨rfl,rfl,?_⟩
   simpa [kWhile] using hw5
 | ret=>
   rw [ps_ret] at one
   refine br_neg rfl (br_neg rfl (br_neg rfl (br_neg rfl (br_neg rfl (br_neg rfl (br_pos rfl (br_pos rfl ?_)))))))
   refine Tri.mono (one _ rfl) ?_
   rintro _ h2 ⟨rfl,hw2,_⟩
   exact ⟨rfl,rfl,hw2⟩
 | ret1 he=>
   obtain ⟨b5,l5,z5,rfl,hb5,hg5⟩:=hxt (by simp)
   rw [ps_ret1] at one hl
   simp only [kRet,List.length_append,List.length_cons,List.length_nil] at hl
   refine br_neg rfl (br_neg rfl (br_neg rfl (br_neg rfl (br_neg rfl (br_neg rfl (br_pos rfl (br_neg rfl ⟨b5,0,rfl,⟨by decide,by simp⟩,_,hg5 h1 hb5 0 _ rfl,by simp;omega,by simp;omega,?_⟩)))))))
   refine Tri.mono (one _ (by simp [kRet])) ?_
   rintro _ h2 ⟨rfl,hw2,_⟩
   exact ⟨rfl,rfl,hw2⟩
 | brk=>
   rw [ps_brk] at one
   refine br_neg rfl (br_neg rfl (br_neg rfl (br_neg rfl (br_neg rfl (br_neg rfl (br_neg rfl (br_pos rfl ?_)))))))
   refine Tri.mono (one _ rfl) ?_
   rintro _ h2 ⟨rfl,hw2,_⟩
   exact ⟨rfl,rfl,hw2⟩
 | cont=>
   rw [ps_cont] at one
   refine br_neg rfl (br_neg rfl (br_neg rfl (br_neg rfl (br_neg rfl (br_neg rfl (br_neg rfl (br_neg rfl (br_pos rfl ?_))))))))
   refine Tri.mono (one _ rfl) ?_
   rintro _ h2 ⟨rfl,hw2,_⟩
   exact ⟨rfl,rfl,hw2⟩
theorem stmts_p (hpt:PowTab h0):∀ k,SP p h0 b k
 | 0=>fun s hs=>by have:=cntS_pos s;omega
 | k+1=>stmt_p (list_p (stmts_p hpt k)) hpt
end
end Go.Proofs.D
namespace Go.Proofs.D
open Go Go.Den Go.Sx
set_option maxRecDepth 100000
attribute [local irreducible] IntKind.wrap Tri
def SQ (k:Nat):Prop:=∀ (s:S),cntS s<=k->OkS s->∀ (cs:List Value) (h:PHeap) (d:Nat),RS plR 7 6 h s cs->d+k<=50001->(prS d s).length<=1000000->Tri Tryz.prog 130 [vA cs,vI d] h fun v h'=>v=vS (prS d s)/\Ext h h'
def LQ (k:Nat):Prop:=∀ (l:List S),cntSs l<=k->(∀ s∈l,OkS s)->∀ (a:OA) (c:Nat) (h:PHeap) (d:Nat),At 6 (RS plR 7 6) h a l->d+k<=50001->(prSs d l).length<=1000000->Tri Tryz.prog 85 [vL a l.length c,vI d] h fun v h'=>v=vS (prSs d l)/\Ext h h'
theorem stmts_q {k:Nat} (hS:SQ k):LQ k:=by
 intro l hc hok a c h d hA hd hl
 have hlen:=cntSs_len l
 refine T85 ?_
 unfold R85
 refine ⟨fun m t i h'=>∃ j:Nat,i=j/\j+m=l.length/\Ext h h'/\t++prSs d (l.drop j)=prSs d l,⟨l.length,0,rfl,by omega,Ext.refl _,rfl⟩,?_⟩
 rintro m t _ h1 ⟨j,rfl,hjm,hx,ht⟩
 refine br_split (fun e=>?_) (fun e=>?_)
 . have hj:j < l.length:=by have:=of_decide_eq_true e;omega
   obtain ⟨b,o,cs,ha,hr,hrel⟩:=hA.get hj
   have hr:=row_ext (fun ob=>hx b ob) hr
   have hmem:=List.getElem_mem hj
   have hcj:=cntSs_mem hmem
   have hoj:=hok _ hmem
   have htl:=congrArg List.length ht
   rw [prSs_drop hj] at ht htl
   simp only [List.length_append,List.length_cons] at htl
   generalize l[j]=s at *
   have hSs:=fun h' (x:Ext h h')=>hS s (by omega) hoj cs h' d (hrel.ext x) hd (by omega)
   match s,hrel,hSs with
   | .mk kd nm args body els pos,hrel,hSs=>
   obtain ⟨a3,ac,b3,bc,e3,ec,rfl,_⟩:=RS_iff.1 hrel
   refine ⟨b,o,ha,⟨by omega,by omega⟩,_,_,_,_,_,_,_,_,_,_,_,_,hr,?_⟩
   refine Tri.mono (tabs_r d (by omega) h1) ?_
   rintro _ h1 ⟨rfl,rfl⟩
   refine ⟨_,rfl,hr,by omega,?_⟩
   refine Tri.mono (hSs h1 hx) ?_
   rintro _ h2 ⟨rfl,hx2⟩
   refine ⟨_,rfl,by simp;omega,by simp;omega,m - 1,by omega,⟨j+1,?_,by omega,hx.trans hx2,?_⟩,trivial⟩
   . rw [wrap64 (by omega) (by omega)];rfl
   . rw [←ht];simp
 . have hj:l.length<=j:=by have:=of_decide_eq_false e;omega
   rw [List.drop_eq_nil_of_le hj,prSs,List.append_nil] at ht
   exact ⟨by rw [ht],hx⟩
set_option maxHeartbeats 4000000 in
theorem stmt_q {k:Nat} (hS:SQ k) (hL:LQ k):SQ (k+1):=by
 intro s hc hok cs h d hrel hd hl
 match s,hc,hok,hrel,hl with
 | .mk kd nm args body els pos,hc,hok,hrel,hl=>
 have harg:=args_le hok d
 obtain ⟨a3,ac,b3,bc,e3,ec,rfl,hA,hB,hC⟩:=RS_iff.1 hrel
 simp only [cntS] at hc
 have wd:IntKind.i64.wrap (((d:Nat):Int)+1)=((d+1:Nat):Int):=by rw [wrap64 (by omega) (by omega)];rfl
 have hcom:(commaB (args.map prE)).length<=1000000:=by
  cases hok with
  | sto _ _ _=>rw [ps_sto] at hl;simp [commaB,moreB] at hl ⊢;omega
  | decl _=>simp [commaB]
  | ret=>simp [commaB]
  | brk=>simp [commaB]
  | cont=>simp [commaB]
  | _=>
    have:=(harg _ (List.mem_cons_self ..)).2
    simp [commaB,moreB];omega
 refine T130 ?_
 unfold R130
 refine Tri.mono (list_r (exp_r (cntEs args) (by omega)) args (Nat.le_refl _) (by omega) (fun e he=>(harg e he).1) hcom hA) ?_
 rintro _ h1 ⟨rfl,hx1⟩
 refine ⟨_,rfl,?_⟩
 rw [wd]
 have hone:∀ e:E,commaB [prE e]=prE e:=fun e=>by simp [commaB,moreB]
 have hcn:=cntSs_len els
 cases hok with
 | decl _=>
   rw [ps_decl] at hl ⊢
   simp only [kVar,List.length_append,List.length_cons,List.length_nil] at hl
   exact br_pos rfl (br_pos rfl ⟨by simp;omega,by simp;omega,by simp [kVar],hx1⟩)
 | decl1 _ he=>
   rw [ps_decl1] at hl ⊢
   simp only [kVar,List.length_append,List.length_cons,List.length_nil] at hl
   simp only [List.map_cons,List.map_nil,hone]
   exact br_pos rfl (br_neg rfl ⟨by simp;omega,by simp;omega,by simp;omega,by simp;omega,by simp [kVar],hx1⟩)
 | asg _ he=>
   rw [ps_asg] at hl ⊢
   simp only [List.length_append,List.length_cons,List.length_nil] at hl
   simp only [List.map_cons,List.map_nil,hone]
   exact br_neg rfl (br_pos rfl ⟨by simp;omega,by simp;omega,by simp;omega,by simp,hx1⟩)
 | @sto _ i e _ _ he1 he2=>
   rw [ps_sto] at hl ⊢
   simp only [List.length_append,List.length_cons,List.length_nil] at hl
   simp only [cntEs] at hc
   rcases hA with hA | ⟨eb,eo,rfl,hA⟩
   . cases hA
   obtain ⟨cs0,hr0,hrel0⟩:=hA 0 i rfl
   obtain ⟨cs1,hr1,hrel1⟩:=hA 1 e rfl
   have hr0:h.row eb eo cs0:=by rwa [Nat.zero_mul] at hr0
   have hr1:h.row eb (eo+7) cs1:=by rwa [Nat.one_mul] at hr1
   have hE0:=fun h' (x:Ext h h')=>exp_r (cntE i) (by omega) i (Nat.le_refl _) he1 (by omega) cs0 h' (hrel0.ext x)
   have hE1:=fun h' (x:Ext h h')=>exp_r (cntE e) (by omega) e (Nat.le_refl _) he2 (by omega) cs1 h' (hrel1.ext x)
   match i,e,hrel0,hrel1,hl,hE0,hE1 with
   | .mk k0 op0 nm0 v0 tx0 args0 pos0, .mk k1 op1 nm1 v1 tx1 args1 pos1,hrel0,hrel1,hl,hE0,hE1=>
   obtain ⟨a5,c5,rfl,_⟩:=RE_iff.1 hrel0
   obtain ⟨a6,c6,rfl,_⟩:=RE_iff.1 hrel1
   refine br_neg rfl (br_neg rfl (br_pos rfl ⟨by simp;omega,eb,eo,rfl,⟨by decide,by simp⟩,_,_,_,_,_,_,_,_,_,row_ext (fun ob=>hx1 eb ob) hr0,eb,eo,rfl,⟨by decide,by simp⟩,_,_,_,_,_,_,_,_,_,row_ext (fun ob=>hx1 eb ob) hr1,?_⟩))
   refine Tri.mono (hE0 h1 hx1) ?_
   rintro _ h2 ⟨rfl,hx2⟩
   refine ⟨_,rfl,row_ext (fun ob=>(hx1.trans hx2) eb ob) hr1,rfl,rfl,rfl,by simp;omega,by simp;omega,?_⟩
   refine Tri.mono (hE1 h2 (hx1.trans hx2)) ?_
   rintro _ h3 ⟨rfl,hx3⟩
   exact ⟨_,rfl,rfl,rfl,rfl,by simp;omega,by simp;omega,by simp,(hx1.trans hx2).trans hx3⟩
 | call _ he=>
   rw [ps_call] at hl ⊢
   simp only [List.length_append,List.length_cons,List.length_nil] at hl
   simp only [List.map_cons,List.map_nil,hone]
   exact br_neg rfl (br_neg rfl (br_neg rfl (br_pos rfl ⟨by simp;omega,by simp,hx1⟩)))
 | ifs he hb hcc=>
   rw [ps_if] at hl ⊢
   simp only [kIf,List.length_append,List.length_cons,List.length_nil] at hl
   simp only [cntEs] at hc
   simp only [List.map_cons,List.map_nil,hone]
   refine br_neg rfl (br_neg rfl (br_neg rfl (br_neg rfl (br_pos rfl ⟨by simp;omega,by simp;omega,?_⟩))))
   refine Tri.mono (hL body (by omega) hb _ _ h1 (d+1) (hB.ext (RS_mono _ _ _) hx1) (by omega) (by omega)) ?_
   rintro _ h2 ⟨rfl,hx2⟩
   have hx2:=hx1.trans hx2
   refine ⟨_,rfl,by simp;omega,?_⟩
   refine Tri.mono (tabs_r d (by omega) h2) ?_
   rintro _ h2 ⟨rfl,rfl⟩
   refine ⟨_,rfl,by simp;omega,by simp;omega,?_⟩
   have hblock:∀ (t:Bytes),els≠[]->chain els=false->t.length+(32::(kElse++32::123::10::(prSs (d+1) els++(tabB d++[125])))).length<=2000000->
    t.length+([32,101,108,115,101,32,123,10]:Bs).length<=9223372036854775807/\Tri Tryz.prog 85 [vL e3 els.length ec,vI ((d+1:Nat):Int)] h2 fun v_7 h_7=>
     ∃ (l15:Bs),v_7=vS l15/\(t++([32,101,108,115,101,32,123,10]:Bs)).length+l15.length<=9223372036854775807/\Tri Tryz.prog 129 [vI ((d:Nat):Int)] h_7 fun v_8 h_8=>
     ∃ (l16:Bs),v_8=vS l16/\((t++([32,101,108,115,101,32,123,10]:Bs))++l15).length+l16.length<=9223372036854775807/\(((t++([32,101,108,115,101,32,123,10]:Bs))++l15)++l16).length+([125]:Bs).length<=9223372036854775807/\
     (vS ((((t++([32,101,108,115,101,32,123,10]:Bs))++l15)++l16)++([125]:Bs))=vS (t++elB d els)/\Ext h h_8):=by
    intro t hn hch htl
    simp only [kElse,List.length_append,List.length_cons,List.length_nil] at htl
    refine ⟨by simp;omega,?_⟩
    refine Tri.mono (hL els (by omega) hcc _ _ h2 (d+1) (hC.ext (RS_mono _ _ _) hx2) (by omega) (by rw [elB_block d hn hch] at hl;simp at hl;omega)) ?_
    rintro _ h3 ⟨rfl,hx3⟩
    refine ⟨_,rfl,by simp;omega,?_⟩
    refine Tri.mono (tabs_r d (by omega) h3) ?_
    rintro _ h3 ⟨rfl,rfl⟩
    refine ⟨_,rfl,by simp;omega,by simp;omega,by rw [elB_block d hn hch];simp [kElse],hx2.trans hx3⟩
   have hgoal:∀ (e:E) (X:Bytes),(((((([105,102,32,40]:Bs)++prE e)++([41,32,123,10]:Bs))++prSs (d+1) body)++tabB d)++([125]:Bs))++X=kIf++32::40::(prE e++41::32::123::10::(prSs (d+1) body++(tabB d++125::X))):=fun e X=>by simp [kIf]
   match els,hcc,hC,hc,hcn,hl,hblock with
   | [],hcc,hC,hc,hcn,hl,hblock=>
     refine br_neg rfl (br_neg rfl ⟨?_,hx2⟩)
     rw [←hgoal,elB_nil,List.append_nil]
   | s1::s2::c',hcc,hC,hc,hcn,hl,hblock=>
     refine br_neg (by simp;omega) (br_pos (by simp;omega) ?_)
     rw [←hgoal]
     refine hblock _ (by simp) rfl ?_
     rw [elB_block d (by simp) rfl] at hl
     simp [kElse] at hl ⊢
     omega
   | [s1],hcc,hC,hc,hcn,hl,hblock=>
     obtain ⟨b5,o5,cs5,ha5,hr5,hrel5⟩:=hC.get (n:=0) (by simp)
     simp only [List.getElem_cons_zero] at hrel5
     have hr5:=row_ext (fun ob=>hx2 b5 ob) hr5
     have hok1:=hcc s1 (List.mem_cons_self ..)
     simp only [cntSs] at hc
     have hSs:=fun hle=>hS s1 (by omega) hok1 cs5 h2 d (hrel5.ext hx2) (by omega) hle
     match s1,hC,hrel5,hcc,hc,hl,hblock,hok1,hSs with
     | .mk kd1 nm1 args1 bd1 els1 pos1,hC,hrel5,hcc,hc,hl,hblock,hok1,hSs=>
     obtain ⟨a9,ac9,b9,bc9,e9,ec9,rfl,_⟩:=RS_iff.1 hrel5
     refine br_pos rfl ⟨b5,o5,ha5,⟨by decide,by simp⟩,_,hr5.1,br_split (fun e1=>?_) (fun e1=>?_)⟩
     . have e1:kd1=5:=by have:=beq_iff_eq.1 e1;omega
       subst e1
       rw [elB_chain d rfl] at hl ⊢
       simp [kElse] at hl
       refine ⟨by simp;omega,b5,o5,ha5,⟨by decide,by simp⟩,_,_,_,_,_,_,_,_,_,_,_,_,hr5,?_⟩
       refine Tri.mono (hSs (by omega)) ?_
       rintro _ h3 ⟨rfl,hx3⟩
       refine ⟨_,rfl,by simp;omega,?_,hx2.trans hx3⟩
       rw [←hgoal];simp [kElse]
     . have e1:kd1≠5:=by intro e;subst e;cases e1
       refine br_pos rfl ?_
       rw [←hgoal]
       refine hblock _ (by simp) (by simp [chain,sk,e1]) ?_
       rw [elB_block d (by simp) (by simp [chain,sk,e1])] at hl
       simp [kElse] at hl ⊢
       omega
 | whl he hb=>
   rw [ps_while] at hl ⊢
   simp only [kWhile,List.length_append,List.length_cons,List.length_nil] at hl
   simp only [cntEs] at hc
   simp only [List.map_cons,List.map_nil,hone]
   refine br_neg rfl (br_neg rfl (br_neg rfl (br_neg rfl (br_neg rfl (br_pos rfl ⟨by simp;omega,by simp;omega,?_⟩)))))
   refine Tri.mono (hL body (by omega) hb _ _ h1 (d+1) (hB.ext (RS_mono _ _ _) hx1) (by omega) (by omega)) ?_
   rintro _ h2 ⟨rfl,hx2⟩
   refine ⟨_,rfl,by simp;omega,?_⟩
   refine Tri.mono (tabs_r d (by omega) h2) ?_
   rintro _ h2 ⟨rfl,rfl⟩
   exact ⟨_,rfl,by simp;omega,by simp;omega,by simp [kWhile],hx1.trans hx2⟩
 | ret=>exact br_neg rfl (br_neg rfl (br_neg rfl (br_neg rfl (br_neg rfl (br_neg rfl (br_pos rfl (br_pos rfl ⟨by rw [ps_ret];rfl,hx1⟩)))))))
 | ret1 he=>
   rw [ps_ret1] at hl ⊢
   simp only [kRet,List.length_append,List.length_cons,List.length_nil] at hl
   simp only [List.map_cons,List.map_nil,hone]
   exact br_neg rfl (br_neg rfl (br_neg rfl (br_neg rfl (br_neg rfl (br_neg rfl (br_pos rfl (br_neg rfl ⟨by simp;omega,by simp;omega,by simp [kRet],hx1⟩)))))))
 | brk=>exact br_neg rfl (br_neg rfl (br_neg rfl (br_neg rfl (br_neg rfl (br_neg rfl (br_neg rfl (br_pos rfl ⟨by rw [ps_brk];rfl,hx1⟩)))))))
 | cont=>exact br_neg rfl (br_neg rfl (br_neg rfl (br_neg rfl (br_neg rfl (br_neg rfl (br_neg rfl (br_neg rfl ⟨by rw [ps_cont];rfl,hx1⟩)))))))
theorem stms_q:∀ k,SQ k
 | 0=>fun s hs=>by have:=cntS_pos s;omega
 | k+1=>stmt_q (stms_q k) (stmts_q (stms_q k))
end Go.Proofs.D
namespace Go.Proofs.D
open Go Go.Den Go.Sx
set_option maxRecDepth 100000
section
variable {h0 h : PHeap} {a : OA} {n k b : Nat} {β : Bytes} {d : Nat}
theorem sdata_t (hO:OB h0 h a n k β):Raw Tryz.prog (execOp (rho [(6,vL a n k)]) (mkO o83_0 204)) h fun v h'=>∃ q:OA,v= .pointer q/\Ext h h'/\(n≠0->q=a/\h'=h):=by
 intro w hs
 have hexec:(execOp (rho [(6,vL a n k)]) (mkO o83_0 204)).run Tryz.prog w=((Builtin.unsafeSliceData_ #[45] 204 #[vL a n k]).run Tryz.prog w).andThen fun v w'=> .ok (.value v) w':=by
  simp [execOp,mkO,resolve,invoke,builtin,rho]
  rfl
 rcases hO.own.2 with ⟨h1,h2⟩ | ⟨b',cap,rest,h1,h2,h3,h4⟩
 . injection h1 with h1 h5 h6
   subst h1;subst h2
   rw [Lib.run_unsafeSliceData_nil] at hexec
   exact ⟨_,_,w,h,hexec, .inl rfl,⟨_,rfl,Ext.refl _,fun hn=>absurd rfl hn⟩,hs,Keep.refl w h⟩
 . injection h1 with h1 _ h5
   subst h1;subst h5
   by_cases hk:k=0
   . subst hk
     have hsh:w.shape? b'=some (5,(β.map byteV++rest).length):=by simp [World.shape?,hs _ _ h2]
     rw [Lib.run_unsafeSliceData_zero w #[45] 204 5 rfl ⟨b',0,none⟩ n _ hsh] at hexec
     exact ⟨_,_,_,h.put w.heap.size _,hexec, .inl rfl,⟨_,rfl,Put.ext rfl hs.fresh,fun hn=>by omega⟩,hs.allocReal _,Keep.allocReal w h _⟩
   . rw [Lib.run_unsafeSliceData_row w #[45] 204 ⟨b',0,none⟩ n k hk] at hexec
     exact ⟨_,_,w,h,hexec, .inl rfl,⟨_,rfl,Ext.refl _,fun _=>⟨rfl,rfl⟩⟩,hs,Keep.refl w h⟩
theorem ustr_t {q:OA} (hO:OB h0 h a n k β) (hl:β.length<=1000000) (hq:n≠0->q=a) (hne:a≠ad b 0):Raw Tryz.prog (execOp (rho [(7, .pointer q),(12,vI ((n:Nat):Int))]) (mkO o83_1 9)) h fun v h'=>v=vS β/\Ext h0 h'/\h' b=h b:=by
 intro w hs
 have hexec:(execOp (rho [(7, .pointer q),(12,vI ((n:Nat):Int))]) (mkO o83_1 9)).run Tryz.prog w=((Builtin.unsafeString_ #[204,3] 9 #[.pointer q,vI ((n:Nat):Int)]).run Tryz.prog w).andThen fun v w'=> .ok (.value v) w':=by
  simp [execOp,mkO,resolve,invoke,builtin,rho]
  rfl
 have hn:=hO.len
 by_cases h0':n=0
 . subst h0'
   rw [show vI ((0:Nat):Int)= .int .i64 0 from rfl,Lib.run_unsafeString_none] at hexec
   have hβ:β=[]:=List.eq_nil_of_length_eq_zero (by omega)
   subst hβ
   exact ⟨_,_,w,h,hexec, .inl rfl,⟨rfl,hO.ext,rfl⟩,hs,Keep.refl w h⟩
 . have hqa:=hq h0'
   subst hqa
   rcases hO.own.2 with ⟨h1,h2⟩ | ⟨b',cap,rest,h1,h2,h3,h4⟩
   . omega
   . injection h1 with h1 _ h5
     subst h1;subst h5
     have hbb:b'≠b:=fun e=>hne (by rw [e])
     have hw:=hs _ _ h2
     have hcell:∀ j x,β[j]? =some x->w.cell? ((⟨b',0,none⟩:Addr).add j)=some (.int .u8 x.toNat):=fun j x hj=>by
      rw [Addr.add_lit]
      simp only [World.cell?,hw]
      have hjl:=(List.getElem?_eq_some_iff.1 hj).1
      simp [List.getElem?_append_left (show j < (β.map byteV).length by simpa using hjl),hj,byteV]
     have hsh:w.shape? b'=some (5,(β.map byteV++rest).length):=by simp [World.shape?,hw]
     have hrun:=Lib.run_unsafeString_row (P:=Tryz.prog) w 204 3 9 5 rfl (by kernel_rfl) b' _ hsh β (fun e=>by rw [e] at hn;simp at hn;exact h0' hn) (by simp) (by omega) hcell
     subst hn
     rw [hrun] at hexec
     have hpos:¬ β.length=0:=h0'
     refine ⟨_,_,_,h.put b' (.cells ⟨β.map byteV++rest⟩ 5 (0,0+β.length)),hexec, .inl rfl,⟨rfl,fun x o hx=>?_,put_ne (fun e=>hbb e.symm)⟩,fun x o hx=>?_,⟨by unfold World.freeze;rw [if_neg hpos],by unfold World.freeze;rw [if_neg hpos],by unfold World.freeze;rw [if_neg hpos],?_,fun x hx hn=>?_⟩⟩
     . have hxb:x≠b':=fun e=>by subst e;rw [hO.new x rfl] at hx;cases hx
       rw [put_ne hxb];exact hO.ext _ _ hx
     . unfold World.freeze
       rw [if_neg hpos]
       simp only [Array.getElem?_modify]
       by_cases e:x=b'
       . subst e
         rw [put_same] at hx
         injection hx with hx
         rw [if_pos rfl,hw,←hx];rfl
       . rw [put_ne e] at hx
         rw [if_neg (fun e2=>e e2.symm)];exact hs _ _ hx
     . unfold World.freeze;rw [if_neg hpos];simp
     . have e:x≠b':=fun e=>by subst e;rw [h2] at hn;cases hn
       refine ⟨by rw [put_ne e];exact hn,?_⟩
       unfold World.freeze
       rw [if_neg hpos]
       simp only [Array.getElem?_modify]
       rw [if_neg (fun e2=>e e2.symm)]
attribute [local irreducible] IntKind.wrap Tri
theorem string_t (hw:PW h0 h b β d) (hl:β.length<=1000000):Tri Tryz.prog 83 [vP b 0] h fun v h'=>v=vS β/\Ext h0 h':=by
 obtain ⟨p,a,n,k,hb,hp,hO,hne⟩:=hw.blk
 refine T83 ?_
 unfold R83
 refine ⟨a,n,k,by rw [cell_of hb];rfl,a,n,k,by rw [cell_of hb];rfl,?_⟩
 refine Raw.mono (sdata_t hO) ?_
 rintro _ h1 ⟨q,rfl,hx,hq⟩
 refine ⟨_,rfl,by rw [cell_of (hx _ _ hb)];rfl,?_⟩
 refine Raw.mono (ustr_t (b:=b) (hO.up hx) hl (fun hn=>(hq hn).1) hne) ?_
 rintro _ h2 ⟨rfl,hx2,hb2⟩
 exact ⟨_,rfl,by rw [cell_of (hb2.trans (hx _ _ hb))];rfl,rfl,hx2⟩
end
end Go.Proofs.D
