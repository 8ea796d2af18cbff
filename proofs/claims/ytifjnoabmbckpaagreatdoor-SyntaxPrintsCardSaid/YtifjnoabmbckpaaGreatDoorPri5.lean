import Derived.Test.YtifjnoabmbckpaaGreatDoorPri4
import Derived.IntWalk
namespace Go.Proofs.L
open Go Go.Den Go.Sx
set_option maxRecDepth 100000
theorem ret_bool {a b:Bool} (h:a=b):retV [.bool a]= .bool b:=by rw [h];rfl
theorem isLetter_tri (c:UInt8) (h:PHeap):Tri Tryz.prog 165 [byteV c] h fun v h'=>v= .bool (isLetter c)/\h'=h:=by
 refine t165 rfl ?_
 conv=>whnf
 refine br_split (fun h1=>?_) (fun h1=>?_) <;> conv=>whnf
 . refine br_split (fun h2=>?_) (fun h2=>?_) <;> conv=>whnf
   . refine ⟨ret_bool ?_,rfl⟩
     rw [Bool.eq_iff_iff];simp [isLetter] at *;omega
   . refine br_split (fun h3=>?_) (fun h3=>?_) <;> conv=>whnf
     . refine br_split (fun h4=>?_) (fun h4=>?_) <;> conv=>whnf
       all_goals refine ⟨ret_bool ?_,rfl⟩
       all_goals rw [Bool.eq_iff_iff];simp [isLetter] at *;omega
     . refine ⟨ret_bool ?_,rfl⟩
       rw [Bool.eq_iff_iff];simp [isLetter] at *;omega
 . refine br_split (fun h2=>?_) (fun h2=>?_) <;> conv=>whnf
   . refine br_split (fun h3=>?_) (fun h3=>?_) <;> conv=>whnf
     all_goals refine ⟨ret_bool ?_,rfl⟩
     all_goals rw [Bool.eq_iff_iff];simp [isLetter] at *;omega
   . refine ⟨ret_bool ?_,rfl⟩
     rw [Bool.eq_iff_iff];simp [isLetter] at *;omega
theorem isDigit_tri (c:UInt8) (h:PHeap):Tri Tryz.prog 168 [byteV c] h fun v h'=>v= .bool (isDigit c)/\h'=h:=by
 refine t168 rfl ?_
 conv=>whnf
 refine br_split (fun h1=>?_) (fun h1=>?_) <;> conv=>whnf
 all_goals refine ⟨ret_bool ?_,rfl⟩
 all_goals rw [Bool.eq_iff_iff];simp [isDigit] at *;omega
theorem isHex_tri (c:UInt8) (h:PHeap):Tri Tryz.prog 188 [byteV c] h fun v h'=>v= .bool (isHex c)/\h'=h:=by
 refine t188 rfl ?_
 conv=>whnf
 refine Tri.mono (isDigit_tri c h) ?_
 rintro v h' ⟨rfl,rfl⟩
 conv=>whnf
 refine br_split (fun h1=>?_) (fun h1=>?_) <;> conv=>whnf
 . exact ⟨ret_bool (by simp [isHex,h1]),rfl⟩
 . refine br_split (fun h2=>?_) (fun h2=>?_) <;> conv=>whnf
   all_goals refine ⟨ret_bool ?_,rfl⟩
   all_goals rw [Bool.eq_iff_iff];simp [isHex,h1] at *;omega
theorem isAl_tri (c:UInt8) (h:PHeap):Tri Tryz.prog 166 [byteV c] h fun v h'=>v= .bool (isAl c)/\h'=h:=by
 refine t166 rfl ?_
 conv=>whnf
 refine Tri.mono (isLetter_tri c h) ?_
 rintro v h' ⟨rfl,rfl⟩
 conv=>whnf
 refine br_split (fun h1=>?_) (fun h1=>?_) <;> conv=>whnf
 . exact ⟨ret_bool (by simp [isAl,h1]),rfl⟩
 . refine Tri.mono (isDigit_tri c h') ?_
   rintro v h'' ⟨rfl,rfl⟩
   conv=>whnf
   exact ⟨ret_bool (by simp [isAl,h1]),rfl⟩
theorem notNl_tri (c:UInt8) (h:PHeap):Tri Tryz.prog 133 [byteV c] h fun v h'=>v= .bool (!(c == 10))/\h'=h:=by
 refine t133 rfl ?_
 conv=>whnf
 refine ⟨ret_bool ?_,rfl⟩
 rw [Bool.eq_iff_iff];simp [←UInt8.toNat_inj];omega
end Go.Proofs.L
namespace Go.Proofs.L
open Go Go.Den Go.Sx
set_option maxRecDepth 100000
abbrev str (l:Bytes):Value:= .string ⟨⟨l⟩⟩
abbrev fnv (g:FuncId):Value:= .func (.func g) #[] #[]
abbrev int (n:Int):Value:= .int .i64 n
theorem lead_le (p:UInt8->Bool):∀ l,lead p l<=l.length
 | []=>by simp [lead]
 | c::l=>by
   simp only [lead,List.length_cons]
   have:=lead_le p l
   split <;> omega
theorem lead_next (p:UInt8->Bool):∀ {l:Bytes} {n:Nat} {c:UInt8},n<=lead p l->l[n]? =some c->(p c=true->n+1<=lead p l)/\(p c=false->n=lead p l)
 | [],n,c,_,hc=>by simp at hc
 | d::l,n,c,hn,hc=>by
   simp only [lead] at hn ⊢
   cases n with
   | zero=>
     simp at hc;subst hc
     constructor
     . intro h;rw [if_pos h];omega
     . intro h;rw [if_neg (by simp [h])]
   | succ n=>
     simp at hc
     split at hn
     . rename_i hd
       have:=lead_next p (n:=n) (by omega) hc
       rw [if_pos hd]
       exact ⟨fun h=>by have:=this.1 h;omega,fun h=>by have:=this.2 h;omega⟩
     . omega
theorem wrap64 {n:Int} (h0: -9223372036854775808<=n) (h1:n<=9223372036854775807):IntKind.i64.wrap n=n:=IntWalk.i64_in n ⟨h0,h1⟩
theorem wrap8 {n:Int} (h0:0<=n) (h1:n<=255):IntKind.u8.wrap n=n:=by
 unfold IntKind.wrap
 simp [IntKind.bits,IntKind.signed]
 omega
theorem leading_tri (l:Bytes) (g:FuncId) (p:UInt8->Bool) (hp:∀ c h,Tri Tryz.prog g [byteV c] h fun v h'=>v= .bool (p c)/\h'=h) (h:PHeap) (hl:l.length<=1000000000):
 Tri Tryz.prog 132 [str l,fnv g] h fun v h'=>v=int (lead p l)/\h'=h:=by
 refine t132 rfl ?_
 conv=>whnf
 refine ⟨Nat,fun n h1=>h1=h/\n<=lead p l,fun n=>[(5, .val (int n))],fun _=>[],fun n _=>l.length - n,⟨0,⟨rfl,Nat.zero_le _⟩,rfl,trivial⟩,fun _=>trivial,?_⟩
 rintro n h1 ⟨rfl,hn⟩
 have hle:=lead_le p l
 conv=>whnf
 refine br_split (fun h1=>?_) (fun h1=>?_) <;> conv=>whnf
 . simp only [decide_eq_true_eq] at h1
   have hlt:n < l.length:=by omega
   refine ⟨by omega,l[n],by simp [hlt],?_⟩
   conv=>whnf
   refine Tri.mono (hp _ _) ?_
   rintro v h' ⟨rfl,rfl⟩
   conv=>whnf
   have hnx:=lead_next p hn (List.getElem?_eq_getElem hlt)
   refine br_split (fun h2=>?_) (fun h2=>?_) <;> conv=>whnf
   . refine ⟨n+1,⟨rfl,hnx.1 h2⟩,Nat.sub_lt_sub_left hlt (Nat.lt_succ_self _),?_,trivial⟩
     show SV.val (.int .i64 (IntKind.i64.wrap (n+1)))=_
     rw [wrap64 (by omega) (by omega)];rfl
   . refine ⟨?_,rfl⟩
     have:=hnx.2 h2
     rw [←this];rfl
 . simp only [decide_eq_false_iff_not] at h1
   refine ⟨?_,rfl⟩
   have:n=lead p l:=by omega
   rw [←this];rfl
end Go.Proofs.L
namespace Go.Proofs.L
open Go Go.Den Go.Sx
set_option maxRecDepth 100000
def Ext (h h':PHeap):Prop:=∀ k o,h k=some o->h' k=some o
theorem Ext.refl (h:PHeap):Ext h h:=fun _ _ e=>e
theorem Ext.trans {h h' h'':PHeap} (a:Ext h h') (b:Ext h' h''):Ext h h'':=fun k o e=>b k o (a k o e)
theorem Ext.put {h:PHeap} {b:Nat} (hb:h b=none) (o:Obj):Ext h (h.put b o):=by
 intro k o' hk
 have:k≠b:=fun e=>by rw [e,hb] at hk;cases hk
 simp only [PHeap.put,if_neg this];exact hk
theorem Ext.cell {h h':PHeap} (a:Ext h h') {b o:Nat} {v:Value} (hc:h.cell b o=some v):h'.cell b o=some v:=by
 unfold PHeap.cell at *
 split at hc
 . rename_i c t f hb;rw [a _ _ hb];exact hc
 . cases hc
theorem Ext.row {h h':PHeap} (a:Ext h h') {b:Nat}:∀ {l:List Value} {o:Nat},h.row b o l->h'.row b o l
 | [],_,_=>trivial
 | [_],_,hr=>a.cell hr
 | _::_::_,_,hr=>⟨a.cell hr.1,Ext.row a hr.2⟩
theorem put_same (h:PHeap) (b:Nat) (o:Obj):(h.put b o) b=some o:=by simp [PHeap.put]
theorem row_put (h:PHeap) (b:Nat) (t:TypeId) (fz:Nat×Nat) (l:List Value):(h.put b (.cells ⟨l⟩ t fz)).row b 0 l:=by
 refine row_of l 0 fun j v hj=>?_
 simp [PHeap.cell,put_same,hj]
theorem hasPrefix_tri (l m:Bytes) (h:PHeap):Tri Tryz.prog 164 [str l,str m] h fun v h'=>v= .bool (m.isPrefixOf l)/\h'=h:=by
 refine t164 rfl ?_
 conv=>whnf
 refine br_split (fun h1=>?_) (fun h1=>?_) <;> conv=>whnf
 . simp only [decide_eq_true_eq] at h1
   refine ⟨⟨by omega,by omega,by omega⟩,?_⟩
   conv=>whnf
   refine ⟨ret_bool ?_,rfl⟩
   rw [Bool.eq_iff_iff]
   simp [List.isPrefixOf_iff_prefix]
   constructor
   . intro e;exact ⟨l.drop m.length,by have:=List.take_append_drop m.length l;rw [e] at this;exact this⟩
   . rintro ⟨r,rfl⟩;simp
 . simp only [decide_eq_false_iff_not] at h1
   refine ⟨ret_bool ?_,rfl⟩
   cases hp:m.isPrefixOf l with
   | false=>rfl
   | true=>
     obtain ⟨r,rfl⟩:=List.isPrefixOf_iff_prefix.1 hp
     simp at h1;omega
theorem stringsHasPrefix_tri (l m:Bytes) (h:PHeap):Tri Tryz.prog 131 [str l,str m] h fun v h'=>v= .bool (m.isPrefixOf l)/\h'=h:=by
 refine t131 rfl ?_
 conv=>whnf
 refine Tri.mono (hasPrefix_tri l m h) ?_
 rintro v h' ⟨rfl,rfl⟩
 conv=>whnf
 exact ⟨rfl,rfl⟩
theorem cutPrefix200_tri (l m:Bytes) (h:PHeap):Tri Tryz.prog 200 [str l,str m] h fun v h'=>v=(if m.isPrefixOf l then .tuple ⟨[str (l.drop m.length), .bool true]⟩ else .tuple ⟨[str l, .bool false]⟩)/\h'=h:=by
 refine t200 rfl ?_
 conv=>whnf
 refine Tri.mono (hasPrefix_tri l m h) ?_
 rintro v h' ⟨rfl,rfl⟩
 conv=>whnf
 cases hp:m.isPrefixOf l <;> conv=>whnf
 . exact ⟨rfl,rfl⟩
 . obtain ⟨r,rfl⟩:=List.isPrefixOf_iff_prefix.1 hp
   refine ⟨⟨by omega,by simp;omega,by omega⟩,?_⟩
   conv=>whnf
   refine ⟨?_,rfl⟩
   simp [retV]
   exact List.take_of_length_le (by omega)
theorem cutPrefix_tri (l m:Bytes) (h:PHeap):Tri Tryz.prog 187 [str l,str m] h fun v h'=>v=(if m.isPrefixOf l then .tuple ⟨[str (l.drop m.length), .bool true]⟩ else .tuple ⟨[str l, .bool false]⟩)/\h'=h:=by
 refine t187 rfl ?_
 conv=>whnf
 refine Tri.mono (cutPrefix200_tri l m h) ?_
 rintro v h' ⟨rfl,rfl⟩
 cases hp:m.isPrefixOf l
 . conv=>whnf
   exact ⟨rfl,rfl⟩
 . conv=>whnf
   exact ⟨rfl,rfl⟩
theorem index_tri (ss:List Bytes) (s:Bytes) (b o c:Nat) (h:PHeap) (hr:h.row b o (ss.map str)) (hl:ss.length<=1000000):
 Tri Tryz.prog 149 [.slice (some ⟨b,o,none⟩) ss.length c,str s] h fun v h'=>(∃ r:Int,v=int r/\decide (r≥0)=ss.contains s)/\h'=h:=by
 refine t149 rfl ?_
 conv=>whnf
 refine ⟨Nat,fun n h1=>h1=h/\n<=ss.length/\∀ j,j < n->ss[j]? ≠some s,fun n=>[(8, .val (int n))],fun _=>[],fun n _=>ss.length - n,⟨0,⟨rfl,Nat.zero_le _,fun j hj=>by omega⟩,rfl,trivial⟩,fun _=>trivial,?_⟩
 rintro n h1 ⟨rfl,hn,hno⟩
 conv=>whnf
 refine br_split (fun h1=>?_) (fun h1=>?_) <;> conv=>whnf
 . simp only [decide_eq_true_eq] at h1
   have hlt:n < ss.length:=by omega
   refine ⟨⟨by omega,by omega⟩,?_⟩
   conv=>whnf
   refine ⟨[str ss[n]],rfl,?_,?_⟩
   . have:=PHeap.row_get hr n (str ss[n]) (by simp [hlt])
     show PHeap.cell _ b _=_
     simpa using this
   . conv=>whnf
     refine br_split (fun h2=>?_) (fun h2=>?_) <;> conv=>whnf
     . refine ⟨⟨n,rfl,?_⟩,rfl⟩
       have e:ss[n]=s:=(beq_iff_eq.1 h2).symm
       have hm:s∈ss:=by rw [←e];exact List.getElem_mem hlt
       have:decide ((n:Int)≥0)=true:=by simp
       rw [this];exact (List.contains_iff_mem.2 hm).symm
     . refine ⟨n+1,⟨rfl,hlt,fun j hj=>?_⟩,Nat.sub_lt_sub_left hlt (Nat.lt_succ_self _),?_,trivial⟩
       . by_cases e:j=n
         . subst e
           rw [List.getElem?_eq_getElem hlt]
           intro e2
           simp at e2
           rw [e2] at h2;simp at h2
         . exact hno j (by omega)
       . show SV.val (.int .i64 (IntKind.i64.wrap (n+1)))=_
         rw [wrap64 (by omega) (by omega)];rfl
 . simp only [decide_eq_false_iff_not] at h1
   have e:n=ss.length:=by omega
   refine ⟨⟨-1,rfl,?_⟩,rfl⟩
   have:decide ((-1:Int)≥0)=false:=by decide
   rw [this]
   cases hc:ss.contains s with
   | false=>rfl
   | true=>
     obtain ⟨j,hj,e2⟩:=List.getElem_of_mem (List.contains_iff_mem.1 hc)
     exact absurd (by rw [List.getElem?_eq_getElem hj,e2]) (hno j (by omega))
theorem contains_tri (ss:List Bytes) (s:Bytes) (b o c:Nat) (h:PHeap) (hr:h.row b o (ss.map str)) (hl:ss.length<=1000000):
 Tri Tryz.prog 102 [.slice (some ⟨b,o,none⟩) ss.length c,str s] h fun v h'=>v= .bool (ss.contains s)/\h'=h:=by
 refine t102 rfl ?_
 conv=>whnf
 refine Tri.mono (index_tri ss s b o c h hr hl) ?_
 rintro v h' ⟨⟨r,rfl,hd⟩,rfl⟩
 conv=>whnf
 exact ⟨ret_bool hd,rfl⟩
theorem keywords_tri (h:PHeap):Tri Tryz.prog 167 [] h fun v h'=>∃ b,v= .slice (some ⟨b,0,none⟩) 8 8/\h'.row b 0 (words.map str)/\Ext h h':=by
 refine t167 rfl ?_
 conv=>whnf
 intro b hb
 conv=>whnf
 exact ⟨b,rfl,row_put h b _ _ _,Ext.put hb _⟩
theorem symbols_tri (h:PHeap):Tri Tryz.prog 171 [] h fun v h'=>∃ b,v= .slice (some ⟨b,0,none⟩) 29 29/\h'.row b 0 (marks.map str)/\Ext h h':=by
 refine t171 rfl ?_
 conv=>whnf
 intro b hb
 conv=>whnf
 exact ⟨b,rfl,row_put h b _ _ _,Ext.put hb _⟩
end Go.Proofs.L
namespace Go.Proofs.L
open Go Go.Den Go.Sx
set_option maxRecDepth 100000
attribute [local irreducible] IntKind.wrap
theorem hexValue_tri (c:UInt8) (hc:isHex c=true) (h:PHeap):Tri Tryz.prog 189 [byteV c] h fun v h'=>v= .int .u8 (hexV c)/\h'=h:=by
 refine t189 rfl ?_
 conv=>whnf
 refine Tri.mono (isDigit_tri c h) ?_
 rintro v h' ⟨rfl,rfl⟩
 conv=>whnf
 refine br_split (fun h1=>?_) (fun h1=>?_) <;> conv=>whnf
 . refine ⟨?_,rfl⟩
   show Value.int .u8 (IntKind.u8.wrap ((c.toNat:Int) - 48))=_
   have hd:=h1
   simp [isDigit] at hd
   rw [wrap8 (by omega) (by omega)]
   simp only [hexV,h1,if_true]
   congr 1;omega
 . refine ⟨?_,rfl⟩
   show Value.int .u8 (IntKind.u8.wrap (IntKind.u8.wrap ((c.toNat:Int) - 97)+10))=_
   simp [isHex,h1] at hc
   rw [wrap8 (n:=(c.toNat:Int) - 97) (by omega) (by omega),wrap8 (by omega) (by omega)]
   simp only [hexV,h1]
   congr 1;simp;omega
def n0:Except Nat Nat->Int
 | .ok n=>n
 | .error _=>0
def n1:Except Nat Nat->Int
 | .ok _=>0
 | .error e=>e
def numV (r:Except Nat Nat):Value:= .tuple ⟨[int (n0 r),int (n1 r)]⟩
theorem lead_eq (p:UInt8->Bool):∀ l:Bytes,lead p l=l.length↔l.all p=true
 | []=>by simp [lead]
 | c::l=>by
   have ih:=lead_eq p l
   have hle:=lead_le p l
   simp only [lead,List.all_cons,List.length_cons,Bool.and_eq_true,←ih]
   by_cases hp:p c=true
   . simp [hp]
   . simp [hp]
theorem lead_all (p:UInt8->Bool) (l:Bytes):decide ((lead p l:Int) < l.length)= !l.all p:=by
 have h1:=lead_eq p l
 have h2:=lead_le p l
 cases ha:l.all p with
 | true=>have:=h1.2 ha;simp;omega
 | false=>
   have:lead p l≠l.length:=fun e=>by rw [h1.1 e] at ha;cases ha
   simp;omega
theorem hexNum_snoc (l:Bytes) (c:UInt8):hexNum (l++[c])=16 * hexNum l+hexV c:=by simp [hexNum]
theorem decNum_snoc (l:Bytes) (c:UInt8):decNum (l++[c])=10 * decNum l+(c.toNat - 48):=by simp [decNum]
theorem hexV_lt (c:UInt8) (hc:isHex c=true):hexV c < 16:=by
 simp [isHex,isDigit] at hc
 unfold hexV isDigit
 split
 . rename_i h;simp at h;omega
 . rename_i h;simp at h;omega
theorem hexNum_lt:∀ (n:Nat) (l:Bytes),l.length=n->l.all isHex=true->hexNum l < 16 ^ n
 | 0,l,hl,_=>by
   have:l=[]:=List.eq_nil_of_length_eq_zero hl
   subst this;simp [hexNum]
 | n+1,l,hl,ha=>by
   obtain ⟨m,c,rfl⟩:∃ m c,l=m++[c]:=⟨l.dropLast,l.getLast (by intro e;rw [e] at hl;simp at hl),(List.dropLast_concat_getLast _).symm⟩
   simp at hl ha
   have ih:=hexNum_lt n m hl (by simpa using ha.1)
   have:=hexV_lt c ha.2
   rw [hexNum_snoc,Nat.pow_succ];omega
theorem take_snoc {l:Bytes} {n:Nat} (hn:n < l.length):l.take (n+1)=l.take n++[l[n]]:=by
 rw [List.take_succ_eq_append_getElem hn]
theorem valueHex_tri (l:Bytes) (h:PHeap) (hl:l.length<=1000000):
 Tri Tryz.prog 169 [str (48::120::l)] h fun v h'=>v=numV (numS (48::120::l))/\h'=h:=by
 refine t169 rfl ?_
 conv=>whnf
 refine Tri.mono (cutPrefix_tri _ _ _) ?_
 rintro v h' ⟨rfl,rfl⟩
 conv=>whnf
 refine br_split (fun h1=>?_) (fun h1=>?_) <;> conv=>whnf
 . refine ⟨?_,rfl⟩
   have:l=[]:=by
    have h1:((l.length:Nat):Int) < 1:=by simpa using h1
    exact List.eq_nil_of_length_eq_zero (by omega)
   subst this;rfl
 . have h1:¬ ((l.length:Nat):Int) < 1:=by simpa using h1
   refine br_split (fun h2=>?_) (fun h2=>?_) <;> conv=>whnf
   . refine ⟨?_,rfl⟩
     have h2:8 < l.length:=by
      have h2:((l.length:Nat):Int) > 8:=by simpa using h2
      omega
     simp [numS,h2,numV,n0,n1,retV]
   . have h2:¬ 8 < l.length:=by
      have h2:¬ ((l.length:Nat):Int) > 8:=by simpa using h2
      omega
     refine Tri.mono (leading_tri l 188 isHex isHex_tri _ (by omega)) ?_
     rintro v h' ⟨rfl,rfl⟩
     conv=>whnf
     refine br_split (fun h3=>?_) (fun h3=>?_) <;> conv=>whnf
     . refine ⟨?_,rfl⟩
       have h3:(!l.all isHex)=true:=by rw [←lead_all];exact h3
       simp only [Bool.not_eq_true'] at h3
       simp [numS,h3,numV,n0,n1,retV]
     . have h3:l.all isHex=true:=by
        have:(!l.all isHex)=false:=by rw [←lead_all];exact h3
        simpa using this
       have hb:∀ n,n<=l.length->hexNum (l.take n) < 4294967296:=fun n hn=>by
        have:=hexNum_lt n (l.take n) (by simp;omega) (by rw [List.all_eq_true] at h3 ⊢;exact fun c hc=>h3 c (List.mem_of_mem_take hc))
        have h16:(16:Nat) ^ n<=16 ^ 8:=Nat.pow_le_pow_right (by omega) (by omega)
        have:(16:Nat) ^ 8=4294967296:=by decide
        omega
       refine ⟨Nat,fun n h1=>h1=h'/\n<=l.length,fun n=>[(6, .val (int (hexNum (l.take n)))),(33, .val (int n))],fun _=>[],fun n _=>l.length - n,⟨0,⟨rfl,Nat.zero_le _⟩,⟨rfl,rfl⟩,trivial⟩,fun _=>trivial,?_⟩
       rintro n h1 ⟨rfl,hn⟩
       conv=>whnf
       refine br_split (fun h4=>?_) (fun h4=>?_) <;> conv=>whnf
       . have hlt:n < l.length:=by
          have h4:(n:Int) < (l.length:Int):=by simpa using h4
          omega
         refine ⟨by omega,l[n],by simp [hlt],?_⟩
         conv=>whnf
         have hx:isHex l[n]=true:=by rw [List.all_eq_true] at h3;exact h3 _ (List.getElem_mem hlt)
         refine Tri.mono (hexValue_tri _ hx _) ?_
         rintro v h' ⟨rfl,rfl⟩
         conv=>whnf
         have b1:=hb n hn
         have b2:=hexV_lt _ hx
         refine ⟨n+1,⟨rfl,hlt⟩,Nat.sub_lt_sub_left hlt (Nat.lt_succ_self _),⟨?_,?_⟩,trivial⟩
         . show SV.val (.int .i64 (IntKind.i64.wrap (IntKind.i64.wrap ((hexNum (l.take n):Int) * 16)+IntKind.i64.wrap (hexV l[n]))))=_
           rw [wrap64 (n:=(hexNum (l.take n):Int) * 16) (by omega) (by omega),wrap64 (n:=(hexV l[n]:Int)) (by omega) (by omega),wrap64 (by omega) (by omega),take_snoc hlt,hexNum_snoc]
           congr 2;omega
         . show SV.val (.int .i64 (IntKind.i64.wrap (n+1)))=_
           rw [wrap64 (by omega) (by omega)];rfl
       . have e:n=l.length:=by
          have h4:¬ (n:Int) < (l.length:Int):=by simpa using h4
          omega
         refine ⟨?_,rfl⟩
         subst e
         rw [List.take_length]
         have h0:l.length≠0:=by omega
         simp [numS,h0,h2,h3,numV,n0,n1,retV]
theorem dec_step {w:Bytes} {n:Nat} (hlt:n < w.length) (hd:decNum (w.take n)<=4294967295) (d1:48<=w[n].toNat) (d2:w[n].toNat<=57):
 IntKind.i64.wrap (IntKind.i64.wrap ((decNum (w.take n):Int) * 10)+IntKind.i64.wrap (IntKind.u8.wrap ((w[n].toNat:Int) - 48)))=(decNum (w.take (n+1)):Int):=by
 rw [take_snoc hlt,decNum_snoc]
 generalize decNum (w.take n)=a at *
 generalize w[n].toNat=b at *
 rw [wrap64 (n:=(a:Int) * 10) (by omega) (by omega),wrap8 (by omega) (by omega),wrap64 (n:=(b:Int) - 48) (by omega) (by omega),wrap64 (by omega) (by omega)]
 omega
theorem decNum_mono (l:Bytes) (n:Nat):decNum (l.take n)<=decNum l:=by
 have h1:∀ (m:Bytes) (a b:Nat),a<=b->a<=m.foldl (fun n c=>10 * n+(c.toNat - 48)) b:=by
  intro m
  induction m with
  | nil=>intro a b h;exact h
  | cons c m ih=>intro a b h;exact ih a _ (by show a<=10 * b+(c.toNat - 48);omega)
 conv=>rhs;rw [←List.take_append_drop n l]
 unfold decNum
 rw [List.foldl_append]
 exact h1 _ _ _ (Nat.le_refl _)
theorem numS_dec {w:Bytes} (hp:¬ (([48,120]:Bytes).isPrefixOf w)=true):numS w=if !w.all isDigit || (1 < w.length && w.head? == some 48) then .error 3 else if 4294967295 < decNum w then .error 2 else .ok (decNum w):=by
 unfold numS
 split
 . exact absurd (by simp) hp
 . rfl
theorem cutPrefix_no (l m:Bytes) (h:PHeap) (hp:¬ m.isPrefixOf l=true):Tri Tryz.prog 187 [str l,str m] h fun v h'=>v= .tuple ⟨[str l, .bool false]⟩/\h'=h:=by
 have:=cutPrefix_tri l m h
 rw [if_neg hp] at this
 exact this
theorem valueDec_tri (w:Bytes) (c0:UInt8) (h:PHeap) (hget:w[0]? =some c0) (hl:w.length<=1000000) (hp:¬ (([48,120]:Bytes).isPrefixOf w)=true):
 Tri Tryz.prog 169 [str w] h fun v h'=>v=numV (if !w.all isDigit || (1 < w.length && c0 == 48) then .error 3 else if 4294967295 < decNum w then .error 2 else .ok (decNum w))/\h'=h:=by
 refine t169 rfl ?_
 conv=>whnf
 refine Tri.mono (cutPrefix_no _ _ _ hp) ?_
 rintro v h' ⟨rfl,rfl⟩
 conv=>whnf
 refine Tri.mono (leading_tri w 168 isDigit isDigit_tri _ (by omega)) ?_
 rintro v h' ⟨rfl,rfl⟩
 conv=>whnf
 refine br_split (fun h1=>?_) (fun h1=>?_) <;> conv=>whnf
 . refine ⟨?_,rfl⟩
   have h3:(!w.all isDigit)=true:=by rw [←lead_all];exact h1
   rw [h3];rfl
 . have h3:(!w.all isDigit)=false:=by rw [←lead_all];exact h1
   have ha:w.all isDigit=true:=by simpa using h3
   have hlen:0 < w.length:=(List.getElem?_eq_some_iff.1 hget).1
   have hdig:∀ n (hn:n < w.length),48<=(w[n]).toNat/\(w[n]).toNat<=57:=fun n hn=>by
    rw [List.all_eq_true] at ha
    have:=ha _ (List.getElem_mem hn)
    simpa [isDigit] using this
   have hbad:(1 < w.length && c0 == 48)=true->numV (if !w.all isDigit || (1 < w.length && c0 == 48) then .error 3 else if 4294967295 < decNum w then .error 2 else .ok (decNum w))=numV (.error 3):=fun e=>by rw [e];simp
   have hgood:(1 < w.length && c0 == 48)=false->numV (if !w.all isDigit || (1 < w.length && c0 == 48) then .error 3 else if 4294967295 < decNum w then .error 2 else .ok (decNum w))=numV (if 4294967295 < decNum w then .error 2 else .ok (decNum w)):=fun e=>by rw [e,h3];rfl
   refine ⟨by decide,c0,hget,?_⟩
   conv=>whnf
   refine br_split (fun h4=> ?a) (fun h4=> ?b)
   case' a=>
    conv=>whnf
    refine br_split (fun h5=> ?c) (fun h5=> ?d)
   case c=>
    conv=>whnf
    refine ⟨?_,rfl⟩
    have e:(1 < w.length && c0 == 48)=true:=by
     simp only [decide_eq_true_eq] at h5
     have h4:(c0.toNat:Int)=48:=by simpa using h4
     simp [←UInt8.toNat_inj];omega
    rw [hbad e];rfl
   all_goals conv=>whnf
   all_goals
    have e:(1 < w.length && c0 == 48)=false:=by
     first
     | (have h5:¬ ((w.length:Nat):Int) > 1:=by simpa using h5
        simp;omega)
     | (have h4:¬ (c0.toNat:Int)=48:=by simpa using h4
        simp [←UInt8.toNat_inj];omega)
    refine ⟨Nat,fun n h1=>h1=h'/\n<=w.length/\decNum (w.take n)<=4294967295,fun n=>[(8, .val (int (decNum (w.take n)))),(63, .val (int n))],fun _=>[],fun n _=>w.length - n,⟨0,⟨rfl,Nat.zero_le _,by simp [decNum]⟩,⟨rfl,rfl⟩,trivial⟩,fun _=>trivial,?_⟩
    rintro n h1 ⟨rfl,hn,hd⟩
    conv=>whnf
    refine br_split (fun h6=>?_) (fun h6=>?_) <;> conv=>whnf
    . have hlt:n < w.length:=by
       have h6:(n:Int) < (w.length:Int):=by simpa using h6
       omega
      refine ⟨by omega,w[n],by simp [hlt],?_⟩
      conv=>whnf
      have d1:=(hdig n hlt).1
      have d2:=(hdig n hlt).2
      have hval:=dec_step hlt hd d1 d2
      refine br_split (fun h7=>?_) (fun h7=>?_) <;> conv=>whnf
      . refine ⟨?_,rfl⟩
        have h7:IntKind.i64.wrap (IntKind.i64.wrap ((decNum (w.take n):Int) * 10)+IntKind.i64.wrap (IntKind.u8.wrap ((w[n].toNat:Int) - 48))) > 4294967295:=by simpa using h7
        rw [hval] at h7
        have hm:=decNum_mono w (n+1)
        rw [hgood e,if_pos (by omega)];rfl
      . have h7:¬ IntKind.i64.wrap (IntKind.i64.wrap ((decNum (w.take n):Int) * 10)+IntKind.i64.wrap (IntKind.u8.wrap ((w[n].toNat:Int) - 48))) > 4294967295:=by simpa using h7
        rw [hval] at h7
        refine ⟨n+1,⟨rfl,hlt,by omega⟩,Nat.sub_lt_sub_left hlt (Nat.lt_succ_self _),⟨?_,?_⟩,trivial⟩
        . show SV.val (.int .i64 (IntKind.i64.wrap (IntKind.i64.wrap ((decNum (w.take n):Int) * 10)+IntKind.i64.wrap (IntKind.u8.wrap ((w[n].toNat:Int) - 48)))))=_
          rw [hval]
        . show SV.val (.int .i64 (IntKind.i64.wrap (n+1)))=_
          rw [wrap64 (by omega) (by omega)];rfl
    . have en:n=w.length:=by
       have h6:¬ (n:Int) < (w.length:Int):=by simpa using h6
       omega
      refine ⟨?_,rfl⟩
      subst en
      rw [List.take_length] at hd ⊢
      rw [hgood e,if_neg (by omega)];rfl
theorem valueOf_tri (w:Bytes) (h:PHeap) (hw:w≠[]) (hl:w.length<=1000000):Tri Tryz.prog 169 [str w] h fun v h'=>v=numV (numS w)/\h'=h:=by
 by_cases hp:(([48,120]:Bytes).isPrefixOf w)=true
 . obtain ⟨l,rfl⟩:=List.isPrefixOf_iff_prefix.1 hp
   exact valueHex_tri l h (by simp at hl;omega)
 . cases w with
   | nil=>exact absurd rfl hw
   | cons c w'=>
     have:=valueDec_tri (c::w') c h rfl hl hp
     rw [numS_dec hp]
     refine Tri.mono this ?_
     rintro v h' ⟨rfl,rfl⟩
     refine ⟨?_,rfl⟩
     simp only [List.head?_cons]
     rfl
end Go.Proofs.L
namespace Go.Proofs.L
open Go Go.Den Go.Sx
set_option maxRecDepth 100000
attribute [local irreducible] IntKind.wrap
def escN (c:Nat):Nat:=if c=110 then 11 else if c=116 then 10 else if c=48 then 1 else if c=92 then 93 else if c=39 then 40 else if c=34 then 35 else 0
def EscTab (h:PHeap):Prop:=∀ i,i < 128->h.cell 2 i=some (.int .u8 (escN i))
theorem EscTab.ext {h h':PHeap} (e:Ext h h') (t:EscTab h):EscTab h':=fun i hi=>e.cell (t i hi)
def c0:Except (Nat×Nat) (UInt8×Nat)->Int
 | .ok (b,_)=>b.toNat
 | .error _=>0
def c1 (n:Nat):Except (Nat×Nat) (UInt8×Nat)->Int
 | .ok (_,k)=>(n+k:Nat)
 | .error (e,k)=>if e=4 then 0 else (n+k:Nat)
def c2:Except (Nat×Nat) (UInt8×Nat)->Int
 | .ok _=>0
 | .error (e,_)=>e
def charV (n:Nat) (r:Except (Nat×Nat) (UInt8×Nat)):Value:= .tuple ⟨[.int .u8 (c0 r),int (c1 n r),int (c2 r)]⟩
theorem charS_esc {c:UInt8} {m:Bytes} (hc:c≠120):charS (92::c::m)=match escS c with
 | some b=> .ok (b,2)
 | none=> .error (6,1):=by
 simp [charS]
 cases escS c <;> rfl
def escCheck (c:UInt8):Bool:=match escS c with
 | none=>decide (128<=c.toNat) || escN c.toNat == 0
 | some b=>decide (c.toNat < 128) && escN c.toNat == b.toNat+1
theorem escCheck_all:∀ n,n < 256->escCheck (UInt8.ofNat n)=true:=by decide+kernel
theorem escCheck_any (c:UInt8):escCheck c=true:=by
 have:=escCheck_all c.toNat c.toNat_lt
 rwa [UInt8.ofNat_toNat] at this
theorem esc_none {c:UInt8} (h:128<=c.toNat∨escN c.toNat=0):escS c=none:=by
 have hc:=escCheck_any c
 unfold escCheck at hc
 split at hc
 . assumption
 . simp at hc;omega
theorem esc_some {c:UInt8} (h1:c.toNat < 128) (h2:escN c.toNat≠0):∃ b,escS c=some b/\escN c.toNat=b.toNat+1:=by
 have hc:=escCheck_any c
 unfold escCheck at hc
 split at hc
 . simp at hc;omega
 . rename_i b hb;simp at hc;exact ⟨b,hb,hc.2⟩
theorem hex_short {m ds:Bytes} (h1:ds=m.take ds.length) (h2:ds.length < 2) (h3:ds.all isHex=true) (h4:m.length=ds.length):charS (92::120::m)= .error (4,0):=by
 rw [h4.symm,List.take_length] at h1
 subst h1
 match ds,h2 with
 | [],_=>rfl
 | [a],_=>simp at h3;simp [charS,h3]
theorem hex_bad {m ds:Bytes} {c:UInt8} (h1:ds=m.take ds.length) (h2:ds.length < 2) (h3:ds.all isHex=true) (h4:m[ds.length]? =some c) (h5:isHex c=false):charS (92::120::m)= .error (6,2+ds.length):=by
 match ds,h2 with
 | [],_=>
   match m,h4 with
   | d::m,h4=>simp at h4;subst h4;simp [charS,h5]
 | [a],_=>
   match m,h1,h4 with
   | b::d::m,h1,h4=>simp at h1 h4 h3;subst h1 h4;simp [charS,h5,h3]
theorem hex_ok {m ds:Bytes} (h1:ds=m.take ds.length) (h2:ds.length=2) (h3:ds.all isHex=true):charS (92::120::m)= .ok (UInt8.ofNat (hexNum ds),4):=by
 match ds,h2 with
 | [a,b],_=>
   match m,h1 with
   | c::d::m,h1=>simp at h1 h3;obtain ⟨rfl,rfl⟩:=h1;simp [charS,h3,hexNum]
theorem hexByte_step {ds:Bytes} {c:UInt8} (h2:ds.length < 2) (h3:ds.all isHex=true) (hc:isHex c=true):
 IntKind.u8.wrap (IntKind.u8.wrap ((hexNum ds:Int) * 16)+(hexV c:Int))=(hexNum (ds++[c]):Int):=by
 have h4:=hexNum_lt ds.length ds rfl h3
 have h5:=hexV_lt c hc
 have h6:(16:Nat) ^ ds.length<=16 ^ 1:=Nat.pow_le_pow_right (by omega) (by omega)
 rw [hexNum_snoc]
 generalize hexNum ds=a at *
 generalize hexV c=b at *
 rw [wrap8 (n:=(a:Int) * 16) (by omega) (by omega),wrap8 (by omega) (by omega)]
 omega
theorem take_len_snoc {m ds:Bytes} {c:UInt8} (h1:ds=m.take ds.length) (h4:m[ds.length]? =some c):ds++[c]=m.take (ds++[c]).length:=by
 have hlt:ds.length < m.length:=(List.getElem?_eq_some_iff.1 h4).1
 have hg:m[ds.length]=c:=(List.getElem?_eq_some_iff.1 h4).2
 rw [List.length_append,List.length_singleton,List.take_succ_eq_append_getElem hlt,←h1,hg]
theorem escape_nil (l:Bytes) (n:Nat) (h:PHeap) (hlen:l.length=n+1) (hl:l.length<=1000000):
 Tri Tryz.prog 190 [str l,int n] h fun v h'=>v=charV n (charS [92])/\h'=h:=by
 have w1:IntKind.i64.wrap ((n:Int)+1)=((n+1:Nat):Int):=by rw [wrap64 (by omega) (by omega)];rfl
 refine t190 rfl ?_
 conv=>whnf
 refine br_split (fun h1=>?_) (fun h1=>?_) <;> conv=>whnf
 . exact ⟨rfl,rfl⟩
 . have h1:¬ IntKind.i64.wrap ((n:Int)+1)=(l.length:Int):=by simpa using h1
   exact absurd (by rw [w1,hlen]) h1
theorem escape_cons (l:Bytes) (n:Nat) (h:PHeap) (ht:EscTab h) (d:UInt8) (m:Bytes) (hlen:l.length=n+2+m.length) (hget0:l[n+1]? =some d) (hget:∀ k,l[n+2+k]? =m[k]?) (hl:l.length<=1000000):
 Tri Tryz.prog 190 [str l,int n] h fun v h'=>v=charV n (charS (92::d::m))/\h'=h:=by
 have w1:IntKind.i64.wrap ((n:Int)+1)=((n+1:Nat):Int):=by rw [wrap64 (by omega) (by omega)];rfl
 have w2:IntKind.i64.wrap ((n:Int)+2)=((n+2:Nat):Int):=by rw [wrap64 (by omega) (by omega)];rfl
 have w4:IntKind.i64.wrap ((n:Int)+4)=((n+4:Nat):Int):=by rw [wrap64 (by omega) (by omega)];rfl
 have hg0:l[(IntKind.i64.wrap ((n:Int)+1)).toNat]? =some d:=by rw [w1,Int.toNat_natCast];exact hget0
 have hp0:0<=IntKind.i64.wrap ((n:Int)+1):=by rw [w1];omega
 have wd:IntKind.i64.wrap (d.toNat:Int)=(d.toNat:Int):=wrap64 (by omega) (by have:=d.toNat_lt;omega)
 refine t190 rfl ?_
 conv=>whnf
 refine br_split (fun h1=>?_) (fun h1=>?_) <;> conv=>whnf
 . have h1:IntKind.i64.wrap ((n:Int)+1)=(l.length:Int):=by simpa using h1
   exact absurd (w1 ▸ h1) (by omega)
 . refine ⟨hp0,d,hg0,?_⟩
   conv=>whnf
   refine br_split (fun h2=>?_) (fun h2=>?_) <;> conv=>whnf
   . have h2:d≠120:=by
      intro e;subst e;simp at h2
     refine br_split (fun h3=>?_) (fun h3=>?_) <;> conv=>whnf
     . have h3:IntKind.i64.wrap (d.toNat:Int)≥128:=by simpa using h3
       rw [wd] at h3
       refine ⟨?_,rfl⟩
       rw [charS_esc h2,esc_none (.inl (by omega))]
       show Value.tuple ⟨[.int .u8 0, .int .i64 (IntKind.i64.wrap ((n:Int)+1)), .int .i64 6]⟩=_
       rw [w1];rfl
     . have h3:¬ IntKind.i64.wrap (d.toNat:Int)≥128:=by simpa using h3
       rw [wd] at h3
       have hlt:d.toNat < 128:=by omega
       have hcell:=ht d.toNat hlt
       refine ⟨⟨by omega,by omega⟩,?_⟩
       conv=>whnf
       refine ⟨[.int .u8 (escN d.toNat)],rfl,?_,?_⟩
       . show h.cell 2 (0+(d.toNat:Int).toNat * 1)=_
         rw [Int.toNat_natCast,Nat.mul_one,Nat.zero_add];exact hcell
       conv=>whnf
       refine br_split (fun h4=>?_) (fun h4=>?_) <;> conv=>whnf
       . have h4:(escN d.toNat:Int)=0:=by simpa using h4
         refine ⟨?_,rfl⟩
         rw [charS_esc h2,esc_none (.inr (by omega))]
         show Value.tuple ⟨[.int .u8 0, .int .i64 (IntKind.i64.wrap ((n:Int)+1)), .int .i64 6]⟩=_
         rw [w1];rfl
       . have h4:¬ (escN d.toNat:Int)=0:=by simpa using h4
         refine ⟨⟨by omega,by omega⟩,?_⟩
         conv=>whnf
         refine ⟨[.int .u8 (escN d.toNat)],rfl,?_,?_⟩
         . show h.cell 2 (0+(d.toNat:Int).toNat * 1)=_
           rw [Int.toNat_natCast,Nat.mul_one,Nat.zero_add];exact hcell
         conv=>whnf
         refine ⟨?_,rfl⟩
         obtain ⟨b,hb,he⟩:=esc_some hlt (by omega)
         rw [charS_esc h2,hb]
         show Value.tuple ⟨[.int .u8 (IntKind.u8.wrap ((escN d.toNat:Int) - 1)), .int .i64 (IntKind.i64.wrap ((n:Int)+2)), .int .i64 0]⟩=_
         have hbl:=b.toNat_lt
         rw [w2,wrap8 (by omega) (by omega),he]
         simp [charV,c0,c1,c2]
   . have h2:d=120:=by
      have h2:(d.toNat:Int)=120:=by simpa using h2
      have:d.toNat=120:=by omega
      exact UInt8.toNat_inj.1 this
     refine ⟨Bytes,fun ds h1=>h1=h/\ds.length<=2/\ds=m.take ds.length/\ds.all isHex=true,fun ds=>[(4, .val (.int .u8 (hexNum ds))),(5, .val (int (n+2+ds.length:Nat)))],fun _=>[],fun ds _=>2 - ds.length,
      ⟨[],⟨rfl,Nat.zero_le _,rfl,rfl⟩,⟨rfl,congrArg (fun x=>SV.val (.int .i64 x)) w2⟩,trivial⟩,fun _=>trivial,?_⟩
     rintro ds h1 ⟨rfl,hd2,hdt,hdh⟩
     conv=>whnf
     refine br_split (fun h3=>?_) (fun h3=>?_) <;> conv=>whnf
     . have h3:((n+2+ds.length:Nat):Int) < IntKind.i64.wrap ((n:Int)+4):=by simpa using h3
       rw [w4] at h3
       have hlt2:ds.length < 2:=by omega
       refine br_split (fun h4=>?_) (fun h4=>?_) <;> conv=>whnf
       . have h4:((n+2+ds.length:Nat):Int)=(l.length:Int):=by simpa using h4
         refine ⟨?_,rfl⟩
         rw [h2,hex_short hdt hlt2 hdh (by omega)];rfl
       . have h4:¬ ((n+2+ds.length:Nat):Int)=(l.length:Int):=by simpa using h4
         have hdm:ds.length<=m.length:=by
          have:=congrArg List.length hdt
          simp at this;omega
         have hltm:ds.length < m.length:=by omega
         have hgk:l[((n+2+ds.length:Nat):Int).toNat]? =some m[ds.length]:=by
          rw [Int.toNat_natCast,hget,List.getElem?_eq_getElem hltm]
         have hnn:0<=((n+2+ds.length:Nat):Int):=Int.natCast_nonneg _
         refine ⟨hnn,m[ds.length],hgk,?_⟩
         conv=>whnf
         refine Tri.mono (isHex_tri _ _) ?_
         rintro v h' ⟨rfl,rfl⟩
         conv=>whnf
         refine br_split (fun h5=>?_) (fun h5=>?_) <;> conv=>whnf
         . have h5:isHex m[ds.length]=false:=by simpa using h5
           refine ⟨?_,rfl⟩
           rw [h2,hex_bad hdt hlt2 hdh (List.getElem?_eq_getElem hltm) h5]
           show Value.tuple ⟨[.int .u8 0, .int .i64 ((n+2+ds.length:Nat):Int), .int .i64 6]⟩=_
           simp [charV,c0,c1,c2,Nat.add_assoc]
         . have h5:isHex m[ds.length]=true:=by simpa using h5
           refine ⟨hnn,m[ds.length],hgk,?_⟩
           conv=>whnf
           refine Tri.mono (hexValue_tri _ h5 _) ?_
           rintro v h' ⟨rfl,rfl⟩
           conv=>whnf
           refine ⟨ds++[m[ds.length]],⟨rfl,by simp;omega,take_len_snoc hdt (List.getElem?_eq_getElem hltm),by simp [hdh,h5]⟩,?_,⟨?_,?_⟩,trivial⟩
           . show 2 - (ds++[m[ds.length]]).length < 2 - ds.length
             simp;omega
           . show SV.val (.int .u8 (IntKind.u8.wrap (IntKind.u8.wrap ((hexNum ds:Int) * 16)+(hexV m[ds.length]:Int))))=_
             rw [hexByte_step hlt2 hdh h5]
           . show SV.val (.int .i64 (IntKind.i64.wrap (((n+2+ds.length:Nat):Int)+1)))=_
             rw [wrap64 (by omega) (by omega),List.length_append];rfl
     . have h3:¬ ((n+2+ds.length:Nat):Int) < IntKind.i64.wrap ((n:Int)+4):=by simpa using h3
       rw [w4] at h3
       have e2:ds.length=2:=by omega
       refine ⟨?_,rfl⟩
       rw [h2,hex_ok hdt e2 hdh]
       show Value.tuple ⟨[.int .u8 (hexNum ds:Int), .int .i64 ((n+2+ds.length:Nat):Int), .int .i64 0]⟩=_
       have hb:hexNum ds < 256:=by
        have:=hexNum_lt 2 ds e2 hdh
        omega
       rw [e2]
       simp [charV,c0,c1,c2,Nat.add_assoc]
       omega
theorem escape_tri (l:Bytes) (n:Nat) (h:PHeap) (ht:EscTab h) (m:Bytes) (hm:l.drop n=92::m) (hl:l.length<=1000000):
 Tri Tryz.prog 190 [str l,int n] h fun v h'=>v=charV n (charS (92::m))/\h'=h:=by
 have hlen:l.length=n+1+m.length:=by
  have:=congrArg List.length hm
  simp at this;omega
 have hget:∀ k,l[n+1+k]? =m[k]? :=fun k=>by
  have:(l.drop n)[k+1]? =m[k]? :=by rw [hm];rfl
  rw [List.getElem?_drop] at this
  rw [←this];congr 1;omega
 cases m with
 | nil=>exact escape_nil l n h (by simpa using hlen) hl
 | cons d m=>
   refine escape_cons l n h ht d m (by simp at hlen;omega) (by simpa using hget 0) (fun k=>?_) hl
   have:=hget (k+1)
   rw [show n+2+k=n+1+(k+1) by omega,this];rfl
def oneQ (q:UInt8) (l:Bytes):Except (Nat×Nat) (UInt8×Nat):=if l.head?=some q then .error (6,0) else charS l
theorem charS_plain {c:UInt8} {m:Bytes} (hc:c≠92):charS (c::m)=if c.toNat < 32 || 126 < c.toNat then .error (6,0) else .ok (c,1):=by
 unfold charS
 split
 . rename_i h;cases h
 . rename_i h;cases h;exact absurd rfl hc
 . rename_i h;cases h;rfl
theorem one_tri (l:Bytes) (n:Nat) (q:UInt8) (hq:q≠92) (h:PHeap) (ht:EscTab h) (hn:n<=l.length) (hl:l.length<=1000000):
 Tri Tryz.prog 170 [str l,int n,byteV q] h fun v h'=>v=charV n (oneQ q (l.drop n))/\h'=h:=by
 have w1:IntKind.i64.wrap ((n:Int)+1)=((n+1:Nat):Int):=by rw [wrap64 (by omega) (by omega)];rfl
 by_cases hlt:n < l.length
 . have hd:l.drop n=l[n]::l.drop (n+1):=List.drop_eq_getElem_cons hlt
   have hg:l[(n:Int).toNat]? =some l[n]:=by rw [Int.toNat_natCast];exact List.getElem?_eq_getElem hlt
   have hnn:0<=(n:Int):=Int.natCast_nonneg _
   generalize l[n]=c at hd hg
   refine t170 rfl ?_
   conv=>whnf
   refine br_split (fun h1=>?_) (fun h1=>?_) <;> conv=>whnf
   . have h1:(n:Int)=(l.length:Int):=by simpa using h1
     exact absurd h1 (by omega)
   . refine ⟨hnn,c,hg,?_⟩
     conv=>whnf
     refine br_split (fun h2=>?_) (fun h2=>?_) <;> conv=>whnf
     . have h2:c=92:=by
        have h2:(c.toNat:Int)=92:=by simpa using h2
        exact UInt8.toNat_inj.1 (by show c.toNat=92;omega)
       refine Tri.mono (escape_tri l n _ ht (l.drop (n+1)) (by rw [hd,h2]) hl) ?_
       rintro v h' ⟨rfl,rfl⟩
       have e:oneQ q (l.drop n)=charS (92::l.drop (n+1)):=by
        rw [hd,h2,oneQ,if_neg]
        simp;exact fun e=>hq e.symm
       conv=>whnf
       refine ⟨?_,rfl⟩
       rw [e];rfl
     . have h2:c≠92:=by
        intro e;subst e;simp at h2
       refine ⟨hnn,c,hg,?_⟩
       conv=>whnf
       refine br_split (fun h3=> ?a) (fun h3=> ?b)
       case a=>
        conv=>whnf
        refine ⟨?_,rfl⟩
        have h3:c=q:=by
         have h3:(c.toNat:Int)=(q.toNat:Int):=by simpa using h3
         exact UInt8.toNat_inj.1 (by omega)
        rw [hd,oneQ,h3,if_pos (show (q::List.drop (n+1) l).head?=some q from rfl)];rfl
       case b=>
        have e0:oneQ q (l.drop n)=if c.toNat < 32 || 126 < c.toNat then .error (6,0) else .ok (c,1):=by
         have h3:¬ c=q:=by
          intro e;subst e;simp at h3
         rw [hd,oneQ,if_neg (by simpa using h3),charS_plain h2]
        conv=>whnf
        refine ⟨hnn,c,hg,?_⟩
        conv=>whnf
        refine br_split (fun h4=>?_) (fun h4=>?_) <;> conv=>whnf
        . refine ⟨?_,rfl⟩
          have h4:(c.toNat:Int) < 32:=by simpa using h4
          rw [e0,if_pos (by simp;omega)];rfl
        . have h4:¬ (c.toNat:Int) < 32:=by simpa using h4
          refine ⟨hnn,c,hg,?_⟩
          conv=>whnf
          refine br_split (fun h5=>?_) (fun h5=>?_) <;> conv=>whnf
          . refine ⟨?_,rfl⟩
            have h5:(c.toNat:Int) > 126:=by simpa using h5
            rw [e0,if_pos (by simp;omega)];rfl
          . have h5:¬ (c.toNat:Int) > 126:=by simpa using h5
            refine ⟨hnn,c,hg,?_⟩
            conv=>whnf
            refine ⟨?_,rfl⟩
            rw [e0,if_neg (by simp;omega)]
            show Value.tuple ⟨[.int .u8 (c.toNat:Int), .int .i64 (IntKind.i64.wrap ((n:Int)+1)), .int .i64 0]⟩=_
            rw [w1];rfl
 . have e:l.drop n=[]:=List.drop_eq_nil_of_le (by omega)
   refine t170 rfl ?_
   conv=>whnf
   refine br_split (fun h1=>?_) (fun h1=>?_) <;> conv=>whnf
   . refine ⟨?_,rfl⟩
     rw [e];rfl
   . have h1:¬ (n:Int)=(l.length:Int):=by simpa using h1
     exact absurd (by omega) h1
end Go.Proofs.L
namespace Go.Proofs.L
open Go Go.Den Go.Sx
set_option maxRecDepth 100000
attribute [local irreducible] IntKind.wrap
abbrev OneR:=Except (Nat×Nat) (Nat×Nat×Nat×Bytes)
def aK:OneR->Int
 | .ok (k,_,_,_)=>k
 | .error _=>0
def aS:OneR->Nat
 | .ok (_,n,_,_)=>n
 | .error _=>0
def aV:OneR->Int
 | .ok (_,_,v,_)=>v
 | .error _=>0
def aB:OneR->Bytes
 | .ok (_,_,_,b)=>b
 | .error _=>[]
def aA:OneR->Int
 | .ok _=>0
 | .error (_,i)=>i
def aE:OneR->Int
 | .ok _=>0
 | .error (e,_)=>e
def att (kind:Int) (text:Bytes) (value:Int) (bytes:Bytes) (size at_ e:Int):Value:=
 .agg ⟨[int kind,str text,int value,str bytes,int 0,int 0,int size,int at_,int e]⟩
def attR (l:Bytes) (r:OneR):Value:=att (aK r) (l.take (aS r)) (aV r) (aB r) (aS r) (aA r) (aE r)
def att0:Value:=att 0 [] 0 [] 0 0 0
def two (v:Value) (b:Bool):Value:= .tuple ⟨[v, .bool b]⟩
theorem word_no (c:UInt8) (r:Bytes) (h:PHeap) (hc:isLetter c=false):Tri Tryz.prog 134 [str (c::r)] h fun v h'=>v=two att0 false/\h'=h:=by
 refine t134 rfl ?_
 conv=>whnf
 refine ⟨by decide,c,rfl,?_⟩
 conv=>whnf
 refine Tri.mono (isLetter_tri _ _) ?_
 rintro v h' ⟨rfl,rfl⟩
 conv=>whnf
 refine br_split (fun h1=>?_) (fun h1=>?_) <;> conv=>whnf
 . exact ⟨rfl,rfl⟩
 . rw [hc] at h1;cases h1
def wordS (l:Bytes):OneR:=if 32 < lead isAl l then .error (5,0) else if words.contains (l.take (lead isAl l)) then .ok (4,lead isAl l,0,[]) else .ok (1,lead isAl l,0,[])
theorem word_yes (c:UInt8) (r:Bytes) (h:PHeap) (hc:isLetter c=true) (hl:(c::r).length<=1000000):Tri Tryz.prog 134 [str (c::r)] h fun v h'=>v=two (attR (c::r) (wordS (c::r))) true/\Ext h h':=by
 have hle:=lead_le isAl (c::r)
 generalize hk:lead isAl (c::r)=k at hle
 have hlead:∀ h,Tri Tryz.prog 132 [str (c::r),fnv 166] h fun v h'=>v=int k/\h'=h:=fun h=>by
  have:=leading_tri (c::r) 166 isAl isAl_tri h (by omega)
  rw [hk] at this;exact this
 have hws:wordS (c::r)=if 32 < k then .error (5,0) else if words.contains ((c::r).take k) then .ok (4,k,0,[]) else .ok (1,k,0,[]):=by rw [wordS,hk]
 refine t134 rfl ?_
 conv=>whnf
 refine ⟨by decide,c,rfl,?_⟩
 conv=>whnf
 refine Tri.mono (isLetter_tri _ _) ?_
 rintro v h' ⟨rfl,rfl⟩
 conv=>whnf
 refine br_split (fun h1=>?_) (fun h1=>?_) <;> conv=>whnf
 . rw [hc] at h1;cases h1
 . refine Tri.mono (hlead _) ?_
   rintro v h' ⟨rfl,rfl⟩
   conv=>whnf
   refine br_split (fun h2=>?_) (fun h2=>?_)
   . have h2:(k:Int) > 32:=by simpa using h2
     have e:two (att 0 [] 0 [] 0 0 5) true=two (attR (c::r) (wordS (c::r))) true:=by rw [hws,if_pos (by omega)];rfl
     conv=>whnf
     exact ⟨e,Ext.refl _⟩
   . have h2:¬ (k:Int) > 32:=by simpa using h2
     have e:∀ b,words.contains ((c::r).take k)=b->two (att (if b then 4 else 1) ((c::r).take k) 0 [] k 0 0) true=two (attR (c::r) (wordS (c::r))) true:=fun b hb=>by
      have h3:¬ 32 < k:=by omega
      cases b <;> simp only [hws,if_neg h3,hb] <;> rfl
     have htk:((c::r).drop (0:Int).toNat).take ((k:Int).toNat - (0:Int).toNat)=(c::r).take k:=by simp
     conv=>whnf
     refine ⟨⟨by omega,by omega,by omega⟩,?_⟩
     conv=>whnf
     refine Tri.mono (keywords_tri _) ?_
     rintro v h2 ⟨b,rfl,hrow,hext⟩
     conv=>whnf
     refine Tri.mono (contains_tri words _ b 0 8 h2 hrow (by decide)) ?_
     rintro v h3 ⟨rfl,rfl⟩
     conv=>whnf
     refine br_split (fun h4=>?_) (fun h4=>?_)
     . have h4:words.contains ((c::r).take k)=true:=by rw [←htk];exact h4
       conv=>whnf
       refine ⟨⟨by omega,by omega,by omega⟩,?_⟩
       conv=>whnf
       exact ⟨e _ h4,hext⟩
     . have h4:words.contains ((c::r).take k)=false:=by rw [←htk];exact h4
       conv=>whnf
       refine ⟨⟨by omega,by omega,by omega⟩,?_⟩
       conv=>whnf
       exact ⟨e _ h4,hext⟩
end Go.Proofs.L
namespace Go.Proofs.L
open Go Go.Den Go.Sx
set_option maxRecDepth 100000
attribute [local irreducible] IntKind.wrap
theorem number_no (c:UInt8) (r:Bytes) (h:PHeap) (hc:isDigit c=false):Tri Tryz.prog 135 [str (c::r)] h fun v h'=>v=two att0 false/\h'=h:=by
 refine t135 rfl ?_
 conv=>whnf
 refine ⟨by decide,c,rfl,?_⟩
 conv=>whnf
 refine Tri.mono (isDigit_tri _ _) ?_
 rintro v h' ⟨rfl,rfl⟩
 conv=>whnf
 refine br_split (fun h1=>?_) (fun h1=>?_) <;> conv=>whnf
 . exact ⟨rfl,rfl⟩
 . rw [hc] at h1;cases h1
def numO (k:Nat):Except Nat Nat->OneR
 | .error e=> .error (e,0)
 | .ok v=> .ok (2,k,v,[])
def numberS (l:Bytes):OneR:=numO (lead isAl l) (numS (l.take (lead isAl l)))
theorem numS_err (w:Bytes) (e:Nat) (h:numS w= .error e):e≠0:=by
 unfold numS at h
 split at h
 . split at h
   . cases h;decide
   . cases h
 . split at h
   . cases h;decide
   . split at h
     . cases h;decide
     . cases h
theorem number_yes (c:UInt8) (r:Bytes) (h:PHeap) (hc:isDigit c=true) (hl:(c::r).length<=1000000):Tri Tryz.prog 135 [str (c::r)] h fun v h'=>v=two (attR (c::r) (numberS (c::r))) true/\h'=h:=by
 have hle:=lead_le isAl (c::r)
 have hpos:0 < lead isAl (c::r):=by
  have:isAl c=true:=by simp [isAl,hc]
  simp [lead,this]
 generalize hk:lead isAl (c::r)=k at hle hpos
 have hlead:∀ h,Tri Tryz.prog 132 [str (c::r),fnv 166] h fun v h'=>v=int k/\h'=h:=fun h=>by
  have:=leading_tri (c::r) 166 isAl isAl_tri h (by omega)
  rw [hk] at this;exact this
 have htk:((c::r).drop (0:Int).toNat).take ((k:Int).toNat - (0:Int).toNat)=(c::r).take k:=by simp
 have hval:∀ h,Tri Tryz.prog 169 [str (((c::r).drop (0:Int).toNat).take ((k:Int).toNat - (0:Int).toNat))] h fun v h'=>v=numV (numS ((c::r).take k))/\h'=h:=fun h=>by
  rw [htk]
  refine valueOf_tri _ h ?_ (by simp;omega)
  intro e
  have:=congrArg List.length e
  simp at this;omega
 have hns:numberS (c::r)=numO k (numS ((c::r).take k)):=by rw [numberS,hk]
 have herr:=numS_err ((c::r).take k)
 generalize numS ((c::r).take k)=q at hval hns herr
 refine t135 rfl ?_
 conv=>whnf
 refine ⟨by decide,c,rfl,?_⟩
 conv=>whnf
 refine Tri.mono (isDigit_tri _ _) ?_
 rintro v h' ⟨rfl,rfl⟩
 conv=>whnf
 refine br_split (fun h1=>?_) (fun h1=>?_)
 . rw [hc] at h1;cases h1
 . conv=>whnf
   refine Tri.mono (hlead _) ?_
   rintro v h' ⟨rfl,rfl⟩
   conv=>whnf
   refine ⟨⟨by omega,by omega,by omega⟩,?_⟩
   conv=>whnf
   refine Tri.mono (hval _) ?_
   rintro v h' ⟨rfl,rfl⟩
   conv=>whnf
   refine br_split (fun h2=>?_) (fun h2=>?_)
   . have e:two (att 0 [] 0 [] 0 0 (n1 q)) true=two (attR (c::r) (numberS (c::r))) true:=by
      rw [hns]
      cases q with
      | error e=>rfl
      | ok v=>simp [n1] at h2
     conv=>whnf
     exact ⟨e,rfl⟩
   . have e:two (att 2 (((c::r).drop (0:Int).toNat).take ((k:Int).toNat - (0:Int).toNat)) (n0 q) [] k 0 0) true=two (attR (c::r) (numberS (c::r))) true:=by
      rw [hns,htk]
      cases q with
      | error e=>exact absurd (by simpa [n1] using h2) (herr e rfl)
      | ok v=>rfl
     conv=>whnf
     refine ⟨⟨by omega,by omega,by omega⟩,?_⟩
     conv=>whnf
     exact ⟨e,rfl⟩
theorem character_no (c:UInt8) (r:Bytes) (h:PHeap) (hc:c≠39):Tri Tryz.prog 136 [str (c::r)] h fun v h'=>v=two att0 false/\h'=h:=by
 refine t136 rfl ?_
 conv=>whnf
 refine ⟨by decide,c,rfl,?_⟩
 conv=>whnf
 refine br_split (fun h1=>?_) (fun h1=>?_)
 . conv=>whnf
   exact ⟨rfl,rfl⟩
 . have h1:(c.toNat:Int)=39:=by simpa using h1
   exact absurd (UInt8.toNat_inj.1 (by show c.toNat=39;omega)) hc
def charO (r:Bytes):Except (Nat×Nat) (UInt8×Nat)->OneR
 | .error (e,k)=>if e=4 then .error (4,0) else .error (e,k+1)
 | .ok (b,n)=>match r.drop n with
   | []=> .error (4,0)
   | d::_=>if d == 39 then .ok (2,n+2,b.toNat,[]) else .error (6,n+1)
theorem charS_err (l:Bytes):(∀ e k,charS l= .error (e,k)->e≠0)/\∀ b n,charS l= .ok (b,n)->0 < n/\n<=l.length:=by
 unfold charS
 split
 . exact ⟨fun e k h=>by cases h;decide,fun b n h=>by cases h⟩
 . split
   . exact ⟨fun e k h=>by cases h;decide,fun b n h=>by cases h⟩
   . split
     . exact ⟨fun e k h=>by cases h;decide,fun b n h=>by cases h⟩
     . split
       . exact ⟨fun e k h=>by cases h;decide,fun b n h=>by cases h⟩
       . split
         . exact ⟨fun e k h=>by cases h;decide,fun b n h=>by cases h⟩
         . split
           . exact ⟨fun e k h=>by cases h;decide,fun b n h=>by cases h⟩
           . exact ⟨(fun e k h=>by cases h),fun b n h=>by cases h;simp⟩
   . split
     . exact ⟨(fun e k h=>by cases h),fun b n h=>by cases h;simp⟩
     . exact ⟨fun e k h=>by cases h;decide,fun b n h=>by cases h⟩
 . split
   . exact ⟨fun e k h=>by cases h;decide,fun b n h=>by cases h⟩
   . exact ⟨(fun e k h=>by cases h),fun b n h=>by cases h;simp⟩
theorem oneQ_err (q:UInt8) (l:Bytes):(∀ e k,oneQ q l= .error (e,k)->e≠0)/\∀ b n,oneQ q l= .ok (b,n)->0 < n/\n<=l.length:=by
 unfold oneQ
 split
 . exact ⟨fun e k h=>by cases h;decide,fun b n h=>by cases h⟩
 . exact charS_err l
theorem character_err (r:Bytes) (h:PHeap) (ht:EscTab h) (hl:r.length+1<=1000000) (e k:Nat) (hq:oneQ 39 r= .error (e,k)):
 Tri Tryz.prog 136 [str (39::r)] h fun v h'=>v=two (attR (39::r) (charO r (oneQ 39 r))) true/\h'=h:=by
 have hone:∀ h,EscTab h->Tri Tryz.prog 170 [str (39::r),int 1, .int .u8 39] h fun v h'=>v= .tuple ⟨[.int .u8 0,int (if e=4 then 0 else (1+k:Nat)),int e]⟩/\h'=h:=fun h ht=>by
  have:=one_tri (39::r) 1 39 (by decide) h ht (by simp) (by simpa using hl)
  rw [show List.drop 1 (39::r)=r from rfl,hq] at this
  exact this
 have he:=(oneQ_err 39 r).1 e k hq
 have e1:two (att 0 [] 0 [] 0 (if e=4 then 0 else (1+k:Nat)) e) true=two (attR (39::r) (charO r (oneQ 39 r))) true:=by
  rw [hq]
  by_cases h4:e=4
  . subst h4;rfl
  . simp only [charO,if_neg h4,attR,aK,aS,aV,aB,aA,aE]
    rw [Nat.add_comm 1 k];rfl
 refine t136 rfl ?_
 conv=>whnf
 refine ⟨by decide,39,rfl,?_⟩
 conv=>whnf
 refine Tri.mono (hone _ ht) ?_
 rintro v h' ⟨rfl,rfl⟩
 conv=>whnf
 refine br_split (fun h2=>?_) (fun h2=>?_)
 . conv=>whnf
   exact ⟨e1,rfl⟩
 . have h2:(e:Int)=0:=by simpa using h2
   exact absurd (by omega) he
theorem character_ok (r:Bytes) (h:PHeap) (ht:EscTab h) (hl:r.length+1<=1000000) (b:UInt8) (n:Nat) (hq:oneQ 39 r= .ok (b,n)):
 Tri Tryz.prog 136 [str (39::r)] h fun v h'=>v=two (attR (39::r) (charO r (oneQ 39 r))) true/\h'=h:=by
 have hone:∀ h,EscTab h->Tri Tryz.prog 170 [str (39::r),int 1, .int .u8 39] h fun v h'=>v= .tuple ⟨[.int .u8 b.toNat,int (1+n:Nat),int 0]⟩/\h'=h:=fun h ht=>by
  have:=one_tri (39::r) 1 39 (by decide) h ht (by simp) (by simpa using hl)
  rw [show List.drop 1 (39::r)=r from rfl,hq] at this
  exact this
 obtain ⟨hn0,hn1⟩:=(oneQ_err 39 r).2 b n hq
 have hb:=b.toNat_lt
 have w1:IntKind.i64.wrap (((1+n:Nat):Int)+1)=((n+2:Nat):Int):=by rw [wrap64 (by omega) (by omega)];omega
 have wb:IntKind.i64.wrap (b.toNat:Int)=(b.toNat:Int):=wrap64 (by omega) (by omega)
 have hnn:0<=((1+n:Nat):Int):=Int.natCast_nonneg _
 rw [hq]
 by_cases hend:n=r.length
 . have e1:two (att 0 [] 0 [] 0 0 4) true=two (attR (39::r) (charO r (.ok (b,n)))) true:=by
    simp only [charO,hend,List.drop_length];rfl
   refine t136 rfl ?_
   conv=>whnf
   refine ⟨by decide,39,rfl,?_⟩
   conv=>whnf
   refine Tri.mono (hone _ ht) ?_
   rintro v h' ⟨rfl,rfl⟩
   conv=>whnf
   refine br_split (fun h2=>?_) (fun h2=>?_)
   . conv=>whnf
     exact ⟨e1,rfl⟩
   . have h2:¬ ((1+n:Nat):Int)=((39::r).length:Nat):=by simpa using h2
     exact absurd (by simp;omega) h2
 . have hlt:n < r.length:=by omega
   have hdr:r.drop n=r[n]::r.drop (n+1):=List.drop_eq_getElem_cons hlt
   have hg:(39::r)[((1+n:Nat):Int).toNat]? =some r[n]:=by
    rw [Int.toNat_natCast,Nat.add_comm 1 n,List.getElem?_cons_succ,List.getElem?_eq_getElem hlt]
   generalize r[n]=d at hdr hg
   have e1:d≠39->two (att 0 [] 0 [] 0 (1+n:Nat) 6) true=two (attR (39::r) (charO r (.ok (b,n)))) true:=fun hd=>by
    have:(d == 39)=false:=by simpa using hd
    simp only [charO,hdr,this]
    rw [Nat.add_comm 1 n];rfl
   have e2:d=39->two (att 2 (((39::r).drop (0:Int).toNat).take ((IntKind.i64.wrap (((1+n:Nat):Int)+1)).toNat - (0:Int).toNat)) (IntKind.i64.wrap (b.toNat:Int)) [] (IntKind.i64.wrap (((1+n:Nat):Int)+1)) 0 0) true
    =two (attR (39::r) (charO r (.ok (b,n)))) true:=fun hd=>by
    simp only [charO,hdr,hd,w1,wb];rfl
   have hw:0<=(0:Int)/\0<=IntKind.i64.wrap (((1+n:Nat):Int)+1)/\IntKind.i64.wrap (((1+n:Nat):Int)+1)<=((39::r).length:Nat):=by
    rw [w1];simp;omega
   refine t136 rfl ?_
   conv=>whnf
   refine ⟨by decide,39,rfl,?_⟩
   conv=>whnf
   refine Tri.mono (hone _ ht) ?_
   rintro v h' ⟨rfl,rfl⟩
   conv=>whnf
   refine br_split (fun h2=>?_) (fun h2=>?_)
   . have h2:((1+n:Nat):Int)=((39::r).length:Nat):=by simpa using h2
     exact absurd h2 (by simp;omega)
   . conv=>whnf
     refine ⟨hnn,d,hg,?_⟩
     conv=>whnf
     refine br_split (fun h3=>?_) (fun h3=>?_)
     . have hd:d≠39:=by
        intro e;subst e;simp at h3
       conv=>whnf
       exact ⟨e1 hd,rfl⟩
     . have hd:d=39:=by
        have h3:(d.toNat:Int)=39:=by simpa using h3
        exact UInt8.toNat_inj.1 (by show d.toNat=39;omega)
       conv=>whnf
       refine ⟨hw,?_⟩
       conv=>whnf
       exact ⟨e2 hd,rfl⟩
end Go.Proofs.L
namespace Go.Proofs.L
open Go Go.Den Go.Sx
set_option maxRecDepth 100000
attribute [local irreducible] IntKind.wrap
def Fresh (h:PHeap) (v:Value):Prop:=∀ b o n c,v= .slice (some ⟨b,o,none⟩) n c->h b=none
theorem raw_append2 {P:Program} {h:PHeap} {ρ:Operand->Value} {c:Call} {x y:Operand} {t t2 e:TypeId} {n m k by_:Nat} {z vx vy:Value} {xs ys:List Value} {ty:TypeId}
 (hc:c.callee= .builtin .append) (ha:c.args=#[x,y]) (hts:c.argTypes=#[t,t2]) (hu:P.underlying t=some (.slice e)) (hi:∃ i,P.info? e=some i/\i.zero=some z/\i.size=k/\i.bytes=by_)
 (hx:ρ x=vx) (hy:ρ y=vy) (ho:Own h e k vx n xs) (hsrc:SrcH P h k t2 vy m ys) (hzc:z.cells.size=k) (hm:0 < m) (hbig:(16 * (n+m)+16384) * by_<=281474976710656) (h63:n+m<=1000000000):
 Raw P (execOp ρ (mkO (.call c) ty)) h fun v h'=>∃ b cap rest,v= .slice (some ⟨b,0,none⟩) (n+m) cap/\h'=h.put b (.cells ⟨xs++ys++rest⟩ e (0,0))/\rest.length=(cap - (n+m)) * k/\n+m<=cap/\
  (h b=none∨∃ c,vx= .slice (some ⟨b,0,none⟩) n c):=by
 obtain ⟨i,h1,h2,rfl,rfl⟩:=hi
 exact raw_append hc ha hts hu h1 h2 hx hy ho hsrc hzc hm hbig h63
theorem put_ne {h:PHeap} {b k:Nat} {o:Obj} (hk:k≠b):h.put b o k=h k:=by simp [PHeap.put,hk]
theorem Own.put {h:PHeap} {e k n b:Nat} {v:Value} {xs:List Value} (ho:Own h e k v n xs) (hb:h b=none) (o:Obj):Own (h.put b o) e k v n xs:=by
 obtain ⟨hl,ho⟩:=ho
 refine ⟨hl,?_⟩
 rcases ho with ho | ⟨b',cap,rest,rfl,hh,hr,hn⟩
 . exact .inl ho
 . refine .inr ⟨b',cap,rest,rfl,?_,hr,hn⟩
   rw [put_ne (fun e=>by rw [e,hb] at hh;cases hh)];exact hh
theorem Own.nil (h:PHeap) (e k:Nat):Own h e k (.slice none 0 0) 0 []:=⟨by simp, .inl ⟨rfl,rfl⟩⟩
theorem Fresh.nil (h:PHeap):Fresh h (.slice none 0 0):=fun b o n c e=>by cases e
theorem own_append {h h1:PHeap} {e k n m b b' cap:Nat} {v:Value} {xs ys rest:List Value} {o:Obj} (hown:Own h1 e k v n xs) (hb:h1 b=none) (hext:Ext h h1) (hfr:Fresh h v) (hys:ys.length=m * k)
 (hr:rest.length=(cap - (n+m)) * k) (hc:n+m<=cap) (hor:(h1.put b o) b'=none∨∃ c,v= .slice (some ⟨b',0,none⟩) n c):
 Own ((h1.put b o).put b' (.cells ⟨xs++ys++rest⟩ e (0,0))) e k (.slice (some ⟨b',0,none⟩) (n+m) cap) (n+m) (xs++ys)/\
  Ext h ((h1.put b o).put b' (.cells ⟨xs++ys++rest⟩ e (0,0)))/\Fresh h (.slice (some ⟨b',0,none⟩) (n+m) cap):=by
 have hb':h b'=none:=by
  rcases hor with h2 | ⟨c,h2⟩
  . cases hh:h b' with
    | none=>rfl
    | some x=>
      have h3:=(hext.trans (Ext.put hb o)) b' x hh
      rw [h2] at h3;cases h3
  . exact hfr _ _ _ _ h2
 refine ⟨⟨by rw [List.length_append,hown.1,hys,Nat.add_mul], .inr ⟨b',cap,rest,rfl,put_same _ _ _,hr,hc⟩⟩,?_,fun b2 o2 n2 c2 e2=>by cases e2;exact hb'⟩
 intro j x hj
 rw [put_ne (fun e=>by rw [e,hb'] at hj;cases hj)]
 exact (hext.trans (Ext.put hb o)) j x hj
theorem info5:∃ i,Tryz.prog.info? 5=some i/\i.zero=some (.int .u8 0)/\i.size=1/\i.bytes=1:=⟨_,rfl,rfl,rfl,rfl⟩
def strJ (m:Bytes) (k:Nat):Except (Nat×Nat) (Bytes×Nat)->Except (Nat×Nat) (Bytes×Nat)
 | .error (e,i)=>if e=4 then .error (4,0) else .error (e,i+k)
 | .ok (m',j)=> .ok (m++m',j+k)
theorem strJ_strJ (m m':Bytes) (k k':Nat) (r:Except (Nat×Nat) (Bytes×Nat)):strJ m k (strJ m' k' r)=strJ (m++m') (k+k') r:=by
 cases r with
 | error p=>
   obtain ⟨e,i⟩:=p
   by_cases h4:e=4
   . subst h4;simp [strJ]
   . simp only [strJ,if_neg h4];rw [Nat.add_assoc,Nat.add_comm k' k]
 | ok p=>obtain ⟨a,j⟩:=p;simp [strJ];omega
theorem strS_step {f:Nat} {c:UInt8} {l:Bytes} (hc:c≠34):strS (f+1) (c::l)=match charS (c::l) with
 | .error (e,k)=>if e=4 then .error (4,0) else .error (e,k)
 | .ok (b,n)=>strJ [b] n (strS f ((c::l).drop n)):=by
 have h1:(c == 34)=false:=by simpa using hc
 conv=>lhs;unfold strS
 simp only [h1]
 cases hs:charS (c::l) with
 | error p=>
   obtain ⟨e,k⟩:=p
   by_cases h4:e=4
   . subst h4;simp
   . simp [h4]
 | ok p=>
   obtain ⟨b,n⟩:=p
   simp only [Bool.false_eq_true,if_false]
   cases hr:strS f ((c::l).drop n) with
   | error p=>
     obtain ⟨e,k⟩:=p
     by_cases h4:e=4
     . subst h4;simp [strJ]
     . simp [h4,strJ]
   | ok p=>obtain ⟨m,k⟩:=p;simp [strJ]
end Go.Proofs.L
namespace Go.Proofs.L
open Go Go.Den Go.Sx
set_option maxRecDepth 100000
attribute [local irreducible] IntKind.wrap
def quoO:Except (Nat×Nat) (Bytes×Nat)->OneR
 | .error (e,k)=>if e=4 then .error (4,0) else .error (e,k+1)
 | .ok (m,k)=>if 200 < m.length then .error (5,0) else .ok (3,k+2,0,m)
def cb:Except (Nat×Nat) (UInt8×Nat)->UInt8
 | .ok (b,_)=>b
 | .error _=>0
def cn:Except (Nat×Nat) (UInt8×Nat)->Nat
 | .ok (_,n)=>n
 | .error _=>0
theorem quoO_strJ4 (m:Bytes) (k:Nat) (i:Nat):quoO (strJ m k (.error (4,i)))= .error (4,0):=by simp [strJ,quoO]
theorem q_err (r m:Bytes) (k:Nat) (hm:m.length<=k) (hk:k<=r.length) (R:Except (Nat×Nat) (Bytes×Nat)) (hR:R=strJ m k (strS (r.length+1 - m.length) (r.drop k))) (hq:(r.drop k).head?≠some 34)
 (h2:c2 (oneQ 34 (r.drop k))≠0):two (att 0 [] 0 [] 0 (c1 (k+1) (oneQ 34 (r.drop k))) (c2 (oneQ 34 (r.drop k)))) true=two (attR (34::r) (quoO R)) true:=by
 obtain ⟨f,hf⟩:∃ f,r.length+1 - m.length=f+1:=⟨r.length - m.length,by omega⟩
 rw [hf] at hR
 rw [oneQ,if_neg hq] at h2 ⊢
 cases hd:r.drop k with
 | nil=>rw [hd] at hR;rw [hR];simp only [strS];rw [quoO_strJ4];rfl
 | cons c l=>
   have hc:c≠34:=by intro e;rw [hd,e] at hq;exact hq rfl
   rw [hd] at hR h2
   rw [strS_step hc] at hR
   cases hs:charS (c::l) with
   | ok p=>obtain ⟨b,n⟩:=p;rw [hs] at h2;exact absurd rfl h2
   | error p=>
     obtain ⟨e,i⟩:=p
     rw [hs] at hR
     by_cases h4:e=4
     . subst h4;simp only [if_true] at hR;rw [hR,quoO_strJ4];rfl
     . simp only [if_neg h4,strJ] at hR
       rw [hR];simp only [quoO,if_neg h4,attR,c1,c2,aK,aS,aV,aB,aA,aE]
       rw [show k+1+i=i+k+1 by omega];rfl
theorem q_ok (r m:Bytes) (k:Nat) (hm:m.length<=k) (hk:k<=r.length) (R:Except (Nat×Nat) (Bytes×Nat)) (hR:R=strJ m k (strS (r.length+1 - m.length) (r.drop k))) (hq:(r.drop k).head?≠some 34)
 (h2:c2 (oneQ 34 (r.drop k))=0) (o:Except (Nat×Nat) (UInt8×Nat)) (ho:o=oneQ 34 (r.drop k)):
 c1 (k+1) o=(k+cn o+1:Nat)/\c0 o=(cb o).toNat/\0 < cn o/\k+cn o<=r.length/\R=strJ (m++[cb o]) (k+cn o) (strS (r.length+1 - (m++[cb o]).length) (r.drop (k+cn o))):=by
 obtain ⟨f,hf⟩:∃ f,r.length+1 - m.length=f+1:=⟨r.length - m.length,by omega⟩
 have hf2:∀ b,r.length+1 - (m++[b]).length=f:=fun b=>by simp;omega
 have herr:=oneQ_err 34 (r.drop k)
 rw [←ho] at h2 herr
 cases o with
 | error p=>obtain ⟨e,i⟩:=p;exact absurd (by simpa [c2] using h2) (herr.1 e i rfl)
 | ok p=>
   obtain ⟨b,n⟩:=p
   have h3:=herr.2 b n rfl
   rw [List.length_drop] at h3
   refine ⟨by show ((k+1+n:Nat):Int)=_;simp [cn];omega,rfl,h3.1,by show k+n<=_;omega,?_⟩
   rw [hf2,hR,hf]
   rw [oneQ,if_neg hq] at ho
   show _=strJ (m++[b]) (k+n) (strS f (r.drop (k+n)))
   rw [←List.drop_drop]
   cases hd:r.drop k with
   | nil=>rw [hd] at ho;cases ho
   | cons c l=>
     have hc:c≠34:=by intro e;rw [hd,e] at hq;exact hq rfl
     rw [hd] at ho
     rw [strS_step hc,←ho]
     show strJ m k (strJ [b] n _)=_
     rw [strJ_strJ]
theorem quoted_no (c:UInt8) (r:Bytes) (h:PHeap) (hc:c≠34):Tri Tryz.prog 137 [str (c::r)] h fun v h'=>v=two att0 false/\h'=h:=by
 refine t137 rfl ?_
 conv=>whnf
 refine ⟨by decide,c,rfl,?_⟩
 conv=>whnf
 refine br_split (fun h1=>?_) (fun h1=>?_)
 . conv=>whnf
   exact ⟨rfl,rfl⟩
 . have h1:(c.toNat:Int)=34:=by simpa using h1
   exact absurd (UInt8.toNat_inj.1 (by show c.toNat=34;omega)) hc
end Go.Proofs.L
namespace Go.Proofs.L
open Go Go.Den Go.Sx
set_option maxRecDepth 100000
attribute [local irreducible] IntKind.wrap
def sl (p:Option (Nat×Nat)) (n:Nat):Value:=match p with
 | none=> .slice none 0 0
 | some (b,c)=> .slice (some ⟨b,0,none⟩) n c
structure QI (r:Bytes) (h:PHeap) (x:Nat×Bytes×Option (Nat×Nat)) (h1:PHeap):Prop where
 hk:x.1<=r.length
 hm:x.2.1.length<=x.1
 own:Own h1 5 1 (sl x.2.2 x.2.1.length) x.2.1.length (x.2.1.map byteV)
 ext:Ext h h1
 fr:Fresh h (sl x.2.2 x.2.1.length)
 R:strS (r.length+1) r=strJ x.2.1 x.1 (strS (r.length+1 - x.2.1.length) (r.drop x.1))
theorem head_end {r:Bytes} {k:Nat} (h:(k:Int)+1=(r.length:Int)+1):(r.drop k).head?≠some 34:=by
 rw [List.drop_eq_nil_of_le (by omega)];simp
theorem len_ok {m r:Bytes} {k:Nat} (h1:m.length<=k) (h2:k<=r.length) (hl:r.length+1<=1000000):(16 * (m.length+1)+16384) * 1<=281474976710656/\m.length+1<=1000000000:=by omega
theorem put_row1 (h:PHeap) (b e:Nat) (x:Value):(h.put b (.cells ⟨[x]⟩ e)).row b 0 [x]:=row_put _ _ _ _ _
theorem q_sl (m:Bytes) (c:UInt8) (b cap:Nat):SV.val (.slice (some ⟨b,0,none⟩) (m.length+1) cap)=SV.val (sl (some (b,cap)) (m++[c]).length):=by simp [sl]
theorem q_less {r:Bytes} {k n:Nat} {A B C:Prop} (h:A/\B/\0 < n/\k+n<=r.length/\C):r.length - (k+n) < r.length - k:=by omega
theorem q_next {r m:Bytes} {h h1:PHeap} {k b0 b2 cap:Nat} {p:Option (Nat×Nat)} {rest:List Value} {ob:Obj} {o:Except (Nat×Nat) (UInt8×Nat)} {A:Prop} (hI:QI r h (k,m,p) h1) (hb0:h1 b0=none)
 (hr:rest.length=(cap - (m.length+1)) * 1) (hc:m.length+1<=cap) (hor:(h1.put b0 ob) b2=none∨∃ c,sl p m.length= .slice (some ⟨b2,0,none⟩) m.length c)
 (hok:A/\c0 o=(cb o).toNat/\0 < cn o/\k+cn o<=r.length/\strS (r.length+1) r=strJ (m++[cb o]) (k+cn o) (strS (r.length+1 - (m++[cb o]).length) (r.drop (k+cn o)))):
 QI r h (k+cn o,m++[cb o],some (b2,cap)) ((h1.put b0 ob).put b2 (.cells ⟨m.map byteV++[.int .u8 (c0 o)]++rest⟩ 5 (0,0))):=by
 obtain ⟨h1',h2',h3'⟩:=own_append (ys:=[.int .u8 (c0 o)]) hI.own hb0 hI.ext hI.fr rfl hr hc hor
 have e:m.map byteV++[.int .u8 (c0 o)]=(m++[cb o]).map byteV:=by rw [hok.2.1];simp [byteV]
 have el:(m++[cb o]).length=m.length+1:=by simp
 have hm:=hI.hm
 refine ⟨hok.2.2.2.1,by show (m++[cb o]).length<=k+cn o;rw [el];have:m.length<=k:=hm;have:=hok.2.2.1;omega,?_,h2',?_,hok.2.2.2.2⟩
 . show Own _ 5 1 (sl (some (b2,cap)) (m++[cb o]).length) (m++[cb o]).length ((m++[cb o]).map byteV)
   rw [el,←e];exact h1'
 . show Fresh h (sl (some (b2,cap)) (m++[cb o]).length)
   rw [el];exact h3'
theorem q_lt {r:Bytes} {k:Nat} {x:UInt8} (hk:k<=r.length) (h:((((k+1:Nat):Int)) == (((x::r).length:Nat):Int))=false):k < r.length:=by
 have h:¬ ((k+1:Nat):Int)=((r.length+1:Nat):Int):=by simpa using h
 omega
theorem q_get {r:Bytes} {k:Nat} {x:UInt8} (hlt:k < r.length):(x::r)[((k+1:Nat):Int).toNat]? =some (r[k]'hlt):=by
 rw [Int.toNat_natCast,List.getElem?_cons_succ,List.getElem?_eq_getElem hlt]
theorem q_head {r:Bytes} {k:Nat} (hlt:k < r.length) (h:(((r[k]'hlt).toNat:Int) != 34)=true):(r.drop k).head?≠some 34:=by
 rw [List.drop_eq_getElem_cons hlt]
 intro e
 have e:r[k]=34:=Option.some.inj e
 rw [e] at h;exact absurd h (by decide)
theorem q_exit {r m:Bytes} {k:Nat} (hlt:k < r.length) (h:(((r[k]'hlt).toNat:Int) != 34)=false) (hm:m.length<=k) (hR:strS (r.length+1) r=strJ m k (strS (r.length+1 - m.length) (r.drop k))):strS (r.length+1) r= .ok (m,k):=by
 obtain ⟨f,hf⟩:∃ f,r.length+1 - m.length=f+1:=⟨r.length - m.length,by omega⟩
 have h:((r[k]'hlt).toNat:Int)=34:=by simpa using h
 have e:r[k]=34:=UInt8.toNat_inj.1 (by show r[k].toNat=34;omega)
 rw [hR,hf,List.drop_eq_getElem_cons hlt,e]
 simp [strS,strJ]
theorem q_w {r:Bytes} {k:Nat} (hlt:k < r.length) (hl:r.length+1<=1000000):IntKind.i64.wrap (((k+1:Nat):Int)+1)=((k+2:Nat):Int):=by rw [wrap64 (by omega) (by omega)];omega
theorem q_bound {r:Bytes} {k:Nat} {x:UInt8} (hlt:k < r.length) (hl:r.length+1<=1000000):0<=(0:Int)/\0<=IntKind.i64.wrap (((k+1:Nat):Int)+1)/\IntKind.i64.wrap (((k+1:Nat):Int)+1)<=((x::r).length:Nat):=by
 rw [q_w hlt hl];simp;omega
theorem q_long {r m:Bytes} {k:Nat} {R:Except (Nat×Nat) (Bytes×Nat)} (hx:R= .ok (m,k)) (h:decide ((200:Int) < ((m.length:Nat):Int))=true):two (att 0 [] 0 [] 0 0 5) true=two (attR (34::r) (quoO R)) true:=by
 have h:200 < m.length:=by have:=of_decide_eq_true h;omega
 rw [hx];simp only [quoO,if_pos h];rfl
theorem q_done {r m:Bytes} {k:Nat} {R:Except (Nat×Nat) (Bytes×Nat)} (hx:R= .ok (m,k)) (h:decide ((200:Int) < ((m.length:Nat):Int))=false) (hlt:k < r.length) (hl:r.length+1<=1000000):
 two (att 3 (((34::r).drop (0:Int).toNat).take ((IntKind.i64.wrap (((k+1:Nat):Int)+1)).toNat - (0:Int).toNat)) 0 m (IntKind.i64.wrap (((k+1:Nat):Int)+1)) 0 0) true=two (attR (34::r) (quoO R)) true:=by
 have h:¬ 200 < m.length:=by have:=of_decide_eq_false h;omega
 rw [hx,q_w hlt hl];simp only [quoO,if_neg h];rfl
theorem q_done0 {r m:Bytes} {k:Nat} {h1:PHeap} {R:Except (Nat×Nat) (Bytes×Nat)} (hx:R= .ok (m,k)) (ho:Own h1 5 1 (sl none m.length) m.length (m.map byteV)) (hlt:k < r.length) (hl:r.length+1<=1000000):
 two (att 3 (((34::r).drop (0:Int).toNat).take ((IntKind.i64.wrap (((k+1:Nat):Int)+1)).toNat - (0:Int).toNat)) 0 [] (IntKind.i64.wrap (((k+1:Nat):Int)+1)) 0 0) true=two (attR (34::r) (quoO R)) true:=by
 have hm:m=[]:=by
  rcases ho.2 with h | ⟨b,cap,rest,h,_⟩
  . exact List.eq_nil_of_length_eq_zero h.2
  . cases h
 subst hm
 exact q_done hx rfl hlt hl
theorem strJ_zero (f:Nat) (r:Bytes):strS f r=strJ [] 0 (strS f r):=by
 cases f with
 | zero=>rfl
 | succ f=>
   cases r with
   | nil=>rfl
   | cons c l=>
     by_cases hc:c=34
     . subst hc;rfl
     . rw [strS_step hc]
       cases hs:charS (c::l) with
       | error p=>
         obtain ⟨e,k⟩:=p
         by_cases h4:e=4
         . subst h4;rfl
         . simp [strJ,h4]
       | ok p=>obtain ⟨b,n⟩:=p;simp only [];rw [strJ_strJ];simp
theorem quoted_yes (r:Bytes) (h:PHeap) (ht:EscTab h) (hl:r.length+1<=1000000):Tri Tryz.prog 137 [str (34::r)] h fun v h'=>v=two (attR (34::r) (quoO (strS (r.length+1) r))) true/\Ext h h':=by
 have hone:∀ k h,k<=r.length->EscTab h->Tri Tryz.prog 170 [str (34::r),int (k+1:Nat), .int .u8 34] h fun v h'=>v=charV (k+1) (oneQ 34 (r.drop k))/\h'=h:=fun k h hk ht=>
  one_tri (34::r) (k+1) 34 (by decide) h ht (by simpa using hk) (by simpa using hl)
 have hR0:strS (r.length+1) r=strJ [] 0 (strS (r.length+1) r):=strJ_zero _ _
 refine t137 rfl ?_
 conv=>whnf
 refine ⟨by decide,34,rfl,?_⟩
 conv=>whnf
 refine ⟨Nat×Bytes×Option (Nat×Nat),QI r h,fun x=>[(4, .val (sl x.2.2 x.2.1.length)),(5, .val (int (x.1+1:Nat)))],fun _=>[],fun x _=>r.length - x.1,
  ⟨(0,[],none),⟨Nat.zero_le _,Nat.zero_le _,Own.nil _ _ _,fun _ _ h=>h,Fresh.nil _,hR0⟩,⟨rfl,rfl⟩,rfl⟩,fun _=>trivial,?_⟩
 rintro ⟨k,m,_ | ⟨b,c⟩⟩ h1 hI
 . conv=>whnf
   refine br_split (fun h2=>?_) (fun h2=>?_)
   . have hq:(r.drop k).head?≠some 34:=head_end (by simpa using h2)
     conv=>whnf
     refine Tri.mono (hone k _ hI.hk (ht.ext hI.ext)) ?_
     rintro v h' ⟨rfl,rfl⟩
     conv=>whnf
     refine br_split (fun h3=>?_) (fun h3=>?_)
     . have h3:c2 (oneQ 34 (r.drop k))≠0:=by simpa using h3
       conv=>whnf
       exact ⟨q_err r m k hI.hm hI.hk _ hI.R hq h3,hI.ext⟩
     . have h3:c2 (oneQ 34 (r.drop k))=0:=by simpa using h3
       have hok:=q_ok r m k hI.hm hI.hk _ hI.R hq h3 _ rfl
       conv=>whnf
       intro b0 hb0
       conv=>whnf
       refine Raw.mono (raw_append2 rfl rfl rfl rfl info5 rfl rfl (Go.Proofs.L.Own.put hI.own hb0 _) (SrcH.row rfl rfl (put_row1 _ _ _ _) rfl) rfl (by decide) (len_ok hI.hm hI.hk hl).1 (len_ok hI.hm hI.hk hl).2) ?_
       rintro v h2 ⟨b2,cap,rest,rfl,rfl,hr,hc,hor⟩
       conv=>whnf
       exact ⟨(k+cn (oneQ 34 (r.drop k)),m++[cb (oneQ 34 (r.drop k))],some (b2,cap)),q_next hI hb0 hr hc hor hok,q_less hok,⟨q_sl _ _ _ _,congrArg (fun x=>SV.val (.int .i64 x)) hok.1⟩,rfl⟩
   . have hlt:=q_lt hI.hk h2
     conv=>whnf
     refine ⟨Int.natCast_nonneg _,r[k]'hlt,q_get hlt,?_⟩
     conv=>whnf
     refine br_split (fun h4=>?_) (fun h4=>?_)
     . have hq:(r.drop k).head?≠some 34:=q_head hlt h4
       conv=>whnf
       refine Tri.mono (hone k _ hI.hk (ht.ext hI.ext)) ?_
       rintro v h' ⟨rfl,rfl⟩
       conv=>whnf
       refine br_split (fun h3=>?_) (fun h3=>?_)
       . have h3:c2 (oneQ 34 (r.drop k))≠0:=by simpa using h3
         conv=>whnf
         exact ⟨q_err r m k hI.hm hI.hk _ hI.R hq h3,hI.ext⟩
       . have h3:c2 (oneQ 34 (r.drop k))=0:=by simpa using h3
         have hok:=q_ok r m k hI.hm hI.hk _ hI.R hq h3 _ rfl
         conv=>whnf
         intro b0 hb0
         conv=>whnf
         refine Raw.mono (raw_append2 rfl rfl rfl rfl info5 rfl rfl (Go.Proofs.L.Own.put hI.own hb0 _) (SrcH.row rfl rfl (put_row1 _ _ _ _) rfl) rfl (by decide) (len_ok hI.hm hI.hk hl).1 (len_ok hI.hm hI.hk hl).2) ?_
         rintro v h2 ⟨b2,cap,rest,rfl,rfl,hr,hc,hor⟩
         conv=>whnf
         exact ⟨(k+cn (oneQ 34 (r.drop k)),m++[cb (oneQ 34 (r.drop k))],some (b2,cap)),q_next hI hb0 hr hc hor hok,q_less hok,⟨q_sl _ _ _ _,congrArg (fun x=>SV.val (.int .i64 x)) hok.1⟩,rfl⟩
     . have hx:=q_exit hlt h4 hI.hm hI.R
       conv=>whnf
       refine ⟨q_bound hlt hl,?_⟩
       conv=>whnf
       exact ⟨q_done0 hx hI.own hlt hl,hI.ext⟩
 . conv=>whnf
   refine br_split (fun h2=>?_) (fun h2=>?_)
   . have hq:(r.drop k).head?≠some 34:=head_end (by simpa using h2)
     conv=>whnf
     refine Tri.mono (hone k _ hI.hk (ht.ext hI.ext)) ?_
     rintro v h' ⟨rfl,rfl⟩
     conv=>whnf
     refine br_split (fun h3=>?_) (fun h3=>?_)
     . have h3:c2 (oneQ 34 (r.drop k))≠0:=by simpa using h3
       conv=>whnf
       exact ⟨q_err r m k hI.hm hI.hk _ hI.R hq h3,hI.ext⟩
     . have h3:c2 (oneQ 34 (r.drop k))=0:=by simpa using h3
       have hok:=q_ok r m k hI.hm hI.hk _ hI.R hq h3 _ rfl
       conv=>whnf
       intro b0 hb0
       conv=>whnf
       refine Raw.mono (raw_append2 rfl rfl rfl rfl info5 rfl rfl (Go.Proofs.L.Own.put hI.own hb0 _) (SrcH.row rfl rfl (put_row1 _ _ _ _) rfl) rfl (by decide) (len_ok hI.hm hI.hk hl).1 (len_ok hI.hm hI.hk hl).2) ?_
       rintro v h2 ⟨b2,cap,rest,rfl,rfl,hr,hc,hor⟩
       conv=>whnf
       exact ⟨(k+cn (oneQ 34 (r.drop k)),m++[cb (oneQ 34 (r.drop k))],some (b2,cap)),q_next hI hb0 hr hc hor hok,q_less hok,⟨q_sl _ _ _ _,congrArg (fun x=>SV.val (.int .i64 x)) hok.1⟩,rfl⟩
   . have hlt:=q_lt hI.hk h2
     conv=>whnf
     refine ⟨Int.natCast_nonneg _,r[k]'hlt,q_get hlt,?_⟩
     conv=>whnf
     refine br_split (fun h4=>?_) (fun h4=>?_)
     . have hq:(r.drop k).head?≠some 34:=q_head hlt h4
       conv=>whnf
       refine Tri.mono (hone k _ hI.hk (ht.ext hI.ext)) ?_
       rintro v h' ⟨rfl,rfl⟩
       conv=>whnf
       refine br_split (fun h3=>?_) (fun h3=>?_)
       . have h3:c2 (oneQ 34 (r.drop k))≠0:=by simpa using h3
         conv=>whnf
         exact ⟨q_err r m k hI.hm hI.hk _ hI.R hq h3,hI.ext⟩
       . have h3:c2 (oneQ 34 (r.drop k))=0:=by simpa using h3
         have hok:=q_ok r m k hI.hm hI.hk _ hI.R hq h3 _ rfl
         conv=>whnf
         intro b0 hb0
         conv=>whnf
         refine Raw.mono (raw_append2 rfl rfl rfl rfl info5 rfl rfl (Go.Proofs.L.Own.put hI.own hb0 _) (SrcH.row rfl rfl (put_row1 _ _ _ _) rfl) rfl (by decide) (len_ok hI.hm hI.hk hl).1 (len_ok hI.hm hI.hk hl).2) ?_
         rintro v h2 ⟨b2,cap,rest,rfl,rfl,hr,hc,hor⟩
         conv=>whnf
         exact ⟨(k+cn (oneQ 34 (r.drop k)),m++[cb (oneQ 34 (r.drop k))],some (b2,cap)),q_next hI hb0 hr hc hor hok,q_less hok,⟨q_sl _ _ _ _,congrArg (fun x=>SV.val (.int .i64 x)) hok.1⟩,rfl⟩
     . have hx:=q_exit hlt h4 hI.hm hI.R
       conv=>whnf
       refine br_split (fun h5=>?_) (fun h5=>?_)
       . conv=>whnf
         exact ⟨q_long hx h5,hI.ext⟩
       . conv=>whnf
         refine ⟨q_bound hlt hl,?_⟩
         conv=>whnf
         refine ⟨m,rfl,Go.Den.Own.row hI.own,?_⟩
         conv=>whnf
         exact ⟨q_done hx h5 hlt hl,hI.ext⟩
end Go.Proofs.L
namespace Go.Proofs.L
open Go Go.Den Go.Sx
set_option maxRecDepth 100000
attribute [local irreducible] IntKind.wrap
def symT (l b s:Bytes):Bytes:=if b.length < s.length && s.isPrefixOf l then s else b
def symB (l:Bytes) (ss:List Bytes):Bytes:=ss.foldl (symT l) []
theorem symB_snoc (l:Bytes) (n:Nat) (hn:n < marks.length):symB l (marks.take (n+1))=symT l (symB l (marks.take n)) marks[n]:=by
 rw [symB,List.take_succ_eq_append_getElem hn,List.foldl_append];rfl
theorem sym_cell {h:PHeap} {b n:Nat} (hr:h.row b 0 (marks.map str)) (hlt:n < marks.length):h.cell b (0+(n:Int).toNat * 1)=some (str (marks[n]'hlt)):=by
 have:=PHeap.row_get hr n (str (marks[n]'hlt)) (by simp [hlt])
 simpa using this
theorem sym_less {n:Nat} (hlt:n < marks.length):29 - (n+1) < 29 - n:=by
 have:n < 29:=hlt
 omega
theorem sym_inc {n:Nat} (hlt:n < marks.length):SV.val (.int .i64 (IntKind.i64.wrap ((n:Int)+1)))=SV.val (int (n+1:Nat)):=by
 have:n < 29:=hlt
 rw [wrap64 (by omega) (by omega)];rfl
theorem sym_yes {l b s x:Bytes} (hx:x=symT l b s) (h4:decide ((b.length:Int) < (s.length:Int))=true) (h6:s.isPrefixOf l=true):s=x:=by
 have h4:b.length < s.length:=by have:=of_decide_eq_true h4;omega
 rw [hx,symT,h6];simp [h4]
theorem sym_no2 {l b s x:Bytes} (hx:x=symT l b s) (h6:s.isPrefixOf l=false):b=x:=by
 rw [hx,symT,h6];simp
theorem sym_no1 {l b s x:Bytes} (hx:x=symT l b s) (h4:decide ((b.length:Int) < (s.length:Int))=false):b=x:=by
 have h4:¬ b.length < s.length:=by have:=of_decide_eq_false h4;omega
 rw [hx,symT];simp [h4]
theorem symbol_tri (l:Bytes) (h:PHeap):Tri Tryz.prog 138 [str l] h fun v h'=>v=two (att 5 (symB l marks) 0 [] (symB l marks).length 0 0) (!(symB l marks == []))/\Ext h h':=by
 refine t138 rfl ?_
 conv=>whnf
 refine Tri.mono (symbols_tri _) ?_
 rintro v h1 ⟨b,rfl,hrow,hext⟩
 conv=>whnf
 refine ⟨Nat,fun n h2=>h2=h1/\n<=29,fun n=>[(4, .val (str (symB l (marks.take n)))),(9, .val (int n))],fun _=>[],fun n _=>29 - n,⟨0,⟨rfl,Nat.zero_le _⟩,⟨rfl,rfl⟩,rfl⟩,fun _=>trivial,?_⟩
 rintro n h2 ⟨rfl,hn⟩
 conv=>whnf
 refine br_split (fun h3=>?_) (fun h3=>?_)
 . have h3:(n:Int) < 29:=by simpa using h3
   have hlt:n < marks.length:=by show n < 29;omega
   have hcell:=sym_cell hrow hlt
   have hs:=symB_snoc l n hlt
   conv=>whnf
   refine ⟨⟨Int.natCast_nonneg _,h3⟩,?_⟩
   conv=>whnf
   refine ⟨[str (marks[n]'hlt)],rfl,hcell,?_⟩
   conv=>whnf
   refine br_split (fun h4=>?_) (fun h4=>?_)
   . conv=>whnf
     refine Tri.mono (stringsHasPrefix_tri _ _ _) ?_
     rintro v h5 ⟨rfl,rfl⟩
     conv=>whnf
     refine br_split (fun h6=>?_) (fun h6=>?_)
     . conv=>whnf
       exact ⟨n+1,⟨rfl,hlt⟩,sym_less hlt,⟨congrArg (fun x=>SV.val (str x)) (sym_yes hs h4 h6),sym_inc hlt⟩,rfl⟩
     . conv=>whnf
       exact ⟨n+1,⟨rfl,hlt⟩,sym_less hlt,⟨congrArg (fun x=>SV.val (str x)) (sym_no2 hs h6),sym_inc hlt⟩,rfl⟩
   . conv=>whnf
     exact ⟨n+1,⟨rfl,hlt⟩,sym_less hlt,⟨congrArg (fun x=>SV.val (str x)) (sym_no1 hs h4),sym_inc hlt⟩,rfl⟩
 . have h3:¬ (n:Int) < 29:=by simpa using h3
   have e:marks.take n=marks:=List.take_of_length_le (show 29<=n by omega)
   have e2:two (att 5 (symB l (marks.take n)) 0 [] (symB l (marks.take n)).length 0 0) (!(symB l (marks.take n) == []))=two (att 5 (symB l marks) 0 [] (symB l marks).length 0 0) (!(symB l marks == [])):=by rw [e]
   conv=>whnf
   exact ⟨e2,hext⟩
end Go.Proofs.L
namespace Go.Proofs.L
open Go Go.Den Go.Sx
set_option maxRecDepth 100000
theorem marks_len:∀ s∈marks,s.length=1∨s.length=2:=by decide
theorem symT_mem (l:Bytes):∀ (ss:List Bytes) (b:Bytes),ss.foldl (symT l) b=b∨ss.foldl (symT l) b∈ss/\(ss.foldl (symT l) b).isPrefixOf l=true
 | [],b=> .inl rfl
 | s::ss,b=>by
   rw [List.foldl_cons]
   by_cases hc:(b.length < s.length && s.isPrefixOf l)=true
   . have e:symT l b s=s:=by rw [symT,hc];rfl
     have hp:s.isPrefixOf l=true:=by
      have:=(Bool.and_eq_true _ _).mp hc
      exact this.2
     rw [e]
     rcases symT_mem l ss s with h | h
     . rw [h];exact .inr ⟨List.mem_cons_self ..,hp⟩
     . exact .inr ⟨List.mem_cons_of_mem _ h.1,h.2⟩
   . have e:symT l b s=b:=by rw [symT,if_neg hc]
     rw [e]
     rcases symT_mem l ss b with h | h
     . exact .inl h
     . exact .inr ⟨List.mem_cons_of_mem _ h.1,h.2⟩
theorem symT_ge (l:Bytes):∀ (ss:List Bytes) (b:Bytes),b.length<=(ss.foldl (symT l) b).length/\∀ s∈ss,s.isPrefixOf l=true->s.length<=(ss.foldl (symT l) b).length
 | [],b=>⟨Nat.le_refl _,fun s h=>by cases h⟩
 | s::ss,b=>by
   rw [List.foldl_cons]
   have ih:=symT_ge l ss (symT l b s)
   have hb:b.length<=(symT l b s).length:=by
    unfold symT;split
    . rename_i h;have:=((Bool.and_eq_true _ _).mp h).1;have:=of_decide_eq_true this;omega
    . exact Nat.le_refl _
   refine ⟨Nat.le_trans hb ih.1,fun t ht hp=>?_⟩
   cases ht with
   | head=>
     refine Nat.le_trans ?_ ih.1
     unfold symT;split
     . exact Nat.le_refl _
     . rename_i h
       rw [hp,Bool.and_true] at h
       exact Nat.le_of_not_lt fun hlt=>h (decide_eq_true hlt)
   | tail _ ht=>exact ih.2 t ht hp
theorem prefix_take {s l:Bytes} (h:s.isPrefixOf l=true):s=l.take s.length:=by
 have h:=List.isPrefixOf_iff_prefix.1 h
 exact List.prefix_iff_eq_take.1 h
end Go.Proofs.L
namespace Go.Proofs.L
open Go Go.Den Go.Sx
set_option maxRecDepth 100000
attribute [local irreducible] marks
theorem take_pre (l:Bytes) (n:Nat):(l.take n).isPrefixOf l=true:=List.isPrefixOf_iff_prefix.2 (List.take_prefix n l)
theorem symB_eq (l:Bytes):symB l marks=if marks.contains (l.take 2) then l.take 2 else if marks.contains (l.take 1) then l.take 1 else []:=by
 have hm:=symT_mem l marks []
 have hg:=(symT_ge l marks []).2
 change symB l marks=[]∨symB l marks∈marks/\(symB l marks).isPrefixOf l=true at hm
 change ∀ s∈marks,s.isPrefixOf l=true->s.length<=(symB l marks).length at hg
 generalize symB l marks=x at hm hg
 have h12:x∈marks->x.isPrefixOf l=true->(x=l.take 1/\x.length=1)∨(x=l.take 2/\x.length=2):=fun h1 h2=>by
  have h3:=prefix_take h2
  rcases marks_len x h1 with h | h
  . exact .inl ⟨by rw [h] at h3;exact h3,h⟩
  . exact .inr ⟨by rw [h] at h3;exact h3,h⟩
 split
 . rename_i h2
   have h2:=List.contains_iff_mem.1 h2
   have h3:=hg _ h2 (take_pre l 2)
   have h5:=marks_len _ h2
   rcases hm with h | h
   . rw [h] at h3;simp only [List.length_nil] at h3;omega
   . rcases h12 h.1 h.2 with ⟨h4,h6⟩ | ⟨h4,_⟩
     . rw [h6] at h3
       have h7:(l.take 2).length=1:=by omega
       have h8:l.length=1:=by rw [List.length_take] at h7;omega
       rw [h4,List.take_of_length_le (by omega),List.take_of_length_le (by omega)]
     . exact h4
 . rename_i h2
   split
   . rename_i h1
     have h1:=List.contains_iff_mem.1 h1
     have h3:=hg _ h1 (take_pre l 1)
     have h5:=marks_len _ h1
     rcases hm with h | h
     . rw [h] at h3;simp only [List.length_nil] at h3;omega
     . rcases h12 h.1 h.2 with h4 | h4
       . exact h4.1
       . exact absurd (List.contains_iff_mem.2 (h4.1 ▸ h.1)) h2
   . rename_i h1
     rcases hm with h | h
     . exact h
     . rcases h12 h.1 h.2 with h4 | h4
       . exact absurd (List.contains_iff_mem.2 (h4.1 ▸ h.1)) h1
       . exact absurd (List.contains_iff_mem.2 (h4.1 ▸ h.1)) h2
end Go.Proofs.L
namespace Go.Sx
def placeStep (p:Nat×Nat) (c:UInt8):Nat×Nat:=if c == 10 then (p.1+1,1) else (p.1,p.2+1)
theorem placeL_eq:∀ (n:Nat) (l:Bytes) (p:Nat×Nat),placeL l n p=(l.take n).foldl placeStep p
 | 0,l,p=>by cases l <;> rfl
 | n+1,[],p=>rfl
 | n+1,c::l,p=>by simp only [placeL,List.take_succ_cons,List.foldl_cons];exact placeL_eq n l _
theorem place_eq (s:Bytes) (n:Nat):place s n=(s.take n).foldl placeStep (1,1):=placeL_eq n s _
theorem place_succ {s:Bytes} {n:Nat} {c:UInt8} (h:s[n]? =some c):place s (n+1)=placeStep (place s n) c:=by
 have hlt:n < s.length:=(List.getElem?_eq_some_iff.1 h).1
 have he:s[n]=c:=(List.getElem?_eq_some_iff.1 h).2
 rw [place_eq,place_eq,List.take_succ_eq_append_getElem hlt,List.foldl_append,he];rfl
theorem place_add {s:Bytes} {n:Nat}:∀ (k:Nat),(∀ c∈(s.drop n).take k,c≠10)->n+k<=s.length->place s (n+k)=((place s n).1,(place s n).2+k)
 | 0,_,_=>rfl
 | k+1,h,hl=>by
   have hlt:n+k < s.length:=by omega
   have hg:s[n+k]? =some s[n+k]:=List.getElem?_eq_getElem hlt
   have hm:s[n+k]∈(s.drop n).take (k+1):=by
    rw [List.mem_iff_getElem?]
    refine ⟨k,?_⟩
    rw [List.getElem?_take,if_pos (by omega),List.getElem?_drop];exact hg
   have h10:(s[n+k] == 10)=false:=by simpa using h _ hm
   have ih:=place_add k (fun c hc=>h c (by
    rw [List.mem_iff_getElem?] at hc ⊢
    obtain ⟨i,hi⟩:=hc
    refine ⟨i,?_⟩
    have hik:i < k:=by
     have:=(List.getElem?_eq_some_iff.1 hi).1
     rw [List.length_take] at this;omega
    rw [List.getElem?_take,if_pos hik] at hi
    rw [List.getElem?_take,if_pos (by omega)];exact hi)) (by omega)
   rw [show n+(k+1)=(n+k)+1 by omega,place_succ hg,placeStep,h10,ih];rfl
theorem place_bound (s:Bytes) (n:Nat):(place s n).1<=n+1/\1<=(place s n).2/\(place s n).2<=n+1:=by
 have:∀ (l:Bytes) (p:Nat×Nat),1<=p.2->(l.foldl placeStep p).1<=p.1+l.length/\1<=(l.foldl placeStep p).2/\(l.foldl placeStep p).2<=p.2+l.length:=by
  intro l
  induction l with
  | nil=>intro p hp;exact ⟨Nat.le_refl _,hp,Nat.le_refl _⟩
  | cons c l ih=>
    intro p hp
    have hs:(placeStep p c).1<=p.1+1/\1<=(placeStep p c).2/\(placeStep p c).2<=p.2+1:=by
     unfold placeStep;split
     . exact ⟨Nat.le_refl _,Nat.le_refl _,by show 1<=p.2+1;omega⟩
     . exact ⟨Nat.le_add_right _ _,by show 1<=p.2+1;omega,Nat.le_refl _⟩
    have:=ih (placeStep p c) hs.2.1
    rw [List.foldl_cons,List.length_cons]
    omega
 have h:=this (s.take n) (1,1) (Nat.le_refl _)
 rw [←place_eq] at h
 have hl:(s.take n).length<=n:=by rw [List.length_take];omega
 simp only at h
 omega
theorem skipN_nl (l:Bytes):skipN false (10::l)=skipN false l+1:=rfl
theorem skipN_sp {c:UInt8} (l:Bytes) (h:c=32∨c=9):skipN false (c::l)=skipN false l+1:=by
 rcases h with rfl | rfl <;> rfl
theorem skipN_true:∀ (l:Bytes),skipN true l=lead (fun c=> !(c == 10)) l+skipN false (l.drop (lead (fun c=> !(c == 10)) l))
 | []=>rfl
 | c::l=>by
   by_cases h:c=10
   . subst h;show skipN false l+1=0+(skipN false l+1);omega
   . have h1:(c == 10)=false:=by simpa using h
     have e1:skipN true (c::l)=skipN true l+1:=by rw [skipN,h1];rfl
     have e2:lead (fun c=> !(c == 10)) (c::l)=lead (fun c=> !(c == 10)) l+1:=by rw [lead,h1];rfl
     rw [e1,e2,skipN_true l,List.drop_succ_cons];omega
theorem skipN_com (l:Bytes):skipN false (47::47::l)=lead (fun c=> !(c == 10)) (47::47::l)+skipN false ((47::47::l).drop (lead (fun c=> !(c == 10)) (47::47::l))):=by
 have h1:skipN false (47::47::l)=skipN true (47::l)+1:=rfl
 have h2:skipN true (47::l)=skipN true l+1:=rfl
 have h3:lead (fun c=> !(c == 10)) (47::47::l)=lead (fun c=> !(c == 10)) l+1+1:=rfl
 rw [h1,h2,h3,skipN_true l];simp;omega
theorem skipN_no {c:UInt8} {l:Bytes} (h1:c≠10) (h2:c≠32) (h3:c≠9) (h4:([47,47]:Bytes).isPrefixOf (c::l)=false):skipN false (c::l)=0:=by
 unfold skipN
 simp only [show (c == 10)=false by simpa using h1,show (c == 32)=false by simpa using h2,show (c == 9)=false by simpa using h3,Bool.or_false]
 cases l with
 | nil=>rfl
 | cons d l=>
   simp only [List.isPrefixOf,Bool.and_true] at h4
   have:(c == 47 && d == 47)=false:=by
    rw [←h4]
    simp [Bool.beq_comm]
   simp [this]
theorem skipN_le:∀ (b:Bool) (l:Bytes),skipN b l<=l.length
 | b,[]=>by cases b <;> simp [skipN]
 | true,c::l=>by
   have:=skipN_le true l;have:=skipN_le false l
   simp only [skipN,List.length_cons];split <;> omega
 | false,c::l=>by
   have:=skipN_le true l;have:=skipN_le false l
   simp only [skipN,List.length_cons]
   split
   . omega
   . split
     . omega
     . split <;> simp only [List.length_cons] at * <;> omega
theorem lead_mem (p:UInt8->Bool):∀ (l:Bytes),∀ c∈l.take (lead p l),p c=true
 | [],c,h=>by simp at h
 | d::l,c,h=>by
   unfold lead at h
   split at h
   . rename_i hd
     rw [List.take_succ_cons] at h
     cases h with
     | head=>exact hd
     | tail _ h=>exact lead_mem p l c h
   . simp at h
end Go.Sx
namespace Go.Sx
set_option maxRecDepth 100000
def NoNL (l:Bytes) (k:Nat):Prop:=k<=l.length/\∀ c∈l.take k,c≠10
theorem NoNL.zero (l:Bytes):NoNL l 0:=⟨Nat.zero_le _,fun c h=>by simp at h⟩
theorem NoNL.cons {c:UInt8} {l:Bytes} {k:Nat} (h1:c≠10) (h:NoNL l k):NoNL (c::l) (k+1):=
 ⟨by simpa using h.1,fun d hd=>by
  rw [List.take_succ_cons] at hd
  cases hd with
  | head=>exact h1
  | tail _ hd=>exact h.2 d hd⟩
theorem NoNL.add {l:Bytes} {n k:Nat} (h:NoNL l n) (h2:NoNL (l.drop n) k):NoNL l (n+k):=by
 obtain ⟨a,b⟩:=h
 obtain ⟨c,d⟩:=h2
 refine ⟨by rw [List.length_drop] at c;omega,fun x hx=>?_⟩
 rw [List.take_add] at hx
 rw [List.mem_append] at hx
 rcases hx with hx | hx
 . exact b x hx
 . exact d x hx
theorem NoNL.add1 {l:Bytes} {n:Nat} {c:UInt8} (h:NoNL l n) (h2:(l.drop n).head?=some c) (hc:c≠10):NoNL l (n+1):=by
 refine h.add ?_
 cases hl:l.drop n with
 | nil=>rw [hl] at h2;simp at h2
 | cons d m=>
   rw [hl] at h2
   simp at h2;subst h2
   exact (NoNL.zero m).cons hc
theorem NoNL.lead {l:Bytes} (p:UInt8->Bool) (hp:p 10=false):NoNL l (lead p l):=
 ⟨Go.Proofs.L.lead_le p l,fun c hc e=>by have:=lead_mem p l c hc;rw [e,hp] at this;cases this⟩
theorem hex10:isHex 10=false:=rfl
theorem ne10 {p:UInt8->Bool} (hp:p 10=false) {c:UInt8} (h:(!p c)=false):c≠10:=fun e=>by subst e;rw [hp] at h;cases h
theorem escS_ne {c b:UInt8} (h:escS c=some b):c≠10:=fun e=>by subst e;cases h
theorem rng_ne {c:UInt8} (h:¬ (decide (c.toNat < 32) || decide (126 < c.toNat))=true):c≠10:=fun e=>by subst e;exact h rfl
theorem charS_nl (l:Bytes):(∀ e k,charS l= .error (e,k)->NoNL l k)/\∀ b n,charS l= .ok (b,n)->NoNL l n:=by
 have h92:(92:UInt8)≠10:=by decide
 have h120:(120:UInt8)≠10:=by decide
 unfold charS
 split
 . exact ⟨fun e k h=>by cases h;exact NoNL.zero _,fun b n h=>by cases h⟩
 . split
   . exact ⟨fun e k h=>by cases h;exact NoNL.zero _,fun b n h=>by cases h⟩
   . split
     . exact ⟨fun e k h=>by cases h;exact NoNL.zero _,fun b n h=>by cases h⟩
     . split
       . exact ⟨fun e k h=>by cases h;exact ((NoNL.zero _).cons h120).cons h92,fun b n h=>by cases h⟩
       . rename_i ha
         have ha:=ne10 hex10 (by simpa using ha)
         split
         . exact ⟨fun e k h=>by cases h;exact NoNL.zero _,fun b n h=>by cases h⟩
         . split
           . exact ⟨fun e k h=>by cases h;exact (((NoNL.zero _).cons ha).cons h120).cons h92,fun b n h=>by cases h⟩
           . rename_i hb
             have hb:=ne10 hex10 (by simpa using hb)
             exact ⟨(fun e k h=>by cases h),fun b n h=>by cases h;exact ((((NoNL.zero _).cons hb).cons ha).cons h120).cons h92⟩
   . split
     . rename_i hc
       have:=escS_ne hc
       exact ⟨(fun e k h=>by cases h),fun b n h=>by cases h;exact ((NoNL.zero _).cons this).cons h92⟩
     . exact ⟨fun e k h=>by cases h;exact (NoNL.zero _).cons h92,fun b n h=>by cases h⟩
 . split
   . exact ⟨fun e k h=>by cases h;exact NoNL.zero _,fun b n h=>by cases h⟩
   . rename_i hc
     have:=rng_ne hc
     exact ⟨(fun e k h=>by cases h),fun b n h=>by cases h;exact (NoNL.zero _).cons this⟩
theorem strS_nl:∀ (f:Nat) (l:Bytes),(∀ e k,strS f l= .error (e,k)->NoNL l k/\e≠0)/\∀ m n,strS f l= .ok (m,n)->NoNL l n/\(l.drop n).head?=some 34
 | 0,l=>⟨fun e k h=>by cases h;exact ⟨NoNL.zero _,by decide⟩,fun b n h=>by cases h⟩
 | f+1,[]=>⟨fun e k h=>by cases h;exact ⟨NoNL.zero _,by decide⟩,fun b n h=>by cases h⟩
 | f+1,c::l=>by
   have hch:=charS_nl (c::l)
   have hce:=Go.Proofs.L.charS_err (c::l)
   unfold strS
   split
   . rename_i h34
     have h34:c=34:=by simpa using h34
     subst h34
     exact ⟨(fun e k h=>by cases h),fun m n h=>by cases h;exact ⟨NoNL.zero _,rfl⟩⟩
   . split
     . exact ⟨fun e k h=>by cases h;exact ⟨NoNL.zero _,by decide⟩,fun b n h=>by cases h⟩
     . rename_i e k _ he
       exact ⟨fun e' k' h=>by cases h;exact ⟨hch.1 _ _ he,hce.1 _ _ he⟩,fun b n h=>by cases h⟩
     . rename_i b n hb
       have ih:=strS_nl f ((c::l).drop n)
       have hn:=hch.2 _ _ hb
       split
       . exact ⟨fun e k h=>by cases h;exact ⟨NoNL.zero _,by decide⟩,fun b n h=>by cases h⟩
       . rename_i e k _ he
         exact ⟨fun e' k' h=>by cases h;have:=ih.1 _ _ he;exact ⟨by rw [Nat.add_comm];exact hn.add this.1,this.2⟩,fun b n h=>by cases h⟩
       . rename_i m k he
         refine ⟨(fun e k h=>by cases h),fun m' n' h=>?_⟩
         cases h
         have:=ih.2 _ _ he
         refine ⟨by rw [Nat.add_comm];exact hn.add this.1,?_⟩
         rw [List.drop_drop,Nat.add_comm n k] at this
         exact this.2
theorem marks_nl:∀ m∈marks,(∀ c∈m,c≠10)/\words.contains m=false/\m≠[]:=by decide
theorem NoNL.mark {l:Bytes} {n:Nat} (h:marks.contains (l.take n)=true):NoNL l (l.take n).length/\(l.take n).length<=n/\words.contains (l.take n)=false/\1<=(l.take n).length:=by
 have hm:=marks_nl (l.take n) (by simpa using h)
 refine ⟨⟨by rw [List.length_take];omega,fun c hc=>hm.1 c ?_⟩,by rw [List.length_take];omega,hm.2.1,?_⟩
 . have:(l.take n).length<=n:=by rw [List.length_take];omega
   exact (List.take_subset_take_left (l:=l) this) hc
 . cases h2:l.take n with
   | nil=>exact absurd h2 hm.2.2
   | cons _ _=>simp
structure OneOk (l:Bytes) (kind len:Nat):Prop where
 kind0:kind≠0
 pos:1<=len
 nl:NoNL l len
 wf:kind=5->words.contains (l.take len)=false
theorem take_take_len (l:Bytes) (n:Nat):l.take (l.take n).length=l.take n:=by
 rw [List.length_take,List.take_eq_take_iff];omega
theorem oneS_nl (l:Bytes):(∀ e k,oneS l= .error (e,k)->NoNL l k/\e≠0)/\∀ kind n v b,oneS l= .ok (kind,n,v,b)->OneOk l kind n:=by
 cases l with
 | nil=>exact ⟨fun e k h=>by cases h;exact ⟨NoNL.zero _,by decide⟩,fun kind n v b h=>by cases h⟩
 | cons c r=>
   have al10:isAl 10=false:=rfl
   simp only [oneS]
   split
   . rename_i hc
     have hlead:1<=lead isAl (c::r):=by
      have:isAl c=true:=by simp [isAl,hc]
      simp [lead,this]
     split
     . exact ⟨fun e k h=>by cases h;exact ⟨NoNL.zero _,by decide⟩,fun kind n v b h=>by cases h⟩
     . split
       . exact ⟨(fun e k h=>by cases h),fun kind n v b h=>by cases h;exact ⟨by decide,hlead,NoNL.lead isAl al10,fun h=>absurd h (by decide)⟩⟩
       . exact ⟨(fun e k h=>by cases h),fun kind n v b h=>by cases h;exact ⟨by decide,hlead,NoNL.lead isAl al10,fun h=>absurd h (by decide)⟩⟩
   split
   . rename_i _ hc
     have hlead:1<=lead isAl (c::r):=by
      have:isAl c=true:=by simp [isAl,hc]
      simp [lead,this]
     split
     . rename_i e he
       exact ⟨fun e' k h=>by cases h;exact ⟨NoNL.zero _,Go.Proofs.L.numS_err _ _ he⟩,fun kind n v b h=>by cases h⟩
     . exact ⟨(fun e k h=>by cases h),fun kind n v b h=>by cases h;exact ⟨by decide,hlead,NoNL.lead isAl al10,fun h=>absurd h (by decide)⟩⟩
   split
   . rename_i _ _ hc
     have hc:c=39:=by simpa using hc
     subst hc
     have h39:(39:UInt8)≠10:=by decide
     have hch:=charS_nl r
     have hce:=Go.Proofs.L.charS_err r
     split
     . exact ⟨fun e k h=>by cases h;exact ⟨(NoNL.zero _).cons h39,by decide⟩,fun kind n v b h=>by cases h⟩
     . split
       . exact ⟨fun e k h=>by cases h;exact ⟨NoNL.zero _,by decide⟩,fun kind n v b h=>by cases h⟩
       . rename_i e k _ he
         exact ⟨fun e' k' h=>by cases h;exact ⟨(hch.1 _ _ he).cons h39,hce.1 _ _ he⟩,fun kind n v b h=>by cases h⟩
       . rename_i b n hb
         have hn:=hch.2 _ _ hb
         split
         . exact ⟨fun e k h=>by cases h;exact ⟨NoNL.zero _,by decide⟩,fun kind n v b h=>by cases h⟩
         . rename_i d m hd
           split
           . rename_i hd39
             have hd39:d=39:=by simpa using hd39
             subst hd39
             exact ⟨(fun e k h=>by cases h),fun kind n v b h=>by cases h;exact ⟨by decide,by omega,(hn.add1 (c:=39) (by rw [hd];rfl) h39).cons h39,fun h=>absurd h (by decide)⟩⟩
           . exact ⟨fun e k h=>by cases h;exact ⟨hn.cons h39,by decide⟩,fun kind n v b h=>by cases h⟩
   split
   . rename_i _ _ _ hc
     have hc:c=34:=by simpa using hc
     subst hc
     have h34:(34:UInt8)≠10:=by decide
     have hs:=strS_nl (r.length+1) r
     split
     . exact ⟨fun e k h=>by cases h;exact ⟨NoNL.zero _,by decide⟩,fun kind n v b h=>by cases h⟩
     . rename_i e k _ he
       have:=hs.1 _ _ he
       exact ⟨fun e' k' h=>by cases h;exact ⟨this.1.cons h34,this.2⟩,fun kind n v b h=>by cases h⟩
     . rename_i m k he
       have:=hs.2 _ _ he
       split
       . exact ⟨fun e k h=>by cases h;exact ⟨NoNL.zero _,by decide⟩,fun kind n v b h=>by cases h⟩
       . exact ⟨(fun e k h=>by cases h),fun kind n v b h=>by cases h;exact ⟨by decide,by omega,(this.1.add1 this.2 h34).cons h34,fun h=>absurd h (by decide)⟩⟩
   split
   . rename_i hm
     have:=NoNL.mark hm
     refine ⟨(fun e k h=>by cases h),fun kind n v b h=>?_⟩
     injection h with h;injection h with h1 h;injection h with h2 h
     subst h1;subst h2
     exact ⟨by decide,this.2.2.2,this.1,fun _=>by rw [take_take_len];exact this.2.2.1⟩
   split
   . rename_i hm
     have:=NoNL.mark hm
     have hl:((c::r).take 1).length=1:=by simp
     refine ⟨(fun e k h=>by cases h),fun kind n v b h=>?_⟩
     injection h with h;injection h with h1 h;injection h with h2 h
     subst h1;subst h2
     rw [hl] at this
     exact ⟨by decide,by omega,this.1,fun _=>this.2.2.1⟩
   . exact ⟨fun e k h=>by cases h;exact ⟨NoNL.zero _,by decide⟩,fun kind n v b h=>by cases h⟩
def Ended:List Tok->Prop
 | []=>False
 | t::ts=>(t.kind=0/\ts=[])∨(t.kind≠0/\Ended ts)
theorem scanL_ok:∀ (f k:Nat) (l:Bytes) (o:Nat),l.length < f->k<=4096->(∀ e,scanL f k l o= .error e->e.1≠0)/\∀ ts,scanL f k l o= .ok ts->Ended ts/\ts.length+k<=4097/\∀ t∈ts,t.kind=5->words.contains t.text=false
 | 0,_,_,_,h,_=>by omega
 | f+1,k,l,o,h,hk=>by
   simp only [scanL]
   split
   . refine ⟨(fun e h=>by cases h),fun ts h=>?_⟩
     cases h
     exact ⟨.inl ⟨rfl,rfl⟩,by simp only [List.length_cons,List.length_nil];omega,fun t ht h5=>by simp at ht;subst ht;cases h5⟩
   . rename_i c m hr
     split
     . exact ⟨fun e h=>by cases h;exact (by decide:(9:Nat)≠0),fun ts h=>by cases h⟩
     . have h1:=oneS_nl (l.drop (skipN false l))
       split
       . rename_i e i he
         exact ⟨fun e' h=>by cases h;exact (h1.1 _ _ he).2,fun ts h=>by cases h⟩
       . rename_i kind len v b he
         have h2:=h1.2 _ _ _ _ he
         have hlen:((l.drop (skipN false l)).drop len).length < f:=by
          have:=h2.nl.1
          have:=h2.pos
          simp only [List.length_drop] at *;omega
         have ih:=scanL_ok f (k+1) ((l.drop (skipN false l)).drop len) (o+skipN false l+len) hlen (by omega)
         split
         . rename_i e2 he2
           exact ⟨fun e' h=>by cases h;exact ih.1 _ he2,fun ts h=>by cases h⟩
         . rename_i ts2 he2
           refine ⟨(fun e h=>by cases h),fun ts h=>?_⟩
           cases h
           have:=ih.2 _ he2
           refine ⟨.inr ⟨h2.kind0,this.1⟩,by simp only [List.length_cons];omega,fun t ht h5=>?_⟩
           cases ht with
           | head=>exact h2.wf h5
           | tail _ ht=>exact this.2.2 t ht h5
theorem skipN_idem:∀ (b:Bool) (l:Bytes),skipN false (l.drop (skipN b l))=0
 | b,[]=>by cases b <;> rfl
 | true,c::l=>by
   by_cases h:c=10
   . subst h
     exact skipN_idem false l
   . have h1:(c == 10)=false:=by simpa using h
     have e1:skipN true (c::l)=skipN true l+1:=by rw [skipN,h1];rfl
     rw [e1,List.drop_succ_cons];exact skipN_idem true l
 | false,c::l=>by
   cases hb:(c == 10 || c == 32 || c == 9) with
   | true=>
     have e1:skipN false (c::l)=skipN false l+1:=by
      conv=>lhs;unfold skipN
      simp only [hb,if_true]
     rw [e1,List.drop_succ_cons];exact skipN_idem false l
   | false=>
     match l with
     | []=>
       have e1:skipN false [c]=0:=by rw [skipN,hb];rfl
       rw [e1];exact e1
     | d::m=>
       cases h2:(c == 47 && d == 47) with
       | true=>
         have e1:skipN false (c::d::m)=skipN true (d::m)+1:=by
          conv=>lhs;unfold skipN
          simp only [hb,h2,if_true,Bool.false_eq_true,if_false]
         rw [e1,List.drop_succ_cons];exact skipN_idem true (d::m)
       | false=>
         have e1:skipN false (c::d::m)=0:=by
          conv=>lhs;unfold skipN
          simp only [hb,h2,Bool.false_eq_true,if_false]
         rw [e1];exact e1
theorem scanL_skip (f k:Nat) (l:Bytes) (o:Nat):scanL (f+1) k l o=scanL (f+1) k (l.drop (skipN false l)) (o+skipN false l):=by
 simp only [scanL,skipN_idem,List.drop_zero,Nat.add_zero]
def scanR (f k:Nat) (l:Bytes) (o:Nat):Except (Nat×Nat) (List Tok):=
 match l with
 | []=> .ok [⟨0,[],0,[],o⟩]
 | _::_=>if k=4096 then .error (9,o) else match oneS l with
   | .error (e,i)=> .error (e,o+i)
   | .ok (kind,len,v,b)=>match scanL f (k+1) (l.drop len) (o+len) with
     | .error e=> .error e
     | .ok ts=> .ok (⟨kind,l.take len,v,b,o⟩::ts)
theorem scanL_at (f k:Nat) {l:Bytes} (o:Nat) (h:skipN false l=0):scanL (f+1) k l o=scanR f k l o:=by
 simp only [scanL,h,List.drop_zero,Nat.add_zero]
 unfold scanR
 cases l <;> rfl
end Go.Sx
namespace Go.Proofs.D
open Go Go.Den Go.Sx
theorem br_pos {c:Bool} {X Y:Prop} (h:c=true) (x:X):br c X Y:=by subst h;exact x
theorem br_neg {c:Bool} {X Y:Prop} (h:c=false) (y:Y):br c X Y:=by subst h;exact y
theorem put_same (h:PHeap) (b:Nat) (o:Obj):(h.put b o) b=some o:=if_pos rfl
theorem put_ne {h:PHeap} {k b:Nat} {o:Obj} (hk:k≠b):(h.put b o) k=h k:=if_neg hk
theorem put_put (h:PHeap) (b:Nat) (o o':Obj):(h.put b o).put b o'=h.put b o':=by
 funext k;simp only [PHeap.put];split <;> rfl
theorem cell_of {h:PHeap} {b:Nat} {l:List Value} {t:TypeId} {z:Nat×Nat} (hb:h b=some (.cells ⟨l⟩ t z)) (o:Nat):h.cell b o=l[o]? :=by
 simp [PHeap.cell,hb]
theorem row_get {h:PHeap} {b:Nat}:∀ {l:List Value} {o j:Nat} {v:Value},h.row b o l->l[j]? =some v->h.cell b (o+j)=some v
 | [],_,_,_,_,hj=>by simp at hj
 | [w],o,0,v,hr,hj=>by simp at hj;subst hj;exact hr
 | [w],o,j+1,v,hr,hj=>by simp at hj
 | w::x::l,o,0,v,hr,hj=>by simp at hj;subst hj;exact hr.1
 | w::x::l,o,j+1,v,hr,hj=>by
   have:=row_get (l:=x::l) (j:=j) hr.2 (by simpa using hj)
   rw [show o+(j+1)=o+1+j by omega];exact this
theorem row_lit {h:PHeap} {b:Nat} {l:List Value} {t:TypeId} {z:Nat×Nat} (hb:h b=some (.cells ⟨l⟩ t z)) {o:Nat} {vs:List Value} (hv:∀ j v,vs[j]? =some v->l[o+j]? =some v):h.row b o vs:=
 Go.Den.row_of vs o fun j v hj=>by rw [cell_of hb];exact hv j v hj
def Ext (h h':PHeap):Prop:=∀ k o,h k=some o->h' k=some o
def Away (p:Nat) (h h':PHeap):Prop:=∀ k o,k≠p->h k=some o->h' k=some o
def Chg (p:Nat) (h h':PHeap):Prop:=∀ k,k≠p->h' k=h k
theorem Ext.refl (h:PHeap):Ext h h:=fun _ _ x=>x
theorem Ext.trans {a b c:PHeap} (x:Ext a b) (y:Ext b c):Ext a c:=fun k o z=>y k o (x k o z)
theorem Ext.put {h:PHeap} {b:Nat} (hb:h b=none) (o:Obj):Ext h (h.put b o):=fun k o' hk=>by
 have:k≠b:=fun e=>by subst e;rw [hb] at hk;cases hk
 rw [put_ne this];exact hk
theorem Ext.dom {h h':PHeap} (x:Ext h h'):∀ k,h' k=none->h k=none:=fun k hk=>by
 cases e:h k with
 | none=>rfl
 | some o=>rw [x _ _ e] at hk;cases hk
theorem Away.refl (p:Nat) (h:PHeap):Away p h h:=fun _ _ _ x=>x
theorem Away.trans {p:Nat} {a b c:PHeap} (x:Away p a b) (y:Away p b c):Away p a c:=fun k o hk z=>y k o hk (x k o hk z)
theorem Ext.away {p:Nat} {a b:PHeap} (x:Ext a b):Away p a b:=fun k o _ z=>x k o z
theorem Chg.away {p:Nat} {a b:PHeap} (x:Chg p a b):Away p a b:=fun k o hk z=>by rw [x k hk];exact z
theorem Chg.refl (p:Nat) (h:PHeap):Chg p h h:=fun _ _=>rfl
theorem Chg.trans {p:Nat} {a b c:PHeap} (x:Chg p a b) (y:Chg p b c):Chg p a c:=fun k hk=>(y k hk).trans (x k hk)
theorem Chg.put (p:Nat) (h:PHeap) (o:Obj):Chg p h (h.put p o):=fun _ hk=>put_ne hk
theorem cell_ext {h h':PHeap} {b o:Nat} {v:Value} (x:∀ ob,h b=some ob->h' b=some ob) (hc:h.cell b o=some v):h'.cell b o=some v:=by
 unfold PHeap.cell at hc
 split at hc
 . rename_i c t z hb
   simp only [PHeap.cell,x _ hb];exact hc
 . cases hc
theorem row_ext {h h':PHeap} {b:Nat} (x:∀ ob,h b=some ob->h' b=some ob):∀ {l:List Value} {o:Nat},h.row b o l->h'.row b o l
 | [],_,_=>trivial
 | [v],o,hr=>cell_ext x hr
 | v::w::l,o,hr=>⟨cell_ext x hr.1,row_ext x (l:=w::l) hr.2⟩
def tokC (s:Bytes) (t:Tok):List Value:=[vI t.kind,vS t.text,vI t.value,vS t.bytes,vI (place s t.pos).1,vI (place s t.pos).2]
def TokRow (s:Bytes) (h:PHeap) (b:Nat):Nat->List Tok->Prop
 | _,[]=>True
 | o,t::ts=>h.row b o (tokC s t)/\TokRow s h b (o+6) ts
theorem TokRow.ext {s:Bytes} {h h':PHeap} {b:Nat} (x:∀ ob,h b=some ob->h' b=some ob):∀ {ts:List Tok} {o:Nat},TokRow s h b o ts->TokRow s h' b o ts
 | [],_,_=>trivial
 | _::_,_,hr=>⟨row_ext x hr.1,TokRow.ext x hr.2⟩
theorem _root_.Go.Sx.Ended.tail {ts:List Tok} (h:Ended ts) (hk:(hd ts).kind≠0):Ended ts.tail/\2<=ts.length/\ts=hd ts::ts.tail:=by
 match ts,h with
 | t::ts, .inl ⟨h,_⟩=>exact absurd h hk
 | t::ts, .inr ⟨_,h⟩=>
   refine ⟨h,?_,rfl⟩
   cases ts with
   | nil=>exact h.elim
   | cons _ _=>simp only [List.length_cons];omega
theorem _root_.Go.Sx.Ended.cons {ts:List Tok} (h:Ended ts):ts=hd ts::ts.tail:=by
 match ts,h with
 | t::ts,_=>rfl
def PB (sl:Value) (d:Int) (m:Nat) (l k e:Int):Obj:= .cells ⟨[sl,vI d,vM m,vI l,vI k,vI e]⟩ 81 (0,0)
def smap (p q:Nat):Array MapEntry:=#[
 ⟨vS [118,97,114],vF 36 [vP p 0] [],0⟩,
 ⟨vS [105,102],vF 37 [vP p 0] [],1⟩,
 ⟨vS [119,104,105,108,101],vF 38 [vP p 0] [],2⟩,
 ⟨vS [114,101,116,117,114,110],vF 39 [vP p 0] [],3⟩,
 ⟨vS [98,114,101,97,107],vF 40 [] [vP q 0],4⟩,
 ⟨vS [99,111,110,116,105,110,117,101],vF 42 [] [vP q 0],5⟩]
structure PK where
 tok:Nat
 map:Nat
 box:Nat
 clock:Nat
structure PK.In (K:PK) (h:PHeap) (p:Nat):Prop where
 tok:h K.tok≠none
 map:h K.map≠none
 box:h K.box≠none
 tokp:K.tok≠p
 mapp:K.map≠p
 boxp:K.box≠p
structure POk (K:PK) (s:Bytes) (h:PHeap) (p:Nat) (ts:List Tok) (d:Int):Prop where
 ex:∃ o c l k,h p=some (PB (vL (ad K.tok o) ts.length c) d K.map l k 0)/\TokRow s h K.tok o ts/\ts.length<=c/\h K.map=some (.map (smap p K.box) K.clock)/\h K.box=some (.cells ⟨[vP p 0]⟩ 78 (0,0))
 isin:K.In h p
 ended : Ended ts
 lo:(ts.length:Int) - 1000000<=d
 hi:d<=32
 len:ts.length<=100000
 wf:∀ t∈ts,t.kind=5->words.contains t.text=false
def PErr (K:PK) (s:Bytes) (h:PHeap) (p:Nat) (e:Nat×Nat):Prop:=
 e.1≠0/\K.In h p/\∃ a n c d m,h p=some (PB (vL a n c) d m (place s e.2).1 (place s e.2).2 e.1)
def PS {α:Type} (K:PK) (s:Bytes) (h:PHeap) (p:Nat):R α->Prop
 | .error e=>PErr K s h p e
 | .ok (_,ts,d)=>POk K s h p ts d
def Stay (D:Nat->Prop) (h h':PHeap):Prop:=∀ k o,D k->h k=some o->h' k=some o
theorem Stay.ne {D:Nat->Prop} {h h':PHeap} (x:Stay D h h') {k:Nat} (hk:D k) (hn:h k≠none):h' k≠none:=by
 cases e:h k with
 | none=>exact absurd e hn
 | some o=>rw [x k o hk e];exact fun e=>by cases e
def PK.blocks (K:PK) (p k:Nat):Prop:=k=p∨k=K.tok∨k=K.map∨k=K.box
theorem PK.In.stay {K:PK} {h h':PHeap} {p:Nat} (x:Stay (K.blocks p) h h') (hI:K.In h p):K.In h' p:=
 ⟨x.ne (.inr (.inl rfl)) hI.tok,x.ne (.inr (.inr (.inl rfl))) hI.map,x.ne (.inr (.inr (.inr rfl))) hI.box,hI.tokp,hI.mapp,hI.boxp⟩
theorem PS.stay {α:Type} {K:PK} {s:Bytes} {h h':PHeap} {p:Nat} {r:R α} (x:Stay (K.blocks p) h h') (hP:PS K s h p r):PS K s h' p r:=by
 match r,hP with
 | .error e,hP=>
   obtain ⟨h0,hI,a,n,c,d,m,h1⟩:=hP
   exact ⟨h0,hI.stay x,a,n,c,d,m,x _ _ (.inl rfl) h1⟩
 | .ok (_,ts,d),hP=>
   obtain ⟨⟨o,c,l,k,h1,h3,h4,h6,h8⟩,hI,e1,e2,e3,e4,e5⟩:=hP
   exact ⟨⟨o,c,l,k,x _ _ (.inl rfl) h1,h3.ext (fun ob=>x _ ob (.inr (.inl rfl))),h4,x _ _ (.inr (.inr (.inl rfl))) h6,x _ _ (.inr (.inr (.inr rfl))) h8⟩,hI.stay x,e1,e2,e3,e4,e5⟩
theorem PS.ext {α:Type} {K:PK} {s:Bytes} {h h':PHeap} {p:Nat} {r:R α} (x:Ext h h') (hP:PS K s h p r):PS K s h' p r:=hP.stay fun k o _=>x k o
theorem POk.ext {K:PK} {s:Bytes} {h h':PHeap} {p:Nat} {ts:List Tok} {d:Int} (x:Ext h h') (hP:POk K s h p ts d):POk K s h' p ts d:=PS.ext (r:=(.ok ((),ts,d):R Unit)) x hP
theorem PErr.ext {K:PK} {s:Bytes} {h h':PHeap} {p:Nat} {e:Nat×Nat} (x:Ext h h') (hP:PErr K s h p e):PErr K s h' p e:=PS.ext (r:=(.error e:R Unit)) x hP
theorem PS.isin {α:Type} {K:PK} {s:Bytes} {h:PHeap} {p:Nat} {r:R α} (hP:PS K s h p r):K.In h p:=by
 match r,hP with
 | .error e,hP=>exact hP.2.1
 | .ok (_,ts,d),hP=>exact POk.isin hP
def isKr {α:Type} (r:R α) (k:Nat):Bool:=
 match r with
 | .error _=>false
 | .ok (_,ts,_)=>isK ts k
def isTr {α:Type} (r:R α) (t:Bytes):Bool:=
 match r with
 | .error _=>false
 | .ok (_,ts,_)=>isT ts t
def failR {α β:Type} (r:R α) (e:Nat):R β:=
 match r with
 | .error x=> .error x
 | .ok (_,ts,_)=> .error (e,(hd ts).pos)
end Go.Proofs.D
namespace Go.Proofs.D
open Go Go.Den Go.Sx
set_option maxRecDepth 100000
attribute [local irreducible] IntKind.wrap
section
variable {α β : Type} {K : PK} {s : Bytes} {h : PHeap} {p : Nat} {r : R α} {ts : List Tok} {d : Int}
theorem PB_cell {sl:Value} {m:Nat} {l k e:Int} (hp:h p=some (PB sl d m l k e)) (o:Nat):h.cell p o=[sl,vI d,vM m,vI l,vI k,vI e][o]? :=cell_of hp o
theorem kind_beq (a b:Nat):((a:Int) == (b:Int))=(a == b):=by
 rw [Bool.eq_iff_iff];simp;omega
theorem POk.row {a o:Nat} (hT:TokRow s h a o ts) (he:Ended ts):h.row a o (tokC s (hd ts)):=by
 rw [he.cons] at hT;exact hT.1
theorem len_pos (he:Ended ts):(0:Int) < (ts.length:Nat):=by
 rw [he.cons];simp only [List.length_cons];omega
theorem err_ne {e:Nat×Nat} (h0:e.1≠0):((e.1:Int) == 0)=false:=by
 rw [show ((e.1:Int) == 0)=(e.1 == 0) from kind_beq e.1 0];simpa using h0
theorem PK.In.chg {h':PHeap} (x:Chg p h h') (hI:K.In h p):K.In h' p:=
 ⟨by rw [x _ hI.tokp];exact hI.tok,by rw [x _ hI.mapp];exact hI.map,by rw [x _ hI.boxp];exact hI.box,hI.tokp,hI.mapp,hI.boxp⟩
theorem isKind_tri (hP:PS K s h p r) (k:Nat):Tri Tryz.prog 43 [vP p 0,vI k] h fun v h'=>v=vB (isKr r k)/\h'=h:=by
 refine T43 ?_
 unfold R43
 match r,hP with
 | .error e,hP=>
   obtain ⟨h0,hI,a,n,c,d,m,hp⟩:=hP
   refine ⟨_,PB_cell hp 5,?_⟩
   exact br_neg (err_ne h0) ⟨rfl,rfl⟩
 | .ok (x,ts,d),hP=>
   obtain ⟨⟨o,c,l,k',hp,hT,hc,_⟩,hI,he,_⟩:=hP
   refine ⟨_,PB_cell hp 5,br_pos rfl ⟨_,_,_,PB_cell hp 0,K.tok,o,rfl,⟨Int.le_refl _,len_pos he⟩,_,(POk.row hT he).1,?_,rfl⟩⟩
   rw [kind_beq];rfl
theorem is_tri (hP:PS K s h p r) (t:Bytes):Tri Tryz.prog 44 [vP p 0,vS t] h fun v h'=>v=vB (isTr r t)/\h'=h:=by
 refine T44 ?_
 unfold R44
 refine Tri.mono (isKind_tri hP 4) ?_
 rintro _ h ⟨rfl,rfl⟩
 refine ⟨_,rfl,?_⟩
 match r,hP with
 | .error e,hP=>
   refine br_neg rfl ?_
   refine Tri.mono (isKind_tri (r:=(.error e:R α)) hP 5) ?_
   rintro _ h ⟨rfl,rfl⟩
   exact ⟨_,rfl,br_neg rfl ⟨rfl,rfl⟩⟩
 | .ok (x,ts,d),hP=>
   have hP':=hP
   obtain ⟨⟨o,c,l,k',hp,hT,hc,_⟩,hI,he,_⟩:=hP
   refine br_split (fun h1=>?_) (fun h1=>?_)
   . refine ⟨_,_,_,PB_cell hp 0,K.tok,o,rfl,⟨Int.le_refl _,len_pos he⟩,_,(POk.row hT he).2.1,?_,rfl⟩
     simp only [isKr,isK] at h1
     simp [isTr,isT,h1]
   . refine Tri.mono (isKind_tri (r:=(.ok (x,ts,d):R α)) hP' 5) ?_
     rintro _ h ⟨rfl,rfl⟩
     refine ⟨_,rfl,?_⟩
     simp only [isKr,isK] at h1
     refine br_split (fun h2=>?_) (fun h2=>?_)
     . refine ⟨_,_,_,PB_cell hp 0,K.tok,o,rfl,⟨Int.le_refl _,len_pos he⟩,_,(POk.row hT he).2.1,?_,rfl⟩
       simp only [isKr,isK] at h2
       simp [isTr,isT,h1,h2]
     . simp only [isKr,isK] at h2
       refine ⟨?_,rfl⟩
       simp [isTr,isT,h1,h2]
theorem fail_tri (hP:PS K s h p r) (e:Nat) (h0:e≠0):Tri Tryz.prog 47 [vP p 0,vI e] h fun v h'=>v=vT []/\Chg p h h'/\PS K s h' p (failR r e:R β):=by
 refine T47 ?_
 unfold R47
 match r,hP with
 | .error x,hP=>
   have hP':=hP
   obtain ⟨h1,hI,a,n,c,d,m,hp⟩:=hP
   refine ⟨_,PB_cell hp 5,?_⟩
   exact br_neg (err_ne h1) ⟨rfl,Chg.refl _ _,hP'⟩
 | .ok (x,ts,d),hP=>
   obtain ⟨⟨o,c,l,k',hp,hT,hc,_⟩,hI,he,_⟩:=hP
   have hr:=POk.row hT he
   refine ⟨_,PB_cell hp 5,br_pos rfl ⟨_,_,_,PB_cell hp 0,K.tok,o,rfl,⟨Int.le_refl _,len_pos he⟩,_,hr.2.2.2.2.1,_,_,_,PB_cell hp 0,K.tok,o,rfl,⟨Int.le_refl _,len_pos he⟩,_,hr.2.2.2.2.2,_,_,_,hp,⟨by simp,Nat.zero_le _⟩,?_⟩⟩
   rintro h1 rfl
   refine ⟨_,_,_,put_same _ _ _,⟨by simp [splice],Nat.zero_le _⟩,?_⟩
   rintro h1 rfl
   refine ⟨_,_,_,put_same _ _ _,⟨by simp [splice],Nat.zero_le _⟩,?_⟩
   rintro h1 rfl
   rw [put_put,put_put]
   refine ⟨rfl,Chg.put _ _ _,h0,hI.chg (Chg.put _ _ _),ad K.tok o,ts.length,c,d,K.map,?_⟩
   rw [put_same];rfl
theorem SlA_get {a o c:Nat} {a1:Option Addr} (hs:SlA (ad a o) a1 1 c 6) (hc:2<=c):a1=ad a (o+6):=by
 obtain ⟨o',h1,h2⟩:=hs.1 a o rfl
 rw [h1,h2 (.inl (by omega))]
theorem advance_tri (hP:POk K s h p ts d) (hk:(hd ts).kind≠0):Tri Tryz.prog 139 [vP p 0] h fun v h'=>v=vA (tokC s (hd ts))/\Chg p h h'/\POk K s h' p ts.tail d:=by
 refine T139 ?_
 unfold R139
 obtain ⟨⟨o,c,l,k',hp,hT,hc,hM,hq'⟩,hI,he,hlo,hhi,hl,hwf⟩:=hP
 have hr:=POk.row hT he
 obtain ⟨he',h2,hcons⟩:=he.tail hk
 refine ⟨_,_,_,PB_cell hp 0,K.tok,o,rfl,⟨Int.le_refl _,len_pos he⟩,_,_,_,_,_,_,hr,_,_,_,PB_cell hp 0,⟨.inl ⟨K.tok,o,rfl⟩,by decide,by omega,by omega⟩,?_⟩
 intro a1 hs
 have ha1:=SlA_get hs (by omega)
 subst ha1
 refine ⟨_,_,_,hp,⟨by simp,Nat.zero_le _⟩,?_⟩
 rintro h1 rfl
 have hlen:ts.tail.length=ts.length - 1:=List.length_tail
 refine ⟨rfl,Chg.put _ _ _,⟨o+6,c - 1,l,k',?_,?_,by omega,?_,?_⟩,hI.chg (Chg.put _ _ _),he',by omega,hhi,by omega,fun t ht=>hwf t (List.mem_of_mem_tail ht)⟩
 . rw [put_same,hlen];rfl
 . rw [hcons] at hT
   exact hT.2.ext fun ob hob=>by rw [put_ne hI.tokp];exact hob
 . rw [put_ne hI.mapp];exact hM
 . rw [put_ne hI.boxp];exact hq'
def accR (r:R α) (t:Bytes):R Unit:=
 match r with
 | .error e=> .error e
 | .ok (_,ts,d)=>if isT ts t then takeT t ts d else .ok ((),ts,d)
def accB (r:R α) (t:Bytes):Bool:=
 match r with
 | .error _=>false
 | .ok (_,ts,d)=>isT ts t && !(opens t && d == 32)
theorem isT_kind {t:Bytes} (hi:isT ts t=true):(hd ts).kind≠0:=by
 unfold isT at hi
 intro e
 rw [e] at hi;simp at hi
theorem POk.depth (hP:POk K s h p ts d) (d':Int) (h1:(ts.length:Int) - 1 - 1000000<=d') (h2:d'<=32) (hk:(hd ts).kind≠0) {l:List Value} {t:TypeId} {z:Nat×Nat} (hl:h p=some (.cells ⟨l⟩ t z)):
 Tri Tryz.prog 139 [vP p 0] (h.put p (.cells ⟨splice l 1 [vI d']⟩ t z)) fun v h'=>(∃ k tx vl b ln cl,v=vA [vI k,vS tx,vI vl,vS b,vI ln,vI cl])/\Chg p h h'/\POk K s h' p ts.tail d':=by
 obtain ⟨⟨o,c,l',k',hp,hT,hc,hM,hq'⟩,hI,he,hlo,hhi,hl2,hwf⟩:=hP
 rw [hp] at hl
 cases hl
 refine T139 ?_
 unfold R139
 have hg:∀ k,k≠p->(h.put p (.cells ⟨splice [vL (ad K.tok o) ts.length c,vI d,vM K.map,vI l',vI k',vI 0] 1 [vI d']⟩ 81 (0,0))) k=h k:=fun k hk=>put_ne hk
 have hp2:(h.put p (.cells ⟨splice [vL (ad K.tok o) ts.length c,vI d,vM K.map,vI l',vI k',vI 0] 1 [vI d']⟩ 81 (0,0))) p=some (PB (vL (ad K.tok o) ts.length c) d' K.map l' k' 0):=put_same _ _ _
 generalize h.put p (.cells ⟨splice [vL (ad K.tok o) ts.length c,vI d,vM K.map,vI l',vI k',vI 0] 1 [vI d']⟩ 81 (0,0))=g at *
 have hT2:TokRow s g K.tok o ts:=hT.ext fun ob hob=>by rw [hg K.tok hI.tokp];exact hob
 have hr:=POk.row hT2 he
 obtain ⟨he',h2',hcons⟩:=he.tail hk
 refine ⟨_,_,_,PB_cell hp2 0,K.tok,o,rfl,⟨Int.le_refl _,len_pos he⟩,_,_,_,_,_,_,hr,_,_,_,PB_cell hp2 0,⟨.inl ⟨K.tok,o,rfl⟩,by decide,by omega,by omega⟩,?_⟩
 intro a1 hs
 have ha1:=SlA_get hs (by omega)
 subst ha1
 refine ⟨_,_,_,hp2,⟨by simp,Nat.zero_le _⟩,?_⟩
 rintro h1 rfl
 have hlen:ts.tail.length=ts.length - 1:=List.length_tail
 refine ⟨⟨_,_,_,_,_,_,rfl⟩,fun k hk=>by rw [put_ne hk,hg k hk],⟨o+6,c - 1,l',k',?_,?_,by omega,?_,?_⟩,hI.chg (fun k hk=>by rw [put_ne hk,hg k hk]),he',by omega,h2,by omega,fun t ht=>hwf t (List.mem_of_mem_tail ht)⟩
 . rw [put_same,hlen];rfl
 . rw [hcons] at hT2
   exact hT2.2.ext fun ob hob=>by rw [put_ne hI.tokp];exact hob
 . rw [put_ne hI.mapp,hg K.map hI.mapp];exact hM
 . rw [put_ne hI.boxp,hg K.box hI.boxp];exact hq'
theorem wrap64 {n:Int} (h1: -9223372036854775808<=n) (h2:n<=9223372036854775807):IntKind.i64.wrap n=n:=Go.Proofs.L.wrap64 h1 h2
theorem accept_tri (hP:PS K s h p r) (t:Bytes):Tri Tryz.prog 90 [vP p 0,vS t] h fun v h'=>v=vB (accB r t)/\Chg p h h'/\PS K s h' p (accR r t):=by
 refine T90 ?_
 unfold R90
 refine Tri.mono (is_tri hP t) ?_
 rintro _ h ⟨rfl,rfl⟩
 refine ⟨_,rfl,?_⟩
 match r,hP with
 | .error e,hP=>exact br_pos rfl ⟨rfl,Chg.refl _ _,hP⟩
 | .ok (x,ts,d),hP=>
   refine br_split (fun h1=>?_) (fun h1=>?_)
   . have h1:isT ts t=false:=by simpa [isTr] using h1
     refine ⟨?_,Chg.refl _ _,?_⟩
     . simp [accB,h1]
     . simp only [accR,h1];exact hP
   have h1:isT ts t=true:=by simpa [isTr] using h1
   have hk:=isT_kind h1
   have hP':POk K s h p ts d:=hP
   have hP2:=hP'
   obtain ⟨⟨o,c,l',k',hp,hT,hc,hM,hq'⟩,hI,he,hlo,hhi,hl2,hwf⟩:=hP2
   have hlen:=len_pos he
   have key:∀ {d':Int} {t':Bytes},((ts.length:Int) - 1 - 1000000<=d')->d'<=32->accB (.ok (x,ts,d):R α) t'=true->accR (.ok (x,ts,d):R α) t'= .ok ((),ts.tail,d')->
    Tri Tryz.prog 139 [vP p 0] (h.put p (.cells ⟨splice [vL (ad K.tok o) ts.length c,vI d,vM K.map,vI l',vI k',vI 0] 1 [vI d']⟩ 81 (0,0))) fun v h'=>∃ k tx vl b ln cl,v=vA [vI k,vS tx,vI vl,vS b,vI ln,vI cl]/\vB true=vB (accB (.ok (x,ts,d):R α) t')/\Chg p h h'/\PS K s h' p (accR (.ok (x,ts,d):R α) t'):=by
    intro d' t' g1 g2 g3 g4
    refine Tri.mono (hP'.depth d' g1 g2 hk hp) ?_
    rintro v h' ⟨⟨k,tx,vl,b,ln,cl,rfl⟩,hc,hok⟩
    exact ⟨k,tx,vl,b,ln,cl,rfl,by rw [g3],hc,by rw [g4];exact hok⟩
   have opn:∀ {t':Bytes},isT ts t'=true->opens t'=true->closes t'=false->
    (∃ i1,h.cell p 1=some (vI i1)/\br (i1 == 32) (Tri Tryz.prog 47 [vP p 0,vI 9] h fun v_2 h_2=>v_2=vT []/\vB false=vB (accB (.ok (x,ts,d):R α) t')/\Chg p h h_2/\PS K s h_2 p (accR (.ok (x,ts,d):R α) t'))
     (∃ i2,h.cell p 1=some (vI i2)/\∃ l1 t1 z1,h p=some (.cells ⟨l1⟩ t1 z1)/\(0+1+1<=l1.length/\z1.2<=0+1)/\∀ h_3,h_3=h.put p (.cells ⟨splice l1 (0+1) [vI (IntKind.i64.wrap (i2+1))]⟩ t1 z1)->
      Tri Tryz.prog 139 [vP p 0] h_3 fun v h'=>∃ k tx vl b ln cl,v=vA [vI k,vS tx,vI vl,vS b,vI ln,vI cl]/\vB true=vB (accB (.ok (x,ts,d):R α) t')/\Chg p h h'/\PS K s h' p (accR (.ok (x,ts,d):R α) t'))):=by
    intro t' g1 g2 g3
    refine ⟨d,PB_cell hp 1,?_⟩
    refine br_split (fun e=>?_) (fun e=>?_)
    . have e:d=32:=by simpa using e
      refine Tri.mono (fail_tri (β:=Unit) (r:=(.ok (x,ts,d):R α)) hP' 9 (by decide)) ?_
      rintro v h' ⟨rfl,hc,hf⟩
      refine ⟨rfl,?_,hc,?_⟩
      . simp [accB,g1,g2,e]
      . simp only [accR,g1,takeT,g2,e,failR] at hf ⊢;exact hf
    . have e:d≠32:=by simpa using e
      refine ⟨d,PB_cell hp 1,_,_,_,hp,⟨by simp,Nat.zero_le _⟩,?_⟩
      rintro h3 rfl
      rw [wrap64 (by omega) (by omega)]
      refine key (by omega) (by omega) ?_ ?_
      . simp [accB,g1,g2,e]
      . simp [accR,g1,takeT,g2,e]
   have cls:∀ {t':Bytes},isT ts t'=true->opens t'=false->closes t'=true->
    (∃ i2,h.cell p 1=some (vI i2)/\∃ l1 t1 z1,h p=some (.cells ⟨l1⟩ t1 z1)/\(0+1+1<=l1.length/\z1.2<=0+1)/\∀ h_3,h_3=h.put p (.cells ⟨splice l1 (0+1) [vI (IntKind.i64.wrap (i2 - 1))]⟩ t1 z1)->
     Tri Tryz.prog 139 [vP p 0] h_3 fun v h'=>∃ k tx vl b ln cl,v=vA [vI k,vS tx,vI vl,vS b,vI ln,vI cl]/\vB true=vB (accB (.ok (x,ts,d):R α) t')/\Chg p h h'/\PS K s h' p (accR (.ok (x,ts,d):R α) t')):=by
    intro t' g1 g2 g3
    refine ⟨d,PB_cell hp 1,_,_,_,hp,⟨by simp,Nat.zero_le _⟩,?_⟩
    rintro h3 rfl
    rw [wrap64 (by omega) (by omega)]
    refine key (by omega) (by omega) ?_ ?_
    . simp [accB,g1,g2]
    . simp [accR,g1,takeT,g2,g3]
   refine br_split (fun e=>?_) (fun e1=>?_)
   . have e:t=[40]:=by simpa using e
     subst e;exact opn h1 rfl rfl
   refine br_split (fun e=>?_) (fun e2=>?_)
   . have e:t=[91]:=by simpa using e
     subst e;exact opn h1 rfl rfl
   refine br_split (fun e=>?_) (fun e3=>?_)
   . have e:t=[123]:=by simpa using e
     subst e;exact opn h1 rfl rfl
   refine br_split (fun e=>?_) (fun e4=>?_)
   . have e:t=[41]:=by simpa using e
     subst e;exact cls h1 rfl rfl
   refine br_split (fun e=>?_) (fun e5=>?_)
   . have e:t=[93]:=by simpa using e
     subst e;exact cls h1 rfl rfl
   refine br_split (fun e=>?_) (fun e6=>?_)
   . have e:t=[125]:=by simpa using e
     subst e;exact cls h1 rfl rfl
   refine Tri.mono (advance_tri hP' hk) ?_
   rintro v h' ⟨rfl,hc,hok⟩
   have g2:opens t=false:=by simp only [opens,e1,e2,e3];rfl
   have g3:closes t=false:=by simp only [closes,e4,e5,e6];rfl
   refine ⟨_,_,_,_,_,_,rfl,?_,hc,?_⟩
   . simp [accB,h1,g2]
   . simp only [accR,h1,takeT,g2,g3];exact hok
theorem take_eq (r:R α) (t:Bytes):(accB r t=true->bindR r (fun _ ts d=>takeT t ts d)=accR r t)/\(accB r t=false->bindR r (fun _ ts d=>takeT t ts d)=failR (accR r t) 30):=by
 match r with
 | .error e=>exact ⟨(fun h=>by cases h),fun _=>rfl⟩
 | .ok (x,ts,d)=>
   simp only [accB,accR,bindR]
   cases h1:isT ts t
   . refine ⟨fun h=>by simp at h,fun _=>?_⟩
     simp [takeT,h1,failR]
   . refine ⟨fun _=>by simp,fun h=>?_⟩
     simp at h
     simp [takeT,h1,h,failR]
theorem take_tri (hP:PS K s h p r) (t:Bytes):Tri Tryz.prog 92 [vP p 0,vS t] h fun v h'=>v=vT []/\Chg p h h'/\PS K s h' p (bindR r fun _ ts d=>takeT t ts d):=by
 refine T92 ?_
 unfold R92
 refine Tri.mono (accept_tri hP t) ?_
 rintro _ h1 ⟨rfl,hc,hA⟩
 refine ⟨_,rfl,?_⟩
 refine br_split (fun e=>?_) (fun e=>?_)
 . refine Tri.mono (fail_tri (β:=Unit) hA 30 (by decide)) ?_
   rintro _ h2 ⟨rfl,hc2,hf⟩
   refine ⟨rfl,rfl,hc.trans hc2,?_⟩
   rw [(take_eq r t).2 (by simpa using e)];exact hf
 . refine ⟨rfl,hc,?_⟩
   rw [(take_eq r t).1 (by simpa using e)];exact hA
structure TC where
 kind:Int
 text:List UInt8
 value:Int
 bytes:List UInt8
 line:Int
 column:Int
def TC.l (t:TC):List Value:=[vI t.kind,vS t.text,vI t.value,vS t.bytes,vI t.line,vI t.column]
def TC.of (s:Bytes) (t:Tok):TC:=⟨t.kind,t.text,t.value,t.bytes,(place s t.pos).1,(place s t.pos).2⟩
def PX (K:PK) (s:Bytes) (h:PHeap) (p:Nat) (r:R α) (rel:α->Prop):Prop:=
 match r with
 | .error e=>PErr K s h p e
 | .ok (x,ts,d)=>POk K s h p ts d/\rel x
theorem PX.ps {rel:α->Prop} (hx:PX K s h p r rel):PS K s h p r:=by
 match r,hx with
 | .error e,hx=>exact hx
 | .ok (x,ts,d),hx=>exact hx.1
theorem PX.mono {rel rel':α->Prop} (hx:PX K s h p r rel) (hr:∀ x,rel x->rel' x):PX K s h p r rel':=by
 match r,hx with
 | .error e,hx=>exact hx
 | .ok (x,ts,d),hx=>exact ⟨hx.1,hr _ hx.2⟩
theorem takeKind_tri (hP:PS K s h p r) (k:Nat) (hk0:k≠0):Tri Tryz.prog 89 [vP p 0,vI k] h fun v h'=>∃ t:TC,v=vA t.l/\Chg p h h'/\PX K s h' p (bindR r fun _ ts d=>takeK k ts d) fun x=>t=TC.of s x:=by
 refine T89 ?_
 unfold R89
 refine Tri.mono (isKind_tri hP k) ?_
 rintro _ h ⟨rfl,rfl⟩
 refine ⟨_,rfl,?_⟩
 match r,hP with
 | .error e,hP=>
   refine br_pos rfl ?_
   refine Tri.mono (fail_tri (β:=Unit) (r:=(.error e:R α)) hP 30 (by decide)) ?_
   rintro _ h2 ⟨rfl,hc2,hf⟩
   exact ⟨rfl,⟨0,[],0,[],0,0⟩,rfl,hc2,hf⟩
 | .ok (x,ts,d),hP=>
   refine br_split (fun e=>?_) (fun e=>?_)
   . have e:isK ts k=false:=by simpa [isKr] using e
     refine Tri.mono (fail_tri (β:=Unit) (r:=(.ok (x,ts,d):R α)) hP 30 (by decide)) ?_
     rintro _ h2 ⟨rfl,hc2,hf⟩
     refine ⟨rfl,⟨0,[],0,[],0,0⟩,rfl,hc2,?_⟩
     simp only [bindR,takeK,e];exact hf
   . have e:isK ts k=true:=by simpa [isKr] using e
     have hk:(hd ts).kind≠0:=by
      simp [isK] at e;omega
     refine Tri.mono (advance_tri hP hk) ?_
     rintro _ h2 ⟨rfl,hc2,hf⟩
     refine ⟨_,_,_,_,_,_,rfl,TC.of s (hd ts),rfl,hc2,?_⟩
     simp only [bindR,takeK,e];exact ⟨hf,rfl⟩
structure SC where
 kind:Int
 name:List UInt8
 aa:Option Addr
 an:Nat
 ac:Nat
 ba:Option Addr
 bn:Nat
 bc:Nat
 ea:Option Addr
 en:Nat
 ec:Nat
 line:Int
 column:Int
def SC.l (c:SC):List Value:=[vI c.kind,vS c.name,vL c.aa c.an c.ac,vL c.ba c.bn c.bc,vL c.ea c.en c.ec,vI c.line,vI c.column]
theorem begin_tri (hP:POk K s h p ts d) (hk:(hd ts).kind≠0) (k:Int):Tri Tryz.prog 88 [vP p 0,vI k] h fun v h'=>v=vA (SC.l ⟨k,[],none,0,0,none,0,0,none,0,0,(place s (hd ts).pos).1,(place s (hd ts).pos).2⟩)/\Chg p h h'/\POk K s h' p ts.tail d:=by
 refine T88 ?_
 unfold R88
 refine Tri.mono (advance_tri hP hk) ?_
 rintro _ h2 ⟨rfl,hc2,hf⟩
 exact ⟨_,_,_,_,_,_,rfl,rfl,hc2,hf⟩
end
end Go.Proofs.D
namespace Go.Proofs.D
open Go Go.Den Go.Sx
set_option maxRecDepth 100000
open Classical in
noncomputable def only (D:Nat->Prop) (h:PHeap):PHeap:=fun k=>if D k then h k else none
def New (h0:PHeap) (k:Nat):Prop:=h0 k=none
theorem only_some {D:Nat->Prop} {h:PHeap} {k:Nat} {o:Obj}:only D h k=some o↔D k/\h k=some o:=by
 unfold only;split
 . rename_i hd;exact ⟨fun x=>⟨hd,x⟩,fun x=>x.2⟩
 . rename_i hd;exact ⟨(fun x=>by cases x),fun x=>absurd x.1 hd⟩
theorem only_ext {D D':Nat->Prop} {h h':PHeap} (x:∀ k o,D k->h k=some o->D' k/\h' k=some o):Ext (only D h) (only D' h'):=fun k o hk=>by
 rw [only_some] at hk ⊢;exact x k o hk.1 hk.2
theorem only_sub {D:Nat->Prop} {h:PHeap}:Ext (only D h) h:=fun k o hk=>(only_some.1 hk).2
theorem only_away {p:Nat} {h0 h h':PHeap} (hp:h0 p≠none) (x:Away p h h'):Ext (only (New h0) h) (only (New h0) h'):=
 only_ext fun k o hn hk=>⟨hn,x k o (fun e=>by subst e;exact hp hn) hk⟩
theorem only_new {h0 h1 h:PHeap} (x:∀ k,h1 k=none->h0 k=none):Ext (only (New h1) h) (only (New h0) h):=
 only_ext fun k o hn hk=>⟨x k hn,hk⟩
theorem PS.mem {α:Type} {K:PK} {s:Bytes} {h:PHeap} {p:Nat} {r:R α} (hP:PS K s h p r):h p≠none:=by
 match r,hP with
 | .error e,⟨_,_,_,_,_,_,_,hp⟩=>rw [hp];exact fun e=>by cases e
 | .ok (x,ts,d),⟨⟨_,_,_,_,hp,_⟩,_,_,_,_,_,_⟩=>rw [hp];exact fun e=>by cases e
theorem Away.dom {p:Nat} {h h':PHeap} (x:Away p h h') (hp:h' p≠none):∀ k,h' k=none->h k=none:=fun k hk=>by
 cases e:h k with
 | none=>rfl
 | some o=>
   have:k≠p:=fun e=>by subst e;exact hp hk
   rw [x k o this e] at hk;cases hk
mutual
def RE (pl:Nat->List Value) (w:Nat) (h:PHeap):E->List Value->Prop
 | .mk k op nm v t args pos,cs=>∃ a c,cs=[vI k,vS op,vS nm,vI v,vS t,vL a args.length c]++pl pos/\(args=[]∨∃ b o,a=ad b o/\REs pl w h b o args)
def REs (pl:Nat->List Value) (w:Nat) (h:PHeap) (b:Nat):Nat->List E->Prop
 | _,[]=>True
 | o,e::es=>(∃ cs,h.row b o cs/\RE pl w h e cs)/\REs pl w h b (o+w) es
end
mutual
theorem RE.ext {pl:Nat->List Value} {w:Nat} {h h':PHeap} (x:Ext h h'):∀ {e:E} {cs:List Value},RE pl w h e cs->RE pl w h' e cs
 | .mk k op nm v t args pos,cs,hr=>by
   obtain ⟨a,c,h1,h2⟩:=hr
   refine ⟨a,c,h1,?_⟩
   rcases h2 with h2 | ⟨b,o,h2,h3⟩
   . exact .inl h2
   . exact .inr ⟨b,o,h2,REs.ext x h3⟩
theorem REs.ext {pl:Nat->List Value} {w:Nat} {h h':PHeap} (x:Ext h h') {b:Nat}:∀ {es:List E} {o:Nat},REs pl w h b o es->REs pl w h' b o es
 | [],_,_=>trivial
 | e::es,o,hr=>by
   obtain ⟨⟨cs,h1,h2⟩,h3⟩:=hr
   exact ⟨⟨cs,row_ext (fun ob=>x b ob) h1,RE.ext x h2⟩,REs.ext x h3⟩
end
def plP (s:Bytes) (n:Nat):List Value:=[vI (place s n).1,vI (place s n).2]
structure EC where
 kind:Int
 op:List UInt8
 name:List UInt8
 value:Int
 text:List UInt8
 aa:Option Addr
 an:Nat
 ac:Nat
 line:Int
 column:Int
def EC.l (c:EC):List Value:=[vI c.kind,vS c.op,vS c.name,vI c.value,vS c.text,vL c.aa c.an c.ac,vI c.line,vI c.column]
def PE (K:PK) (s:Bytes) (p:Nat) (h:PHeap) (r:R E) (v:Value) (h':PHeap):Prop:=
 ∃ c:EC,v=vA c.l/\Away p h h'/\PX K s h' p r fun e=>RE (plP s) 8 (only (New h) h') e c.l
def NF {α:Type} (r:R α):Prop:=r≠ .error (0,0)
theorem bindR_ok {α β:Type} (x:α) (ts:List Tok) (d:Int) (f:α->List Tok->Int->R β):bindR (.ok (x,ts,d)) f=f x ts d:=rfl
theorem bindR_err {α β:Type} (e:Nat×Nat) (f:α->List Tok->Int->R β):bindR (.error e:R α) f= .error e:=rfl
theorem bindR_bind {α β γ:Type} (r:R α) (f:α->List Tok->Int->R β) (g:β->List Tok->Int->R γ):bindR (bindR r f) g=bindR r fun x ts d=>bindR (f x ts d) g:=by
 match r with
 | .error e=>rfl
 | .ok (x,ts,d)=>rfl
theorem NF.bind {α β:Type} {r:R α} {f:α->List Tok->Int->R β} (h:NF (bindR r f)):NF r:=fun e=>h (by rw [e];rfl)
theorem PX.ext {α:Type} {K:PK} {s:Bytes} {h h':PHeap} {p:Nat} {r:R α} {rel rel':α->Prop} (x:Ext h h') (hx:PX K s h p r rel) (hr:∀ y,rel y->rel' y):PX K s h' p r rel':=by
 match r,hx with
 | .error e,hx=>exact PErr.ext x hx
 | .ok (y,ts,d),hx=>exact ⟨hx.1.ext x,hr _ hx.2⟩
theorem PX.of {α:Type} {K:PK} {s:Bytes} {h:PHeap} {p:Nat} {r:R α} {rel:α->Prop} (hx:PS K s h p r) (hr:∀ y ts d,r= .ok (y,ts,d)->rel y):PX K s h p r rel:=by
 match r,hx with
 | .error e,hx=>exact hx
 | .ok (y,ts,d),hx=>exact ⟨hx,hr _ _ _ rfl⟩
def okR {α:Type} (r:R α):Bool:=
 match r with
 | .error _=>false
 | .ok _=>true
theorem PS.err {α:Type} {K:PK} {s:Bytes} {h:PHeap} {p:Nat} {r:R α} (hP:PS K s h p r):∃ i:Int,h.cell p 5=some (vI i)/\(i == 0)=okR r:=by
 match r,hP with
 | .error e,⟨h0,_,_,_,_,_,_,hp⟩=>exact ⟨_,PB_cell hp 5,err_ne h0⟩
 | .ok (x,ts,d),⟨⟨_,_,_,_,hp,_⟩,_,_,_,_,_,_⟩=>exact ⟨_,PB_cell hp 5,rfl⟩
theorem okR_true {α:Type} {r:R α} (e:okR r=true):∃ x ts d,r= .ok (x,ts,d):=by
 match r,e with
 | .error x,e=>cases e
 | .ok (x,ts,d),e=>exact ⟨x,ts,d,rfl⟩
theorem okR_false {α:Type} {r:R α} (e:okR r=false):∃ x,r= .error x:=by
 match r,e with
 | .error x,e=>exact ⟨x,rfl⟩
 | .ok x,e=>cases e
end Go.Proofs.D
namespace Go.Proofs.D
open Go Go.Den Go.Sx
section
variable {α β γ : Type} {K : PK} {s : Bytes} {h h' : PHeap} {p : Nat}
def thenR (r:R α) (g:List Tok->Int->R β):R α:=bindR r fun x ts d=>bindR (g ts d) fun _ ts d=> .ok (x,ts,d)
def pairR (r:R α) (g:List Tok->Int->R β):R (α×β):=bindR r fun x ts d=>bindR (g ts d) fun y ts d=> .ok ((x,y),ts,d)
def mapR (k:α->β) (r:R α):R β:=bindR r fun x ts d=> .ok (k x,ts,d)
theorem PX.then {r:R α} {g:List Tok->Int->R β} {rel rel':α->Prop} (hx:PX K s h p r rel) (hP:PS K s h' p (bindR r fun _ ts d=>g ts d)) (hr:∀ x,rel x->rel' x):PX K s h' p (thenR r g) rel':=by
 match r,hx,hP with
 | .error e,hx,hP=>exact hP
 | .ok (x,ts,d),hx,hP=>
   simp only [thenR,bindR_ok] at hP ⊢
   generalize g ts d=r2 at *
   match r2,hP with
   | .error e,hP=>exact hP
   | .ok (y,ts2,d2),hP=>exact ⟨hP,hr _ hx.2⟩
theorem PX.pair {r:R α} {g:List Tok->Int->R β} {rel:α->Prop} {rel2:β->Prop} {rel3:α×β->Prop} (hx:PX K s h p r rel) (hP:PX K s h' p (bindR r fun _ ts d=>g ts d) rel2) (hr:∀ x y,rel x->rel2 y->rel3 (x,y)):PX K s h' p (pairR r g) rel3:=by
 match r,hx,hP with
 | .error e,hx,hP=>exact hP
 | .ok (x,ts,d),hx,hP=>
   simp only [pairR,bindR_ok] at hP ⊢
   generalize g ts d=r2 at *
   match r2,hP with
   | .error e,hP=>exact hP
   | .ok (y,ts2,d2),hP=>exact ⟨hP.1,hr _ _ hx.2 hP.2⟩
theorem PX.stay {r:R α} {rel rel':α->Prop} (x:Stay (K.blocks p) h h') (hx:PX K s h p r rel) (hr:∀ y,rel y->rel' y):PX K s h' p r rel':=by
 match r,hx with
 | .error e,hx=>exact PS.stay (r:=(.error e:R Unit)) x hx
 | .ok (y,ts,d),hx=>exact ⟨PS.stay (r:=(.ok ((),ts,d):R Unit)) x hx.1,hr _ hx.2⟩
theorem PK.In.old {h0:PHeap} (hI:K.In h0 p) (hp:h0 p≠none) (x:∀ q o,h0 q≠none->h q=some o->h' q=some o):Stay (K.blocks p) h h':=fun k o hk=>by
 rcases hk with rfl | rfl | rfl | rfl
 . exact x _ o hp
 . exact x _ o hI.tok
 . exact x _ o hI.map
 . exact x _ o hI.box
theorem PX.map {r:R α} {k:α->β} {rel:α->Prop} {rel':β->Prop} (hx:PX K s h p r rel) (hr:∀ x,rel x->rel' (k x)):PX K s h p (mapR k r) rel':=by
 match r,hx with
 | .error e,hx=>exact hx
 | .ok (x,ts,d),hx=>exact ⟨hx.1,hr _ hx.2⟩
theorem PX.unit {r:R α} (hx:PS K s h p r):PX K s h p r fun _=>True:=by
 match r,hx with
 | .error e,hx=>exact hx
 | .ok (x,ts,d),hx=>exact ⟨hx,trivial⟩
theorem NF.map {r:R α} {k:α->β} (h:NF (mapR k r)):NF r:=h.bind
theorem NF.then {r:R α} {g:List Tok->Int->R β} (h:NF (thenR r g)):NF (bindR r fun _ ts d=>g ts d):=fun e=>h (by
 unfold thenR
 match r,e with
 | .error x,e=>simp only [bindR_err] at e ⊢;cases e;rfl
 | .ok (x,ts,d),e=>
   simp only [bindR_ok] at e ⊢
   rw [e];rfl)
theorem NF.pair {r:R α} {g:List Tok->Int->R β} (h:NF (pairR r g)):NF (bindR r fun _ ts d=>g ts d):=fun e=>h (by
 unfold pairR
 match r,e with
 | .error x,e=>simp only [bindR_err] at e ⊢;cases e;rfl
 | .ok (x,ts,d),e=>
   simp only [bindR_ok] at e ⊢
   rw [e];rfl)
theorem Put.ext {h h1:PHeap} {b:Nat} {o:Obj} (e:h1=h.put b o) (hb:h b=none):Ext h h1:=e ▸ Ext.put hb o
theorem Put.at {h h1:PHeap} {b:Nat} {o:Obj} (e:h1=h.put b o):h1 b=some o:=e ▸ put_same h b o
theorem Put.chg {h h1:PHeap} {b:Nat} {o:Obj} (e:h1=h.put b o):Chg b h h1:=e ▸ Chg.put b h o
theorem RE_mk {pl:Nat->List Value} {w:Nat} {H:PHeap} (k:Nat) (op nm:Bytes) (v:Nat) (t:Bytes) (args:List E) (pos:Nat) (a:Option Addr) (c:Nat) (hr:args=[]∨∃ b o,a=ad b o/\REs pl w H b o args):
 RE pl w H (.mk k op nm v t args pos) ([vI k,vS op,vS nm,vI v,vS t,vL a args.length c]++pl pos):=⟨a,c,rfl,hr⟩
theorem REs_one {pl:Nat->List Value} {w:Nat} {H:PHeap} {b:Nat} {e:E} {l:List Value} {t:TypeId} {z:Nat×Nat} (hb:H b=some (.cells ⟨l⟩ t z)) (he:RE pl w H e l):REs pl w H b 0 [e]:=
 ⟨⟨l,row_lit hb fun j v hj=>by simpa using hj,he⟩,trivial⟩
theorem REs_two {pl:Nat->List Value} {w:Nat} {H:PHeap} {b:Nat} {e e':E} {l m:List Value} {t:TypeId} {z:Nat×Nat} (hw:l.length=w) (hb:H b=some (.cells ⟨l++m⟩ t z)) (he:RE pl w H e l) (he':RE pl w H e' m):REs pl w H b 0 [e,e']:=
 ⟨⟨l,row_lit hb fun j v hj=>by
  have:j < l.length:=(List.getElem?_eq_some_iff.1 hj).1
  simp only [Nat.zero_add];rw [List.getElem?_append_left this];exact hj,he⟩,
  ⟨m,row_lit hb fun j v hj=>by
   simp only [Nat.zero_add];rw [List.getElem?_append_right (by omega)];rw [show w+j - l.length=j by omega];exact hj,he'⟩,trivial⟩
end
end Go.Proofs.D
namespace Go.Proofs.D
open Go Go.Den
noncomputable section
set_option maxRecDepth 100000
set_option maxHeartbeats 4000000
def d26:DCode:=up ⟨[],[],[]⟩ (lw nf Tryz.f26)
theorem low26:lw nf Tryz.f26=some (eC d26):=by kernel_rfl
def R26 (l1:Bs) (h:PHeap) (Q:Value->PHeap->Prop):Prop:=
 br (l1 == [124,124])
 (Q (vI 1) h)
 (br (l1 == [38,38])
 (Q (vI 2) h)
 (br (l1 == [124])
 (Q (vI 3) h)
 (br (l1 == [94])
 (Q (vI 4) h)
 (br (l1 == [38])
 (Q (vI 5) h)
 (br (l1 == [61,61])
 (Q (vI 6) h)
 (br (l1 == [33,61])
 (Q (vI 6) h)
 (br (l1 == [60])
 (Q (vI 7) h)
 (br (l1 == [60,61])
 (Q (vI 7) h)
 (br (l1 == [62])
 (Q (vI 7) h)
 (br (l1 == [62,61])
 (Q (vI 7) h)
 (br (l1 == [60,60])
 (Q (vI 8) h)
 (br (l1 == [62,62])
 (Q (vI 8) h)
 (br (l1 == [43])
 (Q (vI 9) h)
 (br (l1 == [45])
 (Q (vI 9) h)
 (br (l1 == [42])
 (Q (vI 10) h)
 (br (l1 == [47])
 (Q (vI 10) h)
 (br (l1 == [37])
 (Q (vI 10) h)
 (Q (vI 0) h))))))))))))))))))
theorem T26 {l1 h Q} (hR:R26 l1 h Q):Tri Tryz.prog 26 [vS l1] h Q:=
 tri_of_dn mixed Tryz.func26 rfl (by kernel_rfl) low26 (rs:=[.tmp 2]) (by kernel_rfl) rfl (Eq.mpr (by kernel_rfl) hR)
def d102:DCode:=up ⟨[(7, .c (.one false [qi]))],[],[]⟩ (lw nf Tryz.f102)
theorem low102:lw nf Tryz.f102=some (eC d102):=by kernel_rfl
def R102 (a1:OA) (n1 k1:Nat) (l1:Bs) (h:PHeap) (Q:Value->PHeap->Prop):Prop:=
 tp 149 [vL a1 n1 k1,vS l1] h fun v_1 h_1=>
 ∃ i1,v_1=vI i1/\
 Q (vB (decide (i1≥0))) h_1
theorem T102 {a1 n1 k1 l1 h Q} (hR:R102 a1 n1 k1 l1 h Q):Tri Tryz.prog 102 [vL a1 n1 k1,vS l1] h Q:=
 tri_of_dn mixed Tryz.func102 rfl (by kernel_rfl) low102 (rs:=[.tmp 4]) (by kernel_rfl) rfl (Eq.mpr (by kernel_rfl) hR)
def d149:DCode:=up ⟨[(15, .l [.str])],[],[(9,13,[(8,qi)],[])]⟩ (lw nf Tryz.f149)
theorem low149:lw nf Tryz.f149=some (eC d149):=by kernel_rfl
def R149 (a1:OA) (n1 k1:Nat) (l1:Bs) (h:PHeap) (Q:Value->PHeap->Prop):Prop:=
 ∃ (I_1:Nat->Int->PHeap->Prop),(∃ m2,I_1 m2 0 h)/\
 ∀ m1 i1 h_1,I_1 m1 i1 h_1->
 br (decide (i1 < (n1:Int)))
 (slt a1 i1 n1 fun b1 o1=>
 ∃ l2,h_1.cell b1 (o1+(i1).toNat * 1)=some (vS l2)/\
 br (l1 == l2)
 (Q (vI i1) h_1)
 (∃ m3,m3 < m1/\I_1 m3 (IntKind.i64.wrap (i1+1)) h_1/\
 True))
 (Q (vI (-1)) h_1)
theorem T149 {a1 n1 k1 l1 h Q} (hR:R149 a1 n1 k1 l1 h Q):Tri Tryz.prog 149 [vL a1 n1 k1,vS l1] h Q:=
 tri_of_dn mixed Tryz.func149 rfl (by kernel_rfl) low149 (rs:=[.tmp 4]) (by kernel_rfl) rfl (Eq.mpr (by kernel_rfl) hR)
def d191:DCode:=up ⟨[(7, .c (.one false [qi]))],[],[]⟩ (lw nf Tryz.f191)
theorem low191:lw nf Tryz.f191=some (eC d191):=by kernel_rfl
def R191 (a1:OA) (n1 k1 f1:Nat) (x1 y1:List Value) (h:PHeap) (Q:Value->PHeap->Prop):Prop:=
 tp 201 [vL a1 n1 k1,vF f1 x1 y1] h fun v_1 h_1=>
 ∃ i1,v_1=vI i1/\
 Q (vB (decide (i1≥0))) h_1
theorem T191 {a1 n1 k1 f1 x1 y1 h Q} (hR:R191 a1 n1 k1 f1 x1 y1 h Q):Tri Tryz.prog 191 [vL a1 n1 k1,vF f1 x1 y1] h Q:=
 tri_of_dn mixed Tryz.func191 rfl (by kernel_rfl) low191 (rs:=[.tmp 4]) (by kernel_rfl) rfl (Eq.mpr (by kernel_rfl) hR)
def d201:DCode:=up ⟨[(15, .l [.str]),(16, .c (.one false [.bool]))],[],[(9,13,[(8,qi)],[])]⟩ (lw nf Tryz.f201)
theorem low201:lw nf Tryz.f201=some (eC d201):=by kernel_rfl
def R201 (a1:OA) (n1 k1 f1:Nat) (x1 y1:List Value) (h:PHeap) (Q:Value->PHeap->Prop):Prop:=
 ∃ (I_1:Nat->Int->PHeap->Prop),(∃ m2,I_1 m2 0 h)/\
 ∀ m1 i1 h_1,I_1 m1 i1 h_1->
 br (decide (i1 < (n1:Int)))
 (slt a1 i1 n1 fun b1 o1=>
 ∃ l1,h_1.cell b1 (o1+(i1).toNat * 1)=some (vS l1)/\
 tp f1 (x1++[vS l1]++y1) h_1 fun v_1 h_2=>
 ∃ c1,v_1=vB c1/\
 br c1
 (Q (vI i1) h_2)
 (∃ m3,m3 < m1/\I_1 m3 (IntKind.i64.wrap (i1+1)) h_2/\
 True))
 (Q (vI (-1)) h_1)
theorem T201 {a1 n1 k1 f1 x1 y1 h Q} (hR:R201 a1 n1 k1 f1 x1 y1 h Q):Tri Tryz.prog 201 [vL a1 n1 k1,vF f1 x1 y1] h Q:=
 tri_of_dn mixed Tryz.func201 rfl (by kernel_rfl) low201 (rs:=[.tmp 4]) (by kernel_rfl) rfl (Eq.mpr (by kernel_rfl) hR)
end
end Go.Proofs.D
namespace Go.Proofs.D
open Go Go.Den Go.Sx
set_option maxRecDepth 100000
attribute [local irreducible] IntKind.wrap
theorem level_tri (op:Bytes) (h:PHeap):Tri Tryz.prog 26 [vS op] h fun v h'=>v=vI (levelS op)/\h'=h:=by
 refine T26 ?_
 unfold R26
 iterate 18
  refine br_split (fun e=>?_) (fun e=>?_)
  . refine ⟨?_,rfl⟩
    simp only [levelS, *];rfl
 refine ⟨?_,rfl⟩
 simp only [levelS, *];rfl
def StrAt (h:PHeap) (a:Option Addr) (L:List Bytes):Prop:=L=[]∨∃ b o,a=ad b o/\∀ j l,L[j]? =some l->h.cell b (o+j)=some (vS l)
theorem StrAt.ext {h h':PHeap} {a:Option Addr} {L:List Bytes} (x:Ext h h') (hs:StrAt h a L):StrAt h' a L:=by
 rcases hs with hs | ⟨b,o,ha,hs⟩
 . exact .inl hs
 . exact .inr ⟨b,o,ha,fun j l hj=>cell_ext (fun ob=>x b ob) (hs j l hj)⟩
theorem StrAt.get {h:PHeap} {a:Option Addr} {L:List Bytes} (hs:StrAt h a L) {n:Nat} (hn:n < L.length):∃ b o,a=ad b o/\h.cell b (o+(n:Int).toNat * 1)=some (vS L[n]):=by
 rcases hs with hs | ⟨b,o,ha,hs⟩
 . subst hs;simp at hn
 . refine ⟨b,o,ha,?_⟩
   have:=hs n L[n] (by simp [hn])
   simpa using this
def idxI (L:List Bytes) (f:Bytes->Bool):Int:=
 match L.findIdx? f with
 | some i=>i
 | none=> -1
theorem idxI_some {L:List Bytes} {f:Bytes->Bool} {n:Nat} (hn:n < L.length) (hb:∀ j (hj:j < n),f (L[j]'(by omega))=false) (ht:f L[n]=true):idxI L f=n:=by
 have:L.findIdx? f=some n:=by
  rw [List.findIdx?_eq_some_iff_getElem]
  exact ⟨hn,ht,fun j hj=>by rw [hb j hj];decide⟩
 simp [idxI,this]
theorem idxI_none {L:List Bytes} {f:Bytes->Bool} (hb:∀ j (hj:j < L.length),f L[j]=false):idxI L f= -1:=by
 have:L.findIdx? f=none:=by
  rw [List.findIdx?_eq_none_iff]
  intro x hx
  obtain ⟨j,hj,rfl⟩:=List.getElem_of_mem hx
  exact hb j hj
 simp [idxI,this]
theorem idxI_any (L:List Bytes) (f:Bytes->Bool):decide (idxI L f≥0)=L.any f:=by
 unfold idxI
 cases h:L.findIdx? f with
 | none=>
   rw [List.findIdx?_eq_none_iff] at h
   rw [eq_comm];simpa using h
 | some i=>
   have:=h
   rw [List.findIdx?_eq_some_iff_getElem] at h
   obtain ⟨hi,ht,_⟩:=h
   have:L.any f=true:=by rw [List.any_eq_true];exact ⟨_,List.getElem_mem hi,ht⟩
   rw [this];simp
theorem indexFunc_tri {h:PHeap} {a:Option Addr} {L:List Bytes} {c f:Nat} {x y:List Value} (Pd:Bytes->Bool) (hs:StrAt h a L) (hl:L.length<=1000000)
 (hf:∀ l,l∈L->Tri Tryz.prog f (x++[vS l]++y) h fun v h'=>v=vB (Pd l)/\h'=h):Tri Tryz.prog 201 [vL a L.length c,vF f x y] h fun v h'=>v=vI (idxI L Pd)/\h'=h:=by
 refine T201 ?_
 unfold R201
 refine ⟨fun m i h'=>h'=h/\∃ n:Nat,i=n/\n+m=L.length/\∀ j (hj:j < n) (hj':j < L.length),Pd (L[j])=false,⟨L.length,rfl,0,rfl,by omega,fun j hj=>by omega⟩,?_⟩
 rintro m _ _ ⟨rfl,n,rfl,hnm,hb⟩
 refine br_split (fun e=>?_) (fun e=>?_)
 . have hn:n < L.length:=by simpa using e
   obtain ⟨b,o,ha,hc⟩:=hs.get hn
   refine ⟨b,o,ha,⟨by omega,by omega⟩,_,hc,?_⟩
   refine Tri.mono (hf _ (List.getElem_mem hn)) ?_
   rintro _ h ⟨rfl,rfl⟩
   refine ⟨_,rfl,br_split (fun e2=>?_) (fun e2=>?_)⟩
   . exact ⟨by rw [idxI_some hn (fun j hj=>hb j hj (by omega)) e2],rfl⟩
   . refine ⟨m - 1,by omega,⟨rfl,n+1,?_,by omega,fun j hj hj'=>?_⟩,trivial⟩
     . rw [wrap64 (by omega) (by omega)];rfl
     . by_cases e3:j=n
       . subst e3;exact e2
       . exact hb j (by omega) hj'
 . have hn:¬ n < L.length:=by simpa using e
   exact ⟨by rw [idxI_none fun j hj=>hb j (by omega) hj],rfl⟩
theorem containsFunc_tri {h:PHeap} {a:Option Addr} {L:List Bytes} {c f:Nat} {x y:List Value} (Pd:Bytes->Bool) (hs:StrAt h a L) (hl:L.length<=1000000)
 (hf:∀ l,l∈L->Tri Tryz.prog f (x++[vS l]++y) h fun v h'=>v=vB (Pd l)/\h'=h):Tri Tryz.prog 191 [vL a L.length c,vF f x y] h fun v h'=>v=vB (L.any Pd)/\h'=h:=by
 refine T191 ?_
 unfold R191
 refine Tri.mono (indexFunc_tri Pd hs hl hf) ?_
 rintro _ h ⟨rfl,rfl⟩
 exact ⟨_,rfl,by rw [idxI_any],rfl⟩
theorem index_tri {h:PHeap} {a:Option Addr} {L:List Bytes} {c:Nat} (w:Bytes) (hs:StrAt h a L) (hl:L.length<=1000000):Tri Tryz.prog 149 [vL a L.length c,vS w] h fun v h'=>v=vI (idxI L fun l=>w == l)/\h'=h:=by
 refine T149 ?_
 unfold R149
 refine ⟨fun m i h'=>h'=h/\∃ n:Nat,i=n/\n+m=L.length/\∀ j (hj:j < n) (hj':j < L.length),(w == L[j])=false,⟨L.length,rfl,0,rfl,by omega,fun j hj=>by omega⟩,?_⟩
 rintro m _ _ ⟨rfl,n,rfl,hnm,hb⟩
 refine br_split (fun e=>?_) (fun e=>?_)
 . have hn:n < L.length:=by simpa using e
   obtain ⟨b,o,ha,hc⟩:=hs.get hn
   refine ⟨b,o,ha,⟨by omega,by omega⟩,_,hc,br_split (fun e2=>?_) (fun e2=>?_)⟩
   . exact ⟨by rw [idxI_some (f:=fun l=>w == l) hn (fun j hj=>hb j hj (by omega)) e2],rfl⟩
   . refine ⟨m - 1,by omega,⟨rfl,n+1,?_,by omega,fun j hj hj'=>?_⟩,trivial⟩
     . rw [wrap64 (by omega) (by omega)];rfl
     . by_cases e3:j=n
       . subst e3;exact e2
       . exact hb j (by omega) hj'
 . have hn:¬ n < L.length:=by simpa using e
   exact ⟨by rw [idxI_none (f:=fun l=>w == l) fun j hj=>hb j (by omega) hj],rfl⟩
theorem contains_tri {h:PHeap} {a:Option Addr} {L:List Bytes} {c:Nat} (w:Bytes) (hs:StrAt h a L) (hl:L.length<=1000000):Tri Tryz.prog 102 [vL a L.length c,vS w] h fun v h'=>v=vB (L.contains w)/\h'=h:=by
 refine T102 ?_
 unfold R102
 refine Tri.mono (index_tri w hs hl) ?_
 rintro _ h ⟨rfl,rfl⟩
 exact ⟨_,rfl,by rw [idxI_any,List.contains_eq_any_beq],rfl⟩
end Go.Proofs.D
namespace Go.Proofs.D
open Go Go.Den Go.Sx
set_option maxRecDepth 100000
attribute [local irreducible] IntKind.wrap Tri
structure XOk (K:PK) (s:Bytes) (p:Nat) (f:Nat):Prop where
 bin:∀ {α:Type} (lv:Nat) (r:R α) (h:PHeap),lv<=11->PS K s h p r->NF (bindR r fun _ ts d=>pBin f lv ts d)->Tri Tryz.prog 140 [vP p 0,vI lv] h (PE K s p h (bindR r fun _ ts d=>pBin f lv ts d))
 un:∀ {α:Type} (r:R α) (h:PHeap),PS K s h p r->NF (bindR r fun _ ts d=>pUn f ts d)->Tri Tryz.prog 172 [vP p 0] h (PE K s p h (bindR r fun _ ts d=>pUn f ts d))
 prim:∀ {α:Type} (r:R α) (h:PHeap),PS K s h p r->NF (bindR r fun _ ts d=>pPrim f ts d)->Tri Tryz.prog 192 [vP p 0] h (PE K s p h (bindR r fun _ ts d=>pPrim f ts d))
 name:∀ (ts:List Tok) (d:Int) (h:PHeap),POk K s h p ts d->isK ts 1=true->NF (pName f ts d)->Tri Tryz.prog 202 [vP p 0] h (PE K s p h (pName f ts d))
 call:∀ {α:Type} (t:Tok) (r:R α) (h:PHeap),PS K s h p r->NF (bindR r fun _ ts d=>pCall f t ts d)->Tri Tryz.prog 193 [vP p 0,vA (tokC s t)] h (PE K s p h (bindR r fun _ ts d=>pCall f t ts d))
section
variable {K : PK} {s : Bytes} {p : Nat}
theorem expr_tri {f:Nat} (X:XOk K s p f) {α:Type} (r:R α) (h:PHeap) (hP:PS K s h p r) (hn:NF (bindR r fun _ ts d=>pBin f 1 ts d)):Tri Tryz.prog 91 [vP p 0] h (PE K s p h (bindR r fun _ ts d=>pBin f 1 ts d)):=by
 refine T91 ?_
 unfold R91
 refine Tri.mono (X.bin 1 r h (by decide) hP hn) ?_
 rintro _ h1 ⟨c,rfl,hA,hx⟩
 exact ⟨_,_,_,_,_,_,_,_,_,_,rfl,c,rfl,hA,hx⟩
theorem PE.after {h h1 h2:PHeap} {r:R E} {v:Value} (hp:h1 p≠none) (hA:Away p h h1) (hE:PE K s p h1 r v h2):PE K s p h r v h2:=by
 obtain ⟨c,rfl,hA2,hx⟩:=hE
 exact ⟨c,rfl,hA.trans hA2,hx.mono fun e he=>he.ext (only_new (hA.dom hp))⟩
theorem name_ok {f:Nat} (X:XOk K s p f) (ts:List Tok) (d:Int) (h:PHeap) (hP:POk K s h p ts d) (h1:isK ts 1=true) (hn:NF (pName (f+1) ts d)):Tri Tryz.prog 202 [vP p 0] h (PE K s p h (pName (f+1) ts d)):=by
 refine T202 ?_
 unfold R202
 have hk:(hd ts).kind≠0:=by simp [isK] at h1;omega
 refine Tri.mono (advance_tri hP hk) ?_
 rintro _ h1 ⟨rfl,hc1,hP1⟩
 refine ⟨_,_,_,_,_,_,rfl,?_⟩
 refine Tri.mono (is_tri (r:=(.ok ((),ts.tail,d):R Unit)) hP1 [40]) ?_
 rintro _ h1 ⟨rfl,rfl⟩
 refine ⟨_,rfl,?_⟩
 unfold pName at hn ⊢
 refine br_split (fun e=>?_) (fun e=>?_)
 . have e:isT ts.tail [40]=true:=e
   rw [if_pos e] at hn ⊢
   refine Tri.mono (X.call (hd ts) (.ok ((),ts.tail,d):R Unit) h1 hP1 hn) ?_
   rintro _ h2 hE
   have hE':=PE.after (PS.mem (r:=(.ok ((),ts.tail,d):R Unit)) hP1) hc1.away hE
   obtain ⟨c,rfl,_,_⟩:=hE
   exact ⟨_,_,_,_,_,_,_,_,_,_,rfl,hE'⟩
 have e:isT ts.tail [40]=false:=e
 rw [if_neg (by rw [e];decide)] at hn ⊢
 refine Tri.mono (is_tri (r:=(.ok ((),ts.tail,d):R Unit)) hP1 [91]) ?_
 rintro _ h1 ⟨rfl,rfl⟩
 refine ⟨_,rfl,?_⟩
 refine br_split (fun e2=>?_) (fun e2=>?_)
 . have e2:isT ts.tail [91]=true:=e2
   rw [if_pos e2] at hn ⊢
   refine Tri.mono (take_tri (r:=(.ok ((),ts.tail,d):R Unit)) hP1 [91]) ?_
   rintro _ h2 ⟨rfl,hc2,hP2⟩
   refine ⟨rfl,?_⟩
   rw [bindR_ok] at hP2
   have he:(bindR (takeT [91] ts.tail d) fun _ ts' d=>bindR (pBin f 1 ts' d) fun e ts' d=>bindR (takeT [93] ts' d) fun _ ts' d=>(.ok (.mk 4 [] (hd ts).text 0 [] [e] (hd ts).pos,ts',d):R E))=
    mapR (fun e=> .mk 4 [] (hd ts).text 0 [] [e] (hd ts).pos) (thenR (bindR (takeT [91] ts.tail d) fun _ ts d=>pBin f 1 ts d) fun ts d=>takeT [93] ts d):=by
     simp only [mapR,thenR,bindR_bind,bindR_ok]
   rw [he] at hn ⊢
   refine Tri.mono (expr_tri X _ h2 hP2 hn.map.then.bind) ?_
   rintro _ h3 ⟨c,rfl,hA3,hx3⟩
   refine ⟨_,_,_,_,_,_,_,_,_,_,rfl,?_⟩
   intro b hb h3' hh
   refine Tri.mono (take_tri (hx3.ps.ext (Put.ext hh hb)) [93]) ?_
   rintro _ h4 ⟨rfl,hc4,hP4⟩
   have hp0:h p≠none:=PS.mem (r:=(.ok ((),ts,d):R Unit)) hP
   have hA2:Away p h h2:=hc1.away.trans hc2.away
   have hb0:h b=none:=(hA2.trans hA3).dom hx3.ps.mem b hb
   have hbp:b≠p:=fun e=>by subst e;exact hp0 hb0
   have hA4:Away p h3 h4:=(Put.ext hh hb).away.trans hc4.away
   have hbk:only (New h) h4 b=some (.cells ⟨c.l⟩ 48 (0,0)):=only_some.2 ⟨hb0,(hc4 b hbp).trans (Put.at hh)⟩
   have hx4:=hx3.then (rel':=fun e=>RE (plP s) 8 (only (New h) h4) e c.l) hP4 fun e he=>he.ext ((only_new (hA2.dom hP2.mem)).trans (only_away hp0 hA4))
   exact ⟨rfl,⟨4,[],(hd ts).text,0,[],ad b 0,1,1,_,_⟩,rfl,(hA2.trans hA3).trans hA4,hx4.map fun e he=>RE_mk 4 [] _ 0 [] [e] _ (ad b 0) 1 (.inr ⟨b,0,rfl,REs_one hbk he⟩)⟩
 . have e2:isT ts.tail [91]=false:=e2
   rw [if_neg (by rw [e2];decide)]
   exact ⟨⟨3,[],(hd ts).text,0,[],none,0,0,_,_⟩,rfl,hc1.away,hP1,none,0,rfl, .inl rfl⟩
theorem un_ok {f:Nat} (X:XOk K s p f) {α:Type} (r:R α) (h:PHeap) (hP:PS K s h p r) (hn:NF (bindR r fun _ ts d=>pUn (f+1) ts d)):Tri Tryz.prog 172 [vP p 0] h (PE K s p h (bindR r fun _ ts d=>pUn (f+1) ts d)):=by
 refine T172 ?_
 unfold R172
 intro b hb h1 hh1
 have hP1:PS K s h1 p r:=hP.ext (Put.ext hh1 hb)
 have hA1:Away p h h1:=(Put.ext hh1 hb).away
 have hs:StrAt h1 (ad b 0) [[45],[33],[126]]:= .inr ⟨b,0,rfl,fun j l hj=>by
  rw [cell_of (Put.at hh1)]
  match j,hj with
  | 0,hj=>simp at hj;subst hj;rfl
  | 1,hj=>simp at hj;subst hj;rfl
  | 2,hj=>simp at hj;subst hj;rfl
  | j+3,hj=>simp at hj⟩
 clear hh1
 have hf:∀ l,l∈([[45],[33],[126]]:List Bytes)->Tri Tryz.prog 44 ([vP p 0]++[vS l]++[]) h1 fun v h'=>v=vB (isTr r l)/\h'=h1:=fun l _=>is_tri hP1 l
 have hl:([[45],[33],[126]]:List Bytes).length<=1000000:=by decide
 refine Tri.mono (containsFunc_tri (c:=3) (x:=[vP p 0]) (y:=[]) (isTr r) hs hl hf) ?_
 rintro _ h1 ⟨rfl,rfl⟩
 refine ⟨_,rfl,?_⟩
 refine br_split (fun e=>?_) (fun e=>?_)
 . have he:(bindR r fun _ ts d=>pUn (f+1) ts d)=bindR r fun _ ts d=>pPrim f ts d:=by
    match r,e with
    | .error x,e=>rfl
    | .ok (x,ts,d),e=>
      simp only [bindR_ok]
      unfold pUn
      simp [isTr] at e
      rw [if_neg (by simp [e])]
   rw [he] at hn ⊢
   refine Tri.mono (X.prim r h1 hP1 hn) ?_
   rintro _ h2 hE
   have hE':=PE.after hP1.mem hA1 hE
   obtain ⟨c,rfl,_,_⟩:=hE
   exact ⟨_,_,_,_,_,_,_,_,_,_,rfl,hE'⟩
 . match r,hP,hP1,hn,e with
   | .error x,hP,hP1,hn,e=>simp [isTr] at e
   | .ok (x,ts,d),hP,hP1,hn,e=>
     have e':(isT ts [45] || isT ts [33] || isT ts [126])=true:=by
      have e:([[45],[33],[126]].any (isTr (.ok (x,ts,d):R α)))=true:=by
       rw [Bool.not_eq_false'] at e;exact e
      simp only [List.any_cons,List.any_nil,isTr,Bool.or_false] at e
      rw [Bool.or_assoc];exact e
     have hk:(hd ts).kind≠0:=by
      simp only [Bool.or_eq_true] at e'
      rcases e' with (e' | e') | e' <;> exact isT_kind e'
     have he:(bindR (.ok (x,ts,d):R α) fun _ ts d=>pUn (f+1) ts d)=mapR (fun e=> .mk 6 (hd ts).text [] 0 [] [e] (hd ts).pos) (pUn f ts.tail d):=by
      rw [bindR_ok];conv=>lhs;unfold pUn
      rw [if_pos e'];rfl
     rw [he] at hn ⊢
     refine Tri.mono (advance_tri hP1 hk) ?_
     rintro _ h2 ⟨rfl,hc2,hP2⟩
     refine ⟨_,_,_,_,_,_,rfl,?_⟩
     refine Tri.mono (X.un (.ok ((),ts.tail,d):R Unit) h2 hP2 hn.map) ?_
     rintro _ h3 ⟨c,rfl,hA3,hx3⟩
     refine ⟨_,_,_,_,_,_,_,_,_,_,rfl,rfl,rfl,rfl,?_⟩
     intro b2 hb2 h4 hh
     have hp0:h p≠none:=hP.mem
     have hA2:Away p h h2:=hA1.trans hc2.away
     have hb0:h b2=none:=(hA2.trans hA3).dom hx3.ps.mem b2 hb2
     have hbk:only (New h) h4 b2=some (.cells ⟨c.l⟩ 48 (0,0)):=only_some.2 ⟨hb0,Put.at hh⟩
     have hx4:=hx3.ext (rel':=fun e=>RE (plP s) 8 (only (New h) h4) e c.l) (Put.ext hh hb2) fun e he=>he.ext ((only_new (hA2.dom (PS.mem (r:=(.ok ((),ts.tail,d):R Unit)) hP2))).trans (only_away hp0 (Put.ext hh hb2).away))
     exact ⟨rfl,rfl,rfl,⟨6,(hd ts).text,[],0,[],ad b2 0,1,1,_,_⟩,rfl,(hA2.trans hA3).trans (Put.ext hh hb2).away,hx4.map fun e he=>RE_mk 6 _ [] 0 [] [e] _ (ad b2 0) 1 (.inr ⟨b2,0,rfl,REs_one hbk he⟩)⟩
theorem isKr_ok {α:Type} {r:R α} {k:Nat} (e:isKr r k=true):∃ x ts d,r= .ok (x,ts,d)/\isK ts k=true:=by
 match r,e with
 | .error x,e=>cases e
 | .ok (x,ts,d),e=>exact ⟨x,ts,d,rfl,e⟩
theorem prim_ok {f:Nat} (X:XOk K s p f) {α:Type} (r:R α) (h:PHeap) (hP:PS K s h p r) (hn:NF (bindR r fun _ ts d=>pPrim (f+1) ts d)):Tri Tryz.prog 192 [vP p 0] h (PE K s p h (bindR r fun _ ts d=>pPrim (f+1) ts d)):=by
 refine T192 ?_
 unfold R192
 refine Tri.mono (isKind_tri hP 2) ?_
 rintro _ h ⟨rfl,rfl⟩
 refine ⟨_,rfl,br_split (fun e=>?_) (fun e=>?_)⟩
 . obtain ⟨x,ts,d,rfl,k1⟩:=isKr_ok e
   rw [bindR_ok] at hn ⊢
   refine Tri.mono (advance_tri hP (by simp [isK] at k1;omega)) ?_
   rintro _ h1 ⟨rfl,hc1,hP1⟩
   refine ⟨_,_,_,_,_,_,rfl,⟨1,[],[],_,[],none,0,0,_,_⟩,rfl,hc1.away,?_⟩
   unfold pPrim;rw [if_pos k1]
   exact ⟨hP1,none,0,rfl, .inl rfl⟩
 refine Tri.mono (isKind_tri hP 3) ?_
 rintro _ h ⟨rfl,rfl⟩
 refine ⟨_,rfl,br_split (fun e2=>?_) (fun e2=>?_)⟩
 . obtain ⟨x,ts,d,rfl,k2⟩:=isKr_ok e2
   rw [bindR_ok] at hn ⊢
   refine Tri.mono (advance_tri hP (by simp [isK] at k2;omega)) ?_
   rintro _ h1 ⟨rfl,hc1,hP1⟩
   refine ⟨_,_,_,_,_,_,rfl,⟨2,[],[],0,_,none,0,0,_,_⟩,rfl,hc1.away,?_⟩
   unfold pPrim;rw [if_neg (by rw [show isK ts 2=false from e];decide),if_pos k2]
   exact ⟨hP1,none,0,rfl, .inl rfl⟩
 refine Tri.mono (isKind_tri hP 1) ?_
 rintro _ h ⟨rfl,rfl⟩
 refine ⟨_,rfl,br_split (fun e3=>?_) (fun e3=>?_)⟩
 . obtain ⟨x,ts,d,rfl,k3⟩:=isKr_ok e3
   rw [bindR_ok] at hn ⊢
   have he:pPrim (f+1) ts d=pName f ts d:=by
    conv=>lhs;unfold pPrim
    rw [if_neg (by rw [show isK ts 2=false from e];decide),if_neg (by rw [show isK ts 3=false from e2];decide),if_pos k3]
   rw [he] at hn ⊢
   refine Tri.mono (X.name ts d h hP k3 hn) ?_
   rintro _ h1 hE
   have hE':=hE
   obtain ⟨c,rfl,_,_⟩:=hE
   exact ⟨_,_,_,_,_,_,_,_,_,_,rfl,hE'⟩
 have he:(bindR r fun _ ts d=>pPrim (f+1) ts d)=thenR (bindR (bindR r fun _ ts d=>takeT [40] ts d) fun _ ts d=>pBin f 1 ts d) fun ts d=>takeT [41] ts d:=by
  match r,e,e2,e3 with
  | .error x,_,_,_=>rfl
  | .ok (x,ts,d),e,e2,e3=>
    simp only [bindR_ok]
    conv=>lhs;unfold pPrim
    rw [if_neg (by rw [show isK ts 2=false from e];decide),if_neg (by rw [show isK ts 3=false from e2];decide),if_neg (by rw [show isK ts 1=false from e3];decide)]
    simp only [thenR,bindR_bind,bindR_ok]
 rw [he] at hn ⊢
 refine Tri.mono (take_tri hP [40]) ?_
 rintro _ h1 ⟨rfl,hc1,hP1⟩
 refine ⟨rfl,?_⟩
 obtain ⟨i,hi,hz⟩:=hP1.err
 refine ⟨i,hi,br_split (fun e4=>?_) (fun e4=>?_)⟩
 . generalize (bindR r fun _ ts d=>takeT [40] ts d)=r1 at *
   match r1,hP1,hz with
   | .ok x,hP1,hz=>simp [okR] at hz e4;exact absurd hz e4
   | .error x,hP1,hz=>exact ⟨⟨0,[],[],0,[],none,0,0,0,0⟩,rfl,hc1.away,hP1⟩
 . refine Tri.mono (expr_tri X _ h1 hP1 hn.then.bind) ?_
   rintro _ h2 ⟨c,rfl,hA2,hx2⟩
   refine ⟨_,_,_,_,_,_,_,_,_,_,rfl,?_⟩
   refine Tri.mono (take_tri hx2.ps [41]) ?_
   rintro _ h3 ⟨rfl,hc3,hP3⟩
   refine ⟨rfl,c,rfl,(hc1.away.trans hA2).trans hc3.away,hx2.then hP3 ?_⟩
   exact fun e he=>he.ext ((only_new (hc1.away.dom hP1.mem)).trans (only_away hP.mem hc3.away))
theorem pLoop_succ (f lv:Nat) (e:E) (ts:List Tok) (d:Int):pLoop (f+1) lv e ts d=if isK ts 5 && levelS (hd ts).text == lv then
 bindR (pBin f (lv+1) ts.tail d) fun e' ts' d'=>pLoop f lv (.mk 7 (hd ts).text [] 0 [] [e,e'] (hd ts).pos) ts' d'
 else .ok (e,ts,d):=by
 conv=>lhs;unfold pLoop
theorem bin_ok {f:Nat} (X:∀ g,g<=f->XOk K s p g) {α:Type} (lv:Nat) (r:R α) (h:PHeap) (hlv:lv<=11) (hP:PS K s h p r) (hn:NF (bindR r fun _ ts d=>pBin (f+1) lv ts d)):Tri Tryz.prog 140 [vP p 0,vI lv] h (PE K s p h (bindR r fun _ ts d=>pBin (f+1) lv ts d)):=by
 refine T140 ?_
 unfold R140
 have hp0:h p≠none:=hP.mem
 refine br_split (fun e=>?_) (fun e=>?_)
 . have e:lv=11:=by
    have:(lv:Int)=11:=by simpa using e
    omega
   have he:(bindR r fun _ ts d=>pBin (f+1) lv ts d)=bindR r fun _ ts d=>pUn f ts d:=by
    congr 1;funext _ ts d;conv=>lhs;unfold pBin
    rw [if_pos e]
   rw [he] at hn ⊢
   refine Tri.mono ((X f (Nat.le_refl _)).un r h hP hn) ?_
   rintro _ h1 hE
   have hE':=hE
   obtain ⟨c,rfl,_,_⟩:=hE
   exact ⟨_,_,_,_,_,_,_,_,_,_,rfl,hE'⟩
 have e:lv≠11:=by
  have:¬ (lv:Int)=11:=by simpa using e
  omega
 have he:(bindR r fun _ ts d=>pBin (f+1) lv ts d)=bindR (bindR r fun _ ts d=>pBin f (lv+1) ts d) fun e ts d=>pLoop f lv e ts d:=by
  rw [bindR_bind];congr 1;funext _ ts d;conv=>lhs;unfold pBin
  rw [if_neg e]
 rw [he] at hn ⊢
 have hw:IntKind.i64.wrap ((lv:Int)+1)=((lv+1:Nat):Int):=by rw [wrap64 (by omega) (by omega)];rfl
 rw [hw]
 refine Tri.mono ((X f (Nat.le_refl _)).bin (lv+1) r h (by omega) hP hn.bind) ?_
 rintro _ h2 ⟨c,rfl,hA2,hx2⟩
 refine ⟨_,_,_,_,_,_,_,_,_,_,rfl,?_⟩
 generalize hfin:(bindR (bindR r fun _ ts d=>pBin f (lv+1) ts d) fun e ts d=>pLoop f lv e ts d)=fin at *
 refine ⟨fun m k op nm vl tx a n cc ln cl h'=>∃ r':R E,m<=f/\Away p h h'/\PX K s h' p r' (fun e=>RE (plP s) 8 (only (New h) h') e (EC.l ⟨k,op,nm,vl,tx,a,n,cc,ln,cl⟩))/\(bindR r' fun e ts d=>pLoop m lv e ts d)=fin,
  ⟨f,_,Nat.le_refl _,hA2,hx2,hfin⟩,?_⟩
 rintro m k op nm vl tx a n cc ln cl h3 ⟨r',hm,hA3,hx3,hf3⟩
 refine Tri.mono (isKind_tri hx3.ps 5) ?_
 rintro _ h3 ⟨rfl,rfl⟩
 refine ⟨_,rfl,br_split (fun e1=>?_) (fun e1=>?_)⟩
 . obtain ⟨x,ts,d,rfl,k5⟩:=isKr_ok e1
   obtain ⟨hP3,hE3⟩:=hx3
   have hP3':=hP3
   obtain ⟨⟨o,c',l',k',hp,hT,hc,_⟩,hI,hend,hlo,hhi,hl2,hwf⟩:=hP3'
   refine ⟨_,_,_,PB_cell hp 0,K.tok,o,rfl,⟨Int.le_refl _,len_pos hend⟩,_,(POk.row hT hend).2.1,?_⟩
   refine Tri.mono (level_tri _ _) ?_
   rintro _ h3 ⟨rfl,rfl⟩
   rw [bindR_ok] at hf3
   refine ⟨_,rfl,br_split (fun e2=>?_) (fun e2=>?_)⟩
   . have e2:(levelS (hd ts).text == lv)=true:=by rw [←kind_beq];exact e2
     match m,hf3,hm with
     | 0,hf3,hm=>exact absurd hf3.symm hn
     | m+1,hf3,hm=>
       rw [pLoop_succ,if_pos (by rw [k5,e2];rfl)] at hf3
       have hk:(hd ts).kind≠0:=by simp [isK] at k5;omega
       refine Tri.mono (advance_tri hP3 hk) ?_
       rintro _ h4 ⟨rfl,hc4,hP4⟩
       refine ⟨_,_,_,_,_,_,rfl,?_⟩
       have hnb:NF (pBin m (lv+1) ts.tail d):=by rw [←hf3] at hn;exact hn.bind
       refine Tri.mono ((X m (by omega)).bin (lv+1) (.ok ((),ts.tail,d):R Unit) h4 (by omega) hP4 hnb) ?_
       rintro _ h5 ⟨c2,rfl,hA5,hx5⟩
       refine ⟨_,_,_,_,_,_,_,_,_,_,rfl,?_⟩
       intro b2 hb2 h6 hh
       have hA4:Away p h h4:=hA3.trans hc4.away
       have hb0:h b2=none:=(hA4.trans hA5).dom hx5.ps.mem b2 hb2
       have hA6:Away p h4 h6:=hA5.trans (Put.ext hh hb2).away
       have hbk:only (New h) h6 b2=some (.cells ⟨EC.l ⟨k,op,nm,vl,tx,a,n,cc,ln,cl⟩++c2.l⟩ 48 (0,0)):=only_some.2 ⟨hb0,Put.at hh⟩
       have hx6:=hx5.ext (rel':=fun e=>RE (plP s) 8 (only (New h) h6) e c2.l) (Put.ext hh hb2) fun e he=>he.ext ((only_new (hA4.dom (PS.mem (r:=(.ok ((),ts.tail,d):R Unit)) hP4))).trans (only_away hp0 (Put.ext hh hb2).away))
       have hE6:=hE3.ext (only_away hp0 (hc4.away.trans hA6))
       refine ⟨m,by omega,⟨mapR (fun e'=> .mk 7 (hd ts).text [] 0 [] [x,e'] (hd ts).pos) (pBin m (lv+1) ts.tail d),by omega,hA4.trans hA6,?_,?_⟩,rfl,trivial⟩
       . exact hx6.map fun e he=>RE_mk 7 _ [] 0 [] [x,e] _ (ad b2 0) 2 (.inr ⟨b2,0,rfl,REs_two rfl hbk hE6 he⟩)
       . rw [←hf3];simp only [mapR,bindR_bind,bindR_ok]
   . have e2:(levelS (hd ts).text == lv)=false:=by rw [←kind_beq];exact e2
     have:fin= .ok (x,ts,d):=by
      match m,hf3 with
      | 0,hf3=>exact absurd hf3.symm hn
      | m+1,hf3=>rw [←hf3,pLoop_succ,if_neg (by rw [k5,e2];decide)]
     rw [this]
     exact ⟨_,rfl,hA3,hP3,hE3⟩
 . have:fin=r':=by
    match r',hf3,e1 with
    | .error x,hf3,e1=>exact hf3.symm
    | .ok (x,ts,d),hf3,e1=>
      rw [bindR_ok] at hf3
      match m,hf3 with
      | 0,hf3=>exact absurd hf3.symm hn
      | m+1,hf3=>rw [←hf3,pLoop_succ,if_neg (by rw [show isK ts 5=false from e1];simp)]
   rw [this]
   exact ⟨_,rfl,hA3,hx3⟩
end
end Go.Proofs.D
namespace Go.Proofs.D
open Go Go.Den Go.Sx
set_option maxRecDepth 100000
attribute [local irreducible] IntKind.wrap Tri
def ElemT (e k:Nat):Prop:=∃ i z,Tryz.prog.info? e=some i/\i.zero=some z/\z.cells.size=k/\i.size=k/\i.bytes<=200
theorem append_one {h:PHeap} {e t ty:TypeId} {k:Nat} (hu:Tryz.prog.underlying t=some (.slice e)) (he:ElemT e k) {ρ:Operand->Value} {c:Call} {x y:Operand} (hc:c.callee= .builtin .append) (ha:c.args=#[x,y]) (hts:c.argTypes=#[t,t])
 {a:Option Addr} {n cp b2:Nat} {xs ys:List Value} (hx:ρ x=vL a n cp) (hy:ρ y=vL (ad b2 0) 1 1) (ho:Own h e k (vL a n cp) n xs) (hb2:h b2=some (.cells ⟨ys⟩ e (0,0))) (hl:ys.length=k) (h1:allOne ys=true) (hn:n<=10000000):
 Raw Tryz.prog (execOp ρ (mkO (.call c) ty)) h fun v h'=>∃ b cap,v=vL (ad b 0) (n+1) cap/\Own h' e k (vL (ad b 0) (n+1) cap) (n+1) (xs++ys)/\(h b=none∨a=ad b 0)/\Chg b h h':=by
 obtain ⟨i,z,hi,hz,hzc,hk,hby⟩:=he
 subst hk
 have hsrc:SrcH Tryz.prog h i.size t (vL (ad b2 0) 1 1) 1 ys:=SrcH.row hu (by omega) (row_lit hb2 fun j v hj=>by simpa using hj) h1
 have hbig:(16 * (n+1)+16384) * i.bytes<=281474976710656:=by
  have:(16 * (n+1)+16384) * i.bytes<=(16 * (n+1)+16384) * 200:=Nat.mul_le_mul_left _ hby
  omega
 refine Raw.mono (raw_append hc ha hts hu hi hz hx hy ho hsrc hzc (by omega) hbig (by omega)) ?_
 rintro v h' ⟨b,cap,rest,rfl,rfl,hr,hcap,hb⟩
 have hxl:=ho.1
 refine ⟨b,cap,rfl,⟨?_, .inr ⟨b,cap,rest,rfl,put_same _ _ _,hr,hcap⟩⟩,?_,Chg.put _ _ _⟩
 . rw [List.length_append,hxl,hl,Nat.add_mul];omega
 . rcases hb with hb | ⟨c2,hb⟩
   . exact .inl hb
   . injection hb with h1 h2 h3;exact .inr h1
structure LM (e k:Nat) (h0 h:PHeap) (a:Option Addr) (n c:Nat) (css:List (List Value)):Prop where
 own:∀ b,a=ad b 0->h0 b=none/\h b≠none
 len:css.length=n
 each:∀ (j:Nat) (cs:List Value),css[j]? =some cs->cs.length=k
 row:Own h e k (vL a n c) n css.flatten
 emp:n=0->a=none/\c=0
def LR {α:Type} (rel:PHeap->α->List Value->Prop) (h0 h:PHeap) (a:Option Addr) (css:List (List Value)) (xs:List α):Prop:=
 css.length=xs.length/\∀ (j:Nat) (x:α) (cs:List Value),xs[j]? =some x->css[j]? =some cs->rel (only (fun b=>New h0 b/\a≠ad b 0) h) x cs
def At {α:Type} (k:Nat) (rel:PHeap->α->List Value->Prop) (h:PHeap) (a:Option Addr) (xs:List α):Prop:=
 xs=[]∨∃ b o,a=ad b o/\∀ (j:Nat) (x:α),xs[j]? =some x->∃ cs,h.row b (o+j * k) cs/\rel h x cs
structure Mono {α:Type} (rel:PHeap->α->List Value->Prop):Prop where
 ap:∀ {h h':PHeap} {x:α} {cs:List Value},Ext h h'->rel h x cs->rel h' x cs
section
variable {α : Type} {e k : Nat} {rel : PHeap → α → List Value → Prop} {h0 h h' : PHeap} {a : Option Addr} {n c : Nat} {xs : List α}
theorem At.ext (hm:Mono rel) (x:Ext h h') (ha:At k rel h a xs):At k rel h' a xs:=by
 rcases ha with ha | ⟨b,o,ha,hj⟩
 . exact .inl ha
 . exact .inr ⟨b,o,ha,fun j y hy=>let ⟨cs,h1,h2⟩:=hj j y hy;⟨cs,row_ext (fun ob=>x b ob) h1,hm.ap x h2⟩⟩
theorem LM.nil:LM e k h0 h none 0 0 []:=
 ⟨(fun b hb=>by cases hb),rfl,(fun j cs hj=>by simp at hj),⟨by simp, .inl ⟨rfl,rfl⟩⟩,fun _=>⟨rfl,rfl⟩⟩
theorem LR.nil:LR rel h0 h none [] ([]:List α):=⟨rfl,fun j x cs hx=>by simp at hx⟩
theorem Own.keep {xs:List Value} (hb:∀ b,a=ad b 0->h' b=h b) (ho:Own h e k (vL a n c) n xs):Own h' e k (vL a n c) n xs:=by
 refine ⟨ho.1,?_⟩
 rcases ho.2 with h1 | ⟨b',cap,rest,h1,h2,h3,h4⟩
 . exact .inl h1
 . injection h1 with e1 e2 e3
   subst e3
   exact .inr ⟨b',c,rest,by rw [e1],by rw [hb b' e1];exact h2,h3,h4⟩
variable {css : List (List Value)}
theorem LM.away {p:Nat} (hp:h0 p≠none) (x:Away p h h') (hL:LM e k h0 h a n c css):LM e k h0 h' a n c css:=by
 obtain ⟨h2,h3,h4,h5,h6⟩:=hL
 have hk:∀ b,a=ad b 0->h' b=h b:=fun b hb=>by
  obtain ⟨g1,g2⟩:=h2 b hb
  cases e:h b with
  | none=>exact absurd e g2
  | some o=>exact x b o (fun e=>by subst e;exact hp g1) e
 exact ⟨fun b hb=>⟨(h2 b hb).1,by rw [hk b hb];exact (h2 b hb).2⟩,h3,h4,Own.keep hk h5,h6⟩
theorem LM.ext (x:Ext h h') (hL:LM e k h0 h a n c css):LM e k h0 h' a n c css:=by
 obtain ⟨h2,h3,h4,h5,h6⟩:=hL
 have hk:∀ b,a=ad b 0->h' b=h b:=fun b hb=>by
  obtain ⟨g1,g2⟩:=h2 b hb
  cases e:h b with
  | none=>exact absurd e g2
  | some o=>exact x b o e
 exact ⟨fun b hb=>⟨(h2 b hb).1,by rw [hk b hb];exact (h2 b hb).2⟩,h3,h4,Own.keep hk h5,h6⟩
theorem LR.away (hm:Mono rel) {p:Nat} (hp:h0 p≠none) (x:Away p h h') (hL:LR rel h0 h a css xs):LR rel h0 h' a css xs:=
 ⟨hL.1,fun j y cs hy hc=>hm.ap (only_ext fun k o hn hk=>⟨hn,x k o (fun e=>by subst e;exact hp hn.1) hk⟩) (hL.2 j y cs hy hc)⟩
theorem LR.ext (hm:Mono rel) (x:Ext h h') (hL:LR rel h0 h a css xs):LR rel h0 h' a css xs:=
 ⟨hL.1,fun j y cs hy hc=>hm.ap (only_ext fun k o hn hk=>⟨hn,x k o hk⟩) (hL.2 j y cs hy hc)⟩
def okN (a:Option Addr) (n c:Nat):Prop:=n<=c/\(n=0->a=none/\c=0)
theorem LM.okN (hL:LM e k h0 h a n c css):okN a n c:=by
 refine ⟨?_,hL.emp⟩
 rcases hL.row.2 with ⟨_,h1⟩ | ⟨_,_,_,h1,_,_,h2⟩
 . omega
 . injection h1 with _ _ h1;omega
theorem LM.new (hL:LM e k h0 h a n c css) (hd:∀ b,h b=none->h0 b=none):Ext (only (New h) h') (only (fun b=>New h0 b/\a≠ad b 0) h'):=
 only_ext fun b o hn hk=>⟨⟨hd b hn,fun e=>(hL.own b e).2 hn⟩,hk⟩
theorem flatten_row {k:Nat}:∀ {css:List (List Value)} {j:Nat} {cs:List Value},(∀ (i:Nat) (c:List Value),css[i]? =some c->c.length=k)->css[j]? =some cs->∀ (i:Nat) (v:Value),cs[i]? =some v->css.flatten[j * k+i]? =some v
 | [],j,cs,_,hj,_,_,_=>by simp at hj
 | c::css,0,cs,hl,hj,i,v,hv=>by
   simp at hj;subst hj
   have:i < c.length:=(List.getElem?_eq_some_iff.1 hv).1
   simp [List.getElem?_append_left this,hv]
 | c::css,j+1,cs,hl,hj,i,v,hv=>by
   have h0:=hl 0 c rfl
   have:=flatten_row (k:=k) (css:=css) (j:=j) (cs:=cs) (fun i c hc=>hl (i+1) c (by simpa using hc)) (by simpa using hj) i v hv
   rw [List.flatten_cons,List.getElem?_append_right (by rw [h0,Nat.add_mul];omega),h0,Nat.add_mul,show j * k+1 * k+i - k=j * k+i by omega]
   exact this
theorem LM.at (hm:Mono rel) (hM:LM e k h0 h a n c css) (hL:LR rel h0 h a css xs):At k rel (only (New h0) h) a xs:=by
 obtain ⟨h2,h3,h4,h5,_⟩:=hM
 obtain ⟨g0,h6⟩:=hL
 rcases h5.2 with ⟨g1,g2⟩ | ⟨b,cap,rest,g1,g2,g3,g4⟩
 . left;exact List.eq_nil_of_length_eq_zero (by omega)
 . injection g1 with g1 _ _
   right
   refine ⟨b,0,g1,fun j x hx=>?_⟩
   have hj:j < css.length:=by rw [g0];exact (List.getElem?_eq_some_iff.1 hx).1
   have hcs:css[j]? =some css[j]:=List.getElem?_eq_getElem hj
   refine ⟨css[j],?_,hm.ap (only_ext fun b o hn hk=>⟨hn.1,hk⟩) (h6 j x _ hx hcs)⟩
   have hbk:only (New h0) h b=some (.cells ⟨css.flatten++rest⟩ e (0,0)):=only_some.2 ⟨(h2 b g1).1,g2⟩
   refine row_lit hbk fun i v hv=>?_
   have hfl:=flatten_row (k:=k) h4 hcs i v hv
   rw [Nat.zero_add,List.getElem?_append_left (List.getElem?_eq_some_iff.1 hfl).1]
   exact hfl
theorem LM.append {t ty:TypeId} (hu:Tryz.prog.underlying t=some (.slice e)) (he:ElemT e k) {ρ:Operand->Value} {cl:Call} {x y:Operand} (hcl:cl.callee= .builtin .append) (hca:cl.args=#[x,y]) (hts:cl.argTypes=#[t,t])
 {b2:Nat} {cs:List Value} (hx:ρ x=vL a n c) (hy:ρ y=vL (ad b2 0) 1 1) (hL:LM e k h0 h a n c css) (hb2:h b2=none) (hh:h'=h.put b2 (.cells ⟨cs⟩ e (0,0))) (hl:cs.length=k) (h1:allOne cs=true) (hn:n<=10000000)
 (hd:∀ b,h b=none->h0 b=none):
 Raw Tryz.prog (execOp ρ (mkO (.call cl) ty)) h' fun w h2=>∃ b cap,w=vL (ad b 0) (n+1) cap/\(∀ q o,h0 q≠none->h q=some o->h2 q=some o)/\(∀ q,h2 q=none->h q=none)/\h0 b=none/\(∀ q o,ad b 0≠ad q 0->h q=some o->h2 q=some o)/\
  LM e k h0 h2 (ad b 0) (n+1) cap (css++[cs])/\∀ {α:Type} {rel:PHeap->α->List Value->Prop} {xs:List α} {v:α},Mono rel->LR rel h0 h a css xs->rel (only (fun b=>New h0 b/\a≠ad b 0) h) v cs->LR rel h0 h2 (ad b 0) (css++[cs]) (xs++[v]):=by
 have hL':=hL.ext (Put.ext hh hb2)
 obtain ⟨g2,g3,g4,g5,_⟩:=hL'
 refine Raw.mono (append_one hu he hcl hca hts hx hy g5 (Put.at hh) hl h1 hn) ?_
 rintro w h2 ⟨b,cap,rfl,ho,hb,hc⟩
 have hbh:h' b≠none->a=ad b 0:=fun hne=>hb.resolve_left hne
 have hb0:h0 b=none:=by
  rcases hb with hb | hb
  . refine hd b ?_
    cases e:h b with
    | none=>rfl
    | some o=>rw [Put.ext hh hb2 b o e] at hb;cases hb
  . exact (g2 b hb).1
 have hown:h2 b≠none:=by
  rcases ho.2 with ⟨g,_⟩ | ⟨b',c',rest,g,g',_⟩
  . cases g
  . injection g with g;injection g with g;injection g with g;subst g;rw [g'];exact fun e=>by cases e
 have hq:∀ q o,q≠b->h q=some o->h2 q=some o:=fun q o e hqo=>by rw [hc q e];exact Put.ext hh hb2 q o hqo
 refine ⟨b,cap,rfl,fun q o hq0 hqo=>hq q o (fun e=>by subst e;exact hq0 hb0) hqo,fun q hqn=>?_,hb0,fun q o e hqo=>hq q o (fun e'=>by subst e';exact e rfl) hqo,⟨fun q hq=>?_,by simp [g3],fun j cs' hj=>?_,by simpa using ho,fun e=>absurd e (Nat.succ_ne_zero _)⟩,fun {α rel xs v} hm hR hrel=>⟨by simp [hR.1],fun j x cs' hx hcs=>?_⟩⟩
 . by_cases e:q=b
   . subst e;exact absurd hqn hown
   . cases e2:h q with
     | none=>rfl
     | some o=>rw [hq q o e e2] at hqn;cases hqn
 . injection hq with hq;injection hq with hq;subst hq
   exact ⟨hb0,hown⟩
 . by_cases hj':j < css.length
   . rw [List.getElem?_append_left hj'] at hj;exact g4 j cs' hj
   . have:j=css.length:=by
      have:=(List.getElem?_eq_some_iff.1 hj).1
      simp at this;omega
     subst this
     have e2:cs'=cs:=by simpa using hj.symm
     subst e2;exact hl
 . have hold:Ext (only (fun b=>New h0 b/\a≠ad b 0) h) (only (fun q=>New h0 q/\ad b 0≠ad q 0) h2):=only_ext fun q o hq' hqo=>by
    have hqb:q≠b:=fun e=>by
     subst e
     exact hq'.2 (hbh (by rw [Put.ext hh hb2 q o hqo];exact fun e=>by cases e))
    exact ⟨⟨hq'.1,fun e=>hqb (by injection e with e;injection e with e;exact e.symm)⟩,hq q o hqb hqo⟩
   by_cases hj:j < xs.length
   . rw [List.getElem?_append_left hj] at hx
     rw [List.getElem?_append_left (by rw [hR.1];exact hj)] at hcs
     exact hm.ap hold (hR.2 j x cs' hx hcs)
   . have:j=xs.length:=by
      have:=(List.getElem?_eq_some_iff.1 hx).1
      simp at this;omega
     subst this
     have e1:x=v:=by simpa using hx.symm
     have e2:cs'=cs:=by rw [←hR.1] at hcs;simpa using hcs.symm
     subst e1;subst e2
     exact hm.ap hold hrel
end
end Go.Proofs.D
namespace Go.Sx
def zT (t:Tok):Tok:={ t with pos:=0 }
mutual
def zE:E->E
 | .mk k o n v t a _=> .mk k o n v t (zEs a) 0
def zEs:List E->List E
 | []=>[]
 | e::l=>zE e::zEs l
end
mutual
def zS:S->S
 | .mk k n a b e _=> .mk k n (zEs a) (zSs b) (zSs e) 0
def zSs:List S->List S
 | []=>[]
 | e::l=>zS e::zSs l
end
def zG (g:G):G:={ g with pos:=0 }
def zF (f:F):F:={ f with body:=zSs f.body,pos:=0 }
def zP (p:Pg):Pg:=⟨p.globals.map zG,p.funcs.map zF⟩
def zR {α:Type} (g:α->α):R α->R α
 | .error e=> .error (e.1,0)
 | .ok (x,ts,d)=> .ok (g x,ts.map zT,d)
theorem zEs_append:∀ (l m:List E),zEs (l++m)=zEs l++zEs m
 | [],m=>rfl
 | e::l,m=>by simp [zEs,zEs_append l m]
theorem zSs_append:∀ (l m:List S),zSs (l++m)=zSs l++zSs m
 | [],m=>rfl
 | e::l,m=>by simp [zSs,zSs_append l m]
theorem zR_bind {α β:Type} {g:α->α} {g':β->β} {r r':R α} {F F':α->List Tok->Int->R β} (h:r'=zR g r) (hF:∀ x ts d,F' (g x) (ts.map zT) d=zR g' (F x ts d)):bindR r' F'=zR g' (bindR r F):=by
 subst h
 match r with
 | .error e=>rfl
 | .ok (x,ts,d)=>exact hF x ts d
theorem zR_ite {α:Type} {g:α->α} {c:Prop} [Decidable c] {a a' b b':R α} (h1:c->a'=zR g a) (h2:¬c->b'=zR g b):(if c then a' else b')=zR g (if c then a else b):=by
 split
 . exact h1 (by assumption)
 . exact h2 (by assumption)
theorem hd_z (ts:List Tok):hd (ts.map zT)=zT (hd ts):=by cases ts <;> rfl
theorem tail_z (ts:List Tok):(ts.map zT).tail=ts.tail.map zT:=by cases ts <;> rfl
theorem isT_z (ts:List Tok) (t:Bytes):isT (ts.map zT) t=isT ts t:=by rw [isT,hd_z];rfl
theorem isK_z (ts:List Tok) (k:Nat):isK (ts.map zT) k=isK ts k:=by rw [isK,hd_z];rfl
theorem text_z (t:Tok):(zT t).text=t.text:=rfl
theorem value_z (t:Tok):(zT t).value=t.value:=rfl
theorem bytes_z (t:Tok):(zT t).bytes=t.bytes:=rfl
theorem pos_z (t:Tok):(zT t).pos=0:=rfl
theorem takeT_z (t:Bytes) (ts:List Tok) (d:Int):takeT t (ts.map zT) d=zR id (takeT t ts d):=by
 simp only [takeT,isT_z,hd_z,tail_z,pos_z]
 repeat' refine zR_ite (fun _=>?_) (fun _=>?_)
 all_goals rfl
theorem takeK_z (k:Nat) (ts:List Tok) (d:Int):takeK k (ts.map zT) d=zR zT (takeK k ts d):=by
 simp only [takeK,isK_z,hd_z,tail_z,pos_z]
 refine zR_ite (fun _=>rfl) (fun _=>rfl)
structure ZX (f:Nat):Prop where
 bin:∀ lv ts d,pBin f lv (ts.map zT) d=zR zE (pBin f lv ts d)
 loop:∀ lv e ts d,pLoop f lv (zE e) (ts.map zT) d=zR zE (pLoop f lv e ts d)
 un:∀ ts d,pUn f (ts.map zT) d=zR zE (pUn f ts d)
 prim:∀ ts d,pPrim f (ts.map zT) d=zR zE (pPrim f ts d)
 name:∀ ts d,pName f (ts.map zT) d=zR zE (pName f ts d)
 call:∀ t ts d,pCall f (zT t) (ts.map zT) d=zR zE (pCall f t ts d)
 args:∀ ts d,pArgs f (ts.map zT) d=zR zEs (pArgs f ts d)
 more:∀ l ts d,pMore f (zEs l) (ts.map zT) d=zR zEs (pMore f l ts d)
theorem zx:∀ f,ZX f
 | 0=>by constructor <;> intros <;> simp only [pBin,pLoop,pUn,pPrim,pName,pCall,pArgs,pMore] <;> rfl
 | f+1=>by
   have ih:=zx f
   constructor
   . intro lv ts d
     rw [pBin,pBin]
     exact zR_ite (fun _=>ih.un _ _) (fun _=>zR_bind (ih.bin _ _ _) fun _ _ _=>ih.loop _ _ _ _)
   . intro lv e ts d
     rw [pLoop,pLoop]
     simp only [isK_z,hd_z,tail_z,text_z,pos_z]
     exact zR_ite (fun _=>zR_bind (ih.bin _ _ _) fun _ _ _=>ih.loop _ (.mk 7 _ _ _ _ [_,_] _) _ _) (fun _=>rfl)
   . intro ts d
     rw [pUn,pUn]
     simp only [isT_z,hd_z,tail_z,text_z,pos_z]
     exact zR_ite (fun _=>zR_bind (ih.un _ _) fun _ _ _=>rfl) (fun _=>ih.prim _ _)
   . intro ts d
     rw [pPrim,pPrim]
     simp only [isK_z,hd_z,tail_z,text_z,pos_z,value_z,bytes_z]
     exact zR_ite (fun _=>rfl) (fun _=>zR_ite (fun _=>rfl) (fun _=>zR_ite (fun _=>ih.name _ _) (fun _=>zR_bind (takeT_z _ _ _) fun _ _ _=>zR_bind (ih.bin _ _ _) fun _ _ _=>zR_bind (takeT_z _ _ _) fun _ _ _=>rfl)))
   . intro ts d
     rw [pName,pName]
     simp only [isT_z,hd_z,tail_z,text_z,pos_z]
     exact zR_ite (fun _=>ih.call _ _ _) (fun _=>zR_ite (fun _=>zR_bind (takeT_z _ _ _) fun _ _ _=>zR_bind (ih.bin _ _ _) fun _ _ _=>zR_bind (takeT_z _ _ _) fun _ _ _=>rfl) (fun _=>rfl))
   . intro t ts d
     rw [pCall,pCall]
     exact zR_bind (takeT_z _ _ _) fun _ _ _=>zR_bind (ih.args _ _) fun _ _ _=>zR_bind (takeT_z _ _ _) fun _ _ _=>rfl
   . intro ts d
     rw [pArgs,pArgs]
     simp only [isT_z]
     exact zR_ite (fun _=>rfl) (fun _=>zR_bind (ih.bin _ _ _) fun e _ _=>ih.more [e] _ _)
   . intro l ts d
     rw [pMore,pMore]
     simp only [isT_z]
     exact zR_ite (fun _=>zR_bind (takeT_z _ _ _) fun _ _ _=>zR_bind (ih.bin _ _ _) fun e _ _=>by
      have:=ih.more (l++[e])
      rw [zEs_append] at this
      exact this _ _) (fun _=>rfl)
theorem pCond_z (f:Nat) (ts:List Tok) (d:Int):pCond f (ts.map zT) d=zR zE (pCond f ts d):=
 zR_bind (takeT_z _ _ _) fun _ _ _=>zR_bind ((zx f).bin _ _ _) fun _ _ _=>zR_bind (takeT_z _ _ _) fun _ _ _=>rfl
structure ZS (f:Nat):Prop where
 block:∀ ts d,pBlock f (ts.map zT) d=zR zSs (pBlock f ts d)
 stmts:∀ l ts d,pStmts f (zSs l) (ts.map zT) d=zR zSs (pStmts f l ts d)
 stmt:∀ ts d,pStmt f (ts.map zT) d=zR zS (pStmt f ts d)
 ifs:∀ ts d,pIf f (ts.map zT) d=zR zS (pIf f ts d)
 named:∀ ts d,pNamed f (ts.map zT) d=zR zS (pNamed f ts d)
theorem zs:∀ f,ZS f
 | 0=>by constructor <;> intros <;> simp only [pBlock,pStmts,pStmt,pIf,pNamed] <;> rfl
 | f+1=>by
   have ih:=zs f
   have ix:=zx f
   constructor
   . intro ts d
     rw [pBlock,pBlock]
     exact zR_bind (takeT_z _ _ _) fun _ _ _=>ih.stmts [] _ _
   . intro l ts d
     rw [pStmts,pStmts]
     simp only [isT_z]
     exact zR_ite (fun _=>zR_bind (takeT_z _ _ _) fun _ _ _=>rfl) (fun _=>zR_bind (ih.stmt _ _) fun e _ _=>by
      have:=ih.stmts (l++[e])
      rw [zSs_append] at this
      exact this _ _)
   . intro ts d
     rw [pStmt,pStmt]
     simp only [isK_z,isT_z,hd_z,tail_z,text_z,pos_z]
     refine zR_ite (fun _=>ih.named _ _) (fun _=>zR_ite (fun _=>zR_bind (takeK_z _ _ _) fun _ _ _=>?_) (fun _=>zR_ite (fun _=>ih.ifs _ _) (fun _=>zR_ite (fun _=>zR_bind (pCond_z _ _ _) fun _ _ _=>zR_bind (ih.block _ _) fun _ _ _=>rfl) (fun _=>zR_ite (fun _=>zR_ite (fun _=>zR_bind (takeT_z _ _ _) fun _ _ _=>rfl) (fun _=>zR_bind (ix.bin _ _ _) fun _ _ _=>zR_bind (takeT_z _ _ _) fun _ _ _=>rfl)) (fun _=>zR_ite (fun _=>zR_bind (takeT_z _ _ _) fun _ _ _=>rfl) (fun _=>zR_ite (fun _=>zR_bind (takeT_z _ _ _) fun _ _ _=>rfl) (fun _=>rfl)))))))
     simp only [isT_z]
     exact zR_ite (fun _=>zR_bind (takeT_z _ _ _) fun _ _ _=>zR_bind (ix.bin _ _ _) fun _ _ _=>zR_bind (takeT_z _ _ _) fun _ _ _=>rfl) (fun _=>zR_bind (takeT_z _ _ _) fun _ _ _=>rfl)
   . intro ts d
     rw [pIf,pIf]
     simp only [hd_z,tail_z,pos_z]
     refine zR_bind (pCond_z _ _ _) fun _ _ _=>zR_bind (ih.block _ _) fun _ _ _=>?_
     simp only [isT_z,tail_z]
     exact zR_ite (fun _=>zR_ite (fun _=>zR_bind (ih.ifs _ _) fun _ _ _=>rfl) (fun _=>zR_bind (ih.block _ _) fun _ _ _=>rfl)) (fun _=>rfl)
   . intro ts d
     rw [pNamed,pNamed]
     simp only [isT_z,hd_z,tail_z,text_z,pos_z]
     exact zR_ite (fun _=>zR_bind (takeT_z _ _ _) fun _ _ _=>zR_bind (ix.bin _ _ _) fun _ _ _=>zR_bind (takeT_z _ _ _) fun _ _ _=>rfl) (fun _=>zR_ite (fun _=>zR_bind (takeT_z _ _ _) fun _ _ _=>zR_bind (ix.bin _ _ _) fun _ _ _=>zR_bind (takeT_z _ _ _) fun _ _ _=>zR_bind (takeT_z _ _ _) fun _ _ _=>zR_bind (ix.bin _ _ _) fun _ _ _=>zR_bind (takeT_z _ _ _) fun _ _ _=>rfl) (fun _=>zR_bind (ix.call _ _ _) fun _ _ _=>zR_bind (takeT_z _ _ _) fun _ _ _=>rfl))
theorem pGlobal_z (ts:List Tok) (d:Int):pGlobal (ts.map zT) d=zR zG (pGlobal ts d):=by
 rw [pGlobal,pGlobal]
 refine zR_bind (takeT_z _ _ _) fun _ _ _=>zR_bind (takeK_z _ _ _) fun _ _ _=>?_
 simp only [isT_z]
 exact zR_ite (fun _=>zR_bind (takeT_z _ _ _) fun _ _ _=>zR_bind (takeK_z _ _ _) fun _ _ _=>zR_bind (takeT_z _ _ _) fun _ _ _=>rfl) (fun _=>zR_ite (fun _=>zR_bind (takeT_z _ _ _) fun _ _ _=>zR_bind (takeK_z _ _ _) fun _ _ _=>zR_bind (takeT_z _ _ _) fun _ _ _=>zR_bind (takeT_z _ _ _) fun _ _ _=>rfl) (fun _=>zR_bind (takeT_z _ _ _) fun _ _ _=>rfl))
theorem pMoreP_z:∀ (f:Nat) (l:List Bytes) (ts:List Tok) (d:Int),pMoreP f l (ts.map zT) d=zR id (pMoreP f l ts d)
 | 0,l,ts,d=>by simp only [pMoreP];rfl
 | f+1,l,ts,d=>by
   rw [pMoreP,pMoreP]
   simp only [isT_z]
   exact zR_ite (fun _=>zR_bind (takeT_z _ _ _) fun _ _ _=>zR_bind (takeK_z _ _ _) fun _ _ _=>pMoreP_z f _ _ _) (fun _=>rfl)
theorem pParams_z (f:Nat) (ts:List Tok) (d:Int):pParams f (ts.map zT) d=zR id (pParams f ts d):=by
 rw [pParams,pParams]
 simp only [isT_z]
 exact zR_ite (fun _=>rfl) (fun _=>zR_bind (takeK_z _ _ _) fun _ _ _=>pMoreP_z f _ _ _)
theorem pFunc_z (f:Nat) (ts:List Tok) (d:Int):pFunc f (ts.map zT) d=zR zF (pFunc f ts d):=
 zR_bind (takeT_z _ _ _) fun _ _ _=>zR_bind (takeK_z _ _ _) fun _ _ _=>zR_bind (takeT_z _ _ _) fun _ _ _=>zR_bind (pParams_z f _ _) fun _ _ _=>zR_bind (takeT_z _ _ _) fun _ _ _=>zR_bind ((zs f).block _ _) fun _ _ _=>rfl
theorem pProg_z:∀ (f:Nat) (p:Pg) (ts:List Tok) (d:Int),pProg f (zP p) (ts.map zT) d=zR zP (pProg f p ts d)
 | 0,p,ts,d=>by simp only [pProg];rfl
 | f+1,p,ts,d=>by
   rw [pProg,pProg]
   simp only [isK_z,isT_z]
   refine zR_ite (fun _=>rfl) (fun _=>zR_ite (fun _=>zR_bind (pGlobal_z _ _) fun g _ _=>?_) (fun _=>zR_bind (pFunc_z _ _ _) fun g _ _=>?_))
   . have:=pProg_z f ⟨p.globals++[g],p.funcs⟩
     simp only [zP,List.map_append,List.map_cons,List.map_nil] at this
     exact this _ _
   . have:=pProg_z f ⟨p.globals,p.funcs++[g]⟩
     simp only [zP,List.map_append,List.map_cons,List.map_nil] at this
     exact this _ _
def zX:Except (Nat×Nat) Pg->Except Nat Pg
 | .error e=> .error e.1
 | .ok p=> .ok (zP p)
end Go.Sx
namespace Go.Sx
def Le0 {α:Type} (r r':R α):Prop:=(∃ i,r= .error (0,i))∨r=r'
theorem Le0.rf {α:Type} {r:R α}:Le0 r r:= .inr rfl
theorem Le0.bind {α β:Type} {r r':R α} {F F':α->List Tok->Int->R β} (h:Le0 r r') (hF:∀ x ts d,Le0 (F x ts d) (F' x ts d)):Le0 (bindR r F) (bindR r' F'):=by
 rcases h with ⟨i,rfl⟩ | rfl
 . exact .inl ⟨i,rfl⟩
 . match r with
   | .error e=>exact .inr rfl
   | .ok (x,ts,d)=>exact hF x ts d
theorem Le0.ite {α:Type} {c:Prop} [Decidable c] {a a' b b':R α} (h1:Le0 a a') (h2:Le0 b b'):Le0 (if c then a else b) (if c then a' else b'):=by
 split
 . exact h1
 . exact h2
structure MX (f g:Nat):Prop where
 bin:∀ lv ts d,Le0 (pBin f lv ts d) (pBin g lv ts d)
 loop:∀ lv e ts d,Le0 (pLoop f lv e ts d) (pLoop g lv e ts d)
 un:∀ ts d,Le0 (pUn f ts d) (pUn g ts d)
 prim:∀ ts d,Le0 (pPrim f ts d) (pPrim g ts d)
 name:∀ ts d,Le0 (pName f ts d) (pName g ts d)
 call:∀ t ts d,Le0 (pCall f t ts d) (pCall g t ts d)
 args:∀ ts d,Le0 (pArgs f ts d) (pArgs g ts d)
 more:∀ l ts d,Le0 (pMore f l ts d) (pMore g l ts d)
theorem mx:∀ f g,f<=g->MX f g
 | 0,g,_=>by constructor <;> intros <;> simp only [pBin,pLoop,pUn,pPrim,pName,pCall,pArgs,pMore] <;> exact .inl ⟨0,rfl⟩
 | f+1,0,h=>by omega
 | f+1,g+1,h=>by
   have ih:=mx f g (by omega)
   constructor
   . intro lv ts d
     rw [pBin,pBin]
     exact Le0.ite (ih.un _ _) (Le0.bind (ih.bin _ _ _) fun _ _ _=>ih.loop _ _ _ _)
   . intro lv e ts d
     rw [pLoop,pLoop]
     exact Le0.ite (Le0.bind (ih.bin _ _ _) fun _ _ _=>ih.loop _ _ _ _) Le0.rf
   . intro ts d
     rw [pUn,pUn]
     exact Le0.ite (Le0.bind (ih.un _ _) fun _ _ _=>Le0.rf) (ih.prim _ _)
   . intro ts d
     rw [pPrim,pPrim]
     exact Le0.ite Le0.rf (Le0.ite Le0.rf (Le0.ite (ih.name _ _) (Le0.bind Le0.rf fun _ _ _=>Le0.bind (ih.bin _ _ _) fun _ _ _=>Le0.rf)))
   . intro ts d
     rw [pName,pName]
     exact Le0.ite (ih.call _ _ _) (Le0.ite (Le0.bind Le0.rf fun _ _ _=>Le0.bind (ih.bin _ _ _) fun _ _ _=>Le0.rf) Le0.rf)
   . intro t ts d
     rw [pCall,pCall]
     exact Le0.bind Le0.rf fun _ _ _=>Le0.bind (ih.args _ _) fun _ _ _=>Le0.rf
   . intro ts d
     rw [pArgs,pArgs]
     exact Le0.ite Le0.rf (Le0.bind (ih.bin _ _ _) fun _ _ _=>ih.more _ _ _)
   . intro l ts d
     rw [pMore,pMore]
     exact Le0.ite (Le0.bind Le0.rf fun _ _ _=>Le0.bind (ih.bin _ _ _) fun _ _ _=>ih.more _ _ _) Le0.rf
theorem pCond_m {f g:Nat} (h:f<=g) (ts:List Tok) (d:Int):Le0 (pCond f ts d) (pCond g ts d):=
 Le0.bind Le0.rf fun _ _ _=>Le0.bind ((mx f g h).bin _ _ _) fun _ _ _=>Le0.rf
structure MS (f g:Nat):Prop where
 block:∀ ts d,Le0 (pBlock f ts d) (pBlock g ts d)
 stmts:∀ l ts d,Le0 (pStmts f l ts d) (pStmts g l ts d)
 stmt:∀ ts d,Le0 (pStmt f ts d) (pStmt g ts d)
 ifs:∀ ts d,Le0 (pIf f ts d) (pIf g ts d)
 named:∀ ts d,Le0 (pNamed f ts d) (pNamed g ts d)
theorem ms:∀ f g,f<=g->MS f g
 | 0,g,_=>by constructor <;> intros <;> simp only [pBlock,pStmts,pStmt,pIf,pNamed] <;> exact .inl ⟨0,rfl⟩
 | f+1,0,h=>by omega
 | f+1,g+1,h=>by
   have ih:=ms f g (by omega)
   have ix:=mx f g (by omega)
   have ic:=fun ts d=>pCond_m (f:=f) (g:=g) (by omega) ts d
   constructor
   . intro ts d
     rw [pBlock,pBlock]
     exact Le0.bind Le0.rf fun _ _ _=>ih.stmts _ _ _
   . intro l ts d
     rw [pStmts,pStmts]
     exact Le0.ite Le0.rf (Le0.bind (ih.stmt _ _) fun _ _ _=>ih.stmts _ _ _)
   . intro ts d
     rw [pStmt,pStmt]
     exact Le0.ite (ih.named _ _) (Le0.ite (Le0.bind Le0.rf fun _ _ _=>Le0.ite (Le0.bind Le0.rf fun _ _ _=>Le0.bind (ix.bin _ _ _) fun _ _ _=>Le0.rf) Le0.rf) (Le0.ite (ih.ifs _ _) (Le0.ite (Le0.bind (ic _ _) fun _ _ _=>Le0.bind (ih.block _ _) fun _ _ _=>Le0.rf) (Le0.ite (Le0.ite Le0.rf (Le0.bind (ix.bin _ _ _) fun _ _ _=>Le0.rf)) Le0.rf))))
   . intro ts d
     rw [pIf,pIf]
     exact Le0.bind (ic _ _) fun _ _ _=>Le0.bind (ih.block _ _) fun _ _ _=>Le0.ite (Le0.ite (Le0.bind (ih.ifs _ _) fun _ _ _=>Le0.rf) (Le0.bind (ih.block _ _) fun _ _ _=>Le0.rf)) Le0.rf
   . intro ts d
     rw [pNamed,pNamed]
     exact Le0.ite (Le0.bind Le0.rf fun _ _ _=>Le0.bind (ix.bin _ _ _) fun _ _ _=>Le0.rf) (Le0.ite (Le0.bind Le0.rf fun _ _ _=>Le0.bind (ix.bin _ _ _) fun _ _ _=>Le0.bind Le0.rf fun _ _ _=>Le0.bind Le0.rf fun _ _ _=>Le0.bind (ix.bin _ _ _) fun _ _ _=>Le0.rf) (Le0.bind (ix.call _ _ _) fun _ _ _=>Le0.rf))
theorem pMoreP_m:∀ (f g:Nat) (l:List Bytes) (ts:List Tok) (d:Int),f<=g->Le0 (pMoreP f l ts d) (pMoreP g l ts d)
 | 0,g,l,ts,d,_=>by simp only [pMoreP];exact .inl ⟨0,rfl⟩
 | f+1,0,l,ts,d,h=>by omega
 | f+1,g+1,l,ts,d,h=>by
   rw [pMoreP,pMoreP]
   exact Le0.ite (Le0.bind Le0.rf fun _ _ _=>Le0.bind Le0.rf fun _ _ _=>pMoreP_m f g _ _ _ (by omega)) Le0.rf
theorem pFunc_m {f g:Nat} (h:f<=g) (ts:List Tok) (d:Int):Le0 (pFunc f ts d) (pFunc g ts d):=
 Le0.bind Le0.rf fun _ _ _=>Le0.bind Le0.rf fun _ _ _=>Le0.bind Le0.rf fun _ _ _=>Le0.bind (by
  rw [pParams,pParams]
  exact Le0.ite Le0.rf (Le0.bind Le0.rf fun _ _ _=>pMoreP_m _ _ _ _ _ h)) fun _ _ _=>Le0.bind Le0.rf fun _ _ _=>Le0.bind ((ms f g h).block _ _) fun _ _ _=>Le0.rf
theorem pProg_m:∀ (f g:Nat) (p:Pg) (ts:List Tok) (d:Int),f<=g->Le0 (pProg f p ts d) (pProg g p ts d)
 | 0,g,l,ts,d,_=>by simp only [pProg];exact .inl ⟨0,rfl⟩
 | f+1,0,l,ts,d,h=>by omega
 | f+1,g+1,l,ts,d,h=>by
   rw [pProg,pProg]
   exact Le0.ite Le0.rf (Le0.ite (Le0.bind Le0.rf fun _ _ _=>pProg_m f g _ _ _ (by omega)) (Le0.bind (pFunc_m (by omega) _ _) fun _ _ _=>pProg_m f g _ _ _ (by omega)))
end Go.Sx
namespace Go.Sx
theorem lead_le (p:UInt8->Bool):∀ (l:Bytes),lead p l<=l.length
 | []=>Nat.le_refl _
 | c::l=>by
   rw [lead]
   split
   . have:=lead_le p l;rw [List.length_cons];omega
   . omega
theorem lead_take {p:UInt8->Bool} {w:UInt8} (hw:p w=false) (m:Bytes):∀ (l:Bytes),lead p (l.take (lead p l)++w::m)=lead p l
 | []=>by simp [lead,hw]
 | c::l=>by
   by_cases h:p c=true
   . have e:lead p (c::l)=lead p l+1:=by rw [lead,if_pos h]
     rw [e,List.take_succ_cons,List.cons_append,lead,if_pos h,lead_take hw m l]
   . have e:lead p (c::l)=0:=by rw [lead,if_neg h]
     rw [e,List.take_zero,List.nil_append,lead,hw];rfl
theorem charS_take {r:Bytes} {b:UInt8} {n:Nat} (h:charS r= .ok (b,n)):1<=n/\n<=r.length/\∀ m,charS (r.take n++m)= .ok (b,n):=by
 unfold charS at h
 repeat' split at h
 all_goals first
  | (exfalso;cases h;done)
  | (injection h with h;injection h with h1 h2;subst h1;subst h2;refine ⟨by omega,by simp,fun m=>?_⟩;simp_all [charS])
theorem strS_take:∀ (f:Nat) (r:Bytes) (m:Bytes) (k:Nat),strS f r= .ok (m,k)->k < r.length/\r.drop k=34::r.drop (k+1)/\∀ f' x,k < f'->strS f' (r.take k++34::x)= .ok (m,k)
 | 0,r,m,k,h=>by cases h
 | f+1,[],m,k,h=>by cases h
 | f+1,c::l,m,k,h=>by
   rw [strS] at h
   split at h
   . rename_i hc
     have hc:c=34:=by simpa using hc
     subst hc
     injection h with h;injection h with h1 h2;subst h1;subst h2
     refine ⟨by simp,rfl,fun f' x hf=>?_⟩
     obtain ⟨g,rfl⟩:∃ g,f'=g+1:=⟨f' - 1,by omega⟩
     rw [List.take_zero,List.nil_append,strS];rfl
   . rename_i hc
     cases hch:charS (c::l) with
     | error e=>
       obtain ⟨e1,e2⟩:=e
       rw [hch] at h
       split at h <;> first | (cases h;done) | simp_all
     | ok bn=>
       obtain ⟨b,n⟩:=bn
       rw [hch] at h
       obtain ⟨hn1,hn2,hn3⟩:=charS_take hch
       simp only at h
       cases hst:strS f ((c::l).drop n) with
       | error e=>
         obtain ⟨e1,e2⟩:=e
         rw [hst] at h
         split at h <;> first | (cases h;done) | simp_all
       | ok mk=>
         obtain ⟨m',k'⟩:=mk
         rw [hst] at h
         injection h with h;injection h with h1 h2;subst h1;subst h2
         obtain ⟨i1,i2,i3⟩:=strS_take f _ _ _ hst
         rw [List.length_drop] at i1
         refine ⟨by omega,?_,fun f' x hf=>?_⟩
         . rw [List.drop_drop,List.drop_drop] at i2
           rw [Nat.add_comm k' n,i2,Nat.add_assoc]
         . obtain ⟨g,rfl⟩:∃ g,f'=g+1:=⟨f' - 1,by omega⟩
           have e1:(c::l).take (k'+n)++34::x=(c::l).take n++(((c::l).drop n).take k'++34::x):=by
            rw [←List.append_assoc,Nat.add_comm k' n,List.take_add]
           have e2:∃ y,(c::l).take (k'+n)++34::x=c::y:=by
            obtain ⟨q,hq⟩:∃ q,k'+n=q+1:=⟨k'+n - 1,by omega⟩
            exact ⟨_,by rw [hq,List.take_succ_cons,List.cons_append]⟩
           obtain ⟨y,hy⟩:=e2
           have e3:charS (c::y)= .ok (b,n):=by rw [←hy,e1];exact hn3 _
           have e4:(c::y).drop n=((c::l).drop n).take k'++34::x:=by
            rw [←hy,e1,List.drop_append_of_le_length (by rw [List.length_take];omega),List.drop_eq_nil_of_le (by rw [List.length_take];omega),List.nil_append]
           rw [hy,strS,if_neg hc,e3]
           simp only
           rw [e4,i3 g x (by omega)]
def isW (w:UInt8):Prop:=w=32∨w=10∨w=9
theorem isW_al {w:UInt8} (h:isW w):isAl w=false:=by rcases h with rfl | rfl | rfl <;> rfl
theorem mark_w {c w:UInt8} (h:isW w):marks.contains [c,w]=false:=by
 rcases h with rfl | rfl | rfl <;> simp [marks]
theorem take_app {r m:Bytes} {n:Nat} (h:n<=r.length):(r.take n++m).take n=r.take n:=by
 rw [List.take_append_of_le_length (by rw [List.length_take];omega),List.take_take,Nat.min_self]
theorem oneS_take {r:Bytes} {kd len v:Nat} {b:Bytes} (h:oneS r= .ok (kd,len,v,b)):1<=len/\len<=r.length/\(∃ c l,r=c::l/\¬isW c/\(c=47->len=1))/\∀ w m,isW w->oneS (r.take len++w::m)= .ok (kd,len,v,b):=by
 match r,h with
 | c::l,h=>
 by_cases hL:isLetter c=true
 . have hw:¬isW c/\c≠47:=⟨fun hw=>by (rcases hw with rfl | rfl | rfl <;> cases hL),fun hw=>by (subst hw;cases hL)⟩
   have hk:∃ q,lead isAl (c::l)=q+1:=⟨_,by rw [lead,if_pos (by simp [isAl,hL])]⟩
   have hle:=lead_le isAl (c::l)
   have key:len=lead isAl (c::l)/\∀ w m,isW w->oneS ((c::l).take (lead isAl (c::l))++w::m)= .ok (kd,len,v,b):=by
    simp only [oneS,if_pos hL] at h
    have hlen:len=lead isAl (c::l):=by
     repeat' split at h
     all_goals first | (cases h;done) | (cases h;rfl)
    refine ⟨hlen,fun w m hw=>?_⟩
    have e1:=lead_take (isW_al hw) m (c::l)
    have e2:=take_app (m:=w::m) hle
    have hcons:∃ y,(c::l).take (lead isAl (c::l))++w::m=c::y:=by
     obtain ⟨q,hq⟩:=hk
     exact ⟨_,by rw [hq,List.take_succ_cons,List.cons_append]⟩
    obtain ⟨y,hy⟩:=hcons
    rw [hy] at e1 e2 ⊢
    simp only [oneS,if_pos hL,e1,e2]
    exact h
   obtain ⟨q,hq⟩:=hk
   exact ⟨by omega,by omega,⟨c,l,rfl,hw.1,fun e=>absurd e hw.2⟩,by rw [key.1];rw [key.1] at key;exact key.2⟩
 by_cases hD:isDigit c=true
 . have hw:¬isW c/\c≠47:=⟨fun hw=>by (rcases hw with rfl | rfl | rfl <;> cases hD),fun hw=>by (subst hw;cases hD)⟩
   have hk:∃ q,lead isAl (c::l)=q+1:=⟨_,by rw [lead,if_pos (by simp [isAl,hD])]⟩
   have hle:=lead_le isAl (c::l)
   have key:len=lead isAl (c::l)/\∀ w m,isW w->oneS ((c::l).take (lead isAl (c::l))++w::m)= .ok (kd,len,v,b):=by
    simp only [oneS,if_neg hL,if_pos hD] at h
    have hlen:len=lead isAl (c::l):=by
     repeat' split at h
     all_goals first | (cases h;done) | (cases h;rfl)
    refine ⟨hlen,fun w m hw=>?_⟩
    have e1:=lead_take (isW_al hw) m (c::l)
    have e2:=take_app (m:=w::m) hle
    have hcons:∃ y,(c::l).take (lead isAl (c::l))++w::m=c::y:=by
     obtain ⟨q,hq⟩:=hk
     exact ⟨_,by rw [hq,List.take_succ_cons,List.cons_append]⟩
    obtain ⟨y,hy⟩:=hcons
    rw [hy] at e1 e2 ⊢
    simp only [oneS,if_neg hL,if_pos hD,e1,e2]
    exact h
   obtain ⟨q,hq⟩:=hk
   exact ⟨by omega,by omega,⟨c,l,rfl,hw.1,fun e=>absurd e hw.2⟩,by rw [key.1];rw [key.1] at key;exact key.2⟩
 by_cases h39:(c == 39)=true
 . simp only [oneS,if_neg hL,if_neg hD,if_pos h39] at h
   have hc:c=39:=by simpa using h39
   split at h
   . cases h
   rename_i hh
   cases hch:charS l with
   | error e=>
     obtain ⟨e1,e2⟩:=e
     rw [hch] at h
     split at h <;> first | (cases h;done) | simp_all
   | ok bn=>
     obtain ⟨b',n⟩:=bn
     rw [hch] at h
     obtain ⟨hn1,hn2,hn3⟩:=charS_take hch
     simp only at h
     cases hd:l.drop n with
     | nil=>rw [hd] at h;cases h
     | cons d y=>
       rw [hd] at h
       simp only at h
       split at h
       . rename_i hd39
         have hd39:d=39:=by simpa using hd39
         subst hd39
         injection h with h;injection h with h1 h;injection h with h2 h;injection h with h3 h4
         subst h1;subst h2;subst h3;subst h4
         have hnl:n < l.length:=by have:=congrArg List.length hd;rw [List.length_drop,List.length_cons] at this;omega
         refine ⟨by omega,by rw [List.length_cons];omega,⟨c,l,rfl,fun hw=>by (subst hc;rcases hw with hw | hw | hw <;> cases hw),fun e=>by (subst hc;cases e)⟩,fun w m hw=>?_⟩
         have e1:(c::l).take (n+2)++w::m=c::(l.take n++39::w::m):=by
          have:l.take (n+1)=l.take n++[39]:=by rw [List.take_add,hd];rfl
          rw [List.take_succ_cons,this];simp
         have e2:(l.take n++39::w::m).head?=l.head?:=by
          obtain ⟨q,rfl⟩:∃ q,n=q+1:=⟨n - 1,by omega⟩
          cases l with
          | nil=>simp at hn2
          | cons a l=>rfl
         have e3:(l.take n++39::w::m).drop n=39::w::m:=by
          rw [List.drop_append_of_le_length (by rw [List.length_take];omega),List.drop_eq_nil_of_le (by rw [List.length_take];omega),List.nil_append]
         rw [e1]
         simp only [oneS,if_neg hL,if_neg hD,if_pos h39,e2,if_neg hh,hn3,e3]
         rfl
       . cases h
 by_cases h34:(c == 34)=true
 . simp only [oneS,if_neg hL,if_neg hD,if_neg h39,if_pos h34] at h
   have hc:c=34:=by simpa using h34
   cases hst:strS (l.length+1) l with
   | error e=>
     obtain ⟨e1,e2⟩:=e
     rw [hst] at h
     split at h <;> first | (cases h;done) | simp_all
   | ok mk=>
     obtain ⟨m',k⟩:=mk
     rw [hst] at h
     obtain ⟨hn1,hn2,hn3⟩:=strS_take _ _ _ _ hst
     simp only at h
     split at h
     . cases h
     rename_i h200
     injection h with h;injection h with h1 h;injection h with h2 h;injection h with h3 h4
     subst h1;subst h2;subst h3;subst h4
     refine ⟨by omega,by rw [List.length_cons];omega,⟨c,l,rfl,fun hw=>by (subst hc;rcases hw with hw | hw | hw <;> cases hw),fun e=>by (subst hc;cases e)⟩,fun w m hw=>?_⟩
     have e1:(c::l).take (k+2)++w::m=c::(l.take k++34::w::m):=by
      have:l.take (k+1)=l.take k++[34]:=by rw [List.take_add,hn2];rfl
      rw [List.take_succ_cons,this];simp
     rw [e1]
     simp only [oneS,if_neg hL,if_neg hD,if_neg h39,if_pos h34]
     rw [hn3 _ _ (by rw [List.length_append,List.length_take];omega)]
     simp only [if_neg h200]
 . simp only [oneS,if_neg hL,if_neg hD,if_neg h39,if_neg h34] at h
   have hw:¬isW c:=fun hw=>by
    have e1:marks.contains ((c::l).take 2)=false:=by
     cases l with
     | nil=>rcases hw with rfl | rfl | rfl <;> rfl
     | cons d l=>rcases hw with rfl | rfl | rfl <;> simp [marks]
    have e2:marks.contains ((c::l).take 1)=false:=by rcases hw with rfl | rfl | rfl <;> rfl
    rw [if_neg (by rw [e1];simp),if_neg (by rw [e2];simp)] at h
    cases h
   by_cases m2:marks.contains ((c::l).take 2)=true
   . rw [if_pos m2] at h
     injection h with h;injection h with h1 h;injection h with h2 h;injection h with h3 h4
     subst h1;subst h2;subst h3;subst h4
     cases l with
     | nil=>
       refine ⟨by simp,by simp,⟨c,[],rfl,hw,fun _=>rfl⟩,fun w m hw=>?_⟩
       have m1:marks.contains [c]=true:=m2
       have e:oneS (c::w::m)= .ok (5,1,0,[]):=by
        simp only [oneS,if_neg hL,if_neg hD,if_neg h39,if_neg h34,List.take_succ_cons,List.take_zero,mark_w hw,m1]
        rfl
       exact e
     | cons d l=>
       have m2:marks.contains [c,d]=true:=m2
       refine ⟨by simp,by simp,⟨c,d::l,rfl,hw,fun e=>?_⟩,fun w m hw=>?_⟩
       . subst e;simp [marks] at m2
       . have e:oneS (c::d::w::m)= .ok (5,2,0,[]):=by
          simp only [oneS,if_neg hL,if_neg hD,if_neg h39,if_neg h34,List.take_succ_cons,List.take_zero,m2]
          rfl
         exact e
   . rw [if_neg m2] at h
     by_cases m1:marks.contains ((c::l).take 1)=true
     . rw [if_pos m1] at h
       injection h with h;injection h with h1 h;injection h with h2 h;injection h with h3 h4
       subst h1;subst h2;subst h3;subst h4
       refine ⟨Nat.le_refl _,by simp,⟨c,l,rfl,hw,fun _=>rfl⟩,fun w m hw=>?_⟩
       have m1:marks.contains [c]=true:=m1
       have e:oneS (c::w::m)= .ok (5,1,0,[]):=by
        simp only [oneS,if_neg hL,if_neg hD,if_neg h39,if_neg h34,List.take_succ_cons,List.take_zero,mark_w hw,m1]
        rfl
       exact e
     . rw [if_neg m1] at h;cases h
end Go.Sx
namespace Go.Sx
mutual
theorem E.ind {P:E->Prop} (h:∀ k op nm v tx args pos,(∀ e∈args,P e)->P (.mk k op nm v tx args pos)):∀ e,P e
 | .mk k op nm v tx args pos=>h k op nm v tx args pos (E.inds h args)
theorem E.inds {P:E->Prop} (h:∀ k op nm v tx args pos,(∀ e∈args,P e)->P (.mk k op nm v tx args pos)):∀ (l:List E),∀ e∈l,P e
 | [],e,he=>by cases he
 | a::l,e,he=>by
   rcases List.mem_cons.1 he with he | he
   . rw [he];exact E.ind h a
   . exact E.inds h l e he
end
mutual
theorem S.ind {P:S->Prop} (h:∀ k nm args body els pos,(∀ e∈body,P e)->(∀ e∈els,P e)->P (.mk k nm args body els pos)):∀ e,P e
 | .mk k nm args body els pos=>h k nm args body els pos (S.inds h body) (S.inds h els)
theorem S.inds {P:S->Prop} (h:∀ k nm args body els pos,(∀ e∈body,P e)->(∀ e∈els,P e)->P (.mk k nm args body els pos)):∀ (l:List S),∀ e∈l,P e
 | [],e,he=>by cases he
 | a::l,e,he=>by
   rcases List.mem_cons.1 he with he | he
   . rw [he];exact S.ind h a
   . exact S.inds h l e he
end
def digs (n:Nat):Bytes:=if n < 10 then [UInt8.ofNat (48+n)] else digs (n / 10)++[UInt8.ofNat (48+n % 10)]
termination_by n
decreasing_by omega
theorem dig_toNat {n:Nat} (h:n < 10):(UInt8.ofNat (48+n)).toNat=48+n:=by
 rw [UInt8.toNat_ofNat'];omega
theorem dig_is {n:Nat} (h:n < 10):isDigit (UInt8.ofNat (48+n))=true:=by
 simp only [isDigit,dig_toNat h,Bool.and_eq_true,decide_eq_true_eq];omega
theorem decNum_app (l:Bytes) (c:UInt8):decNum (l++[c])=10 * decNum l+(c.toNat - 48):=by simp [decNum,List.foldl_append]
theorem digs_spec (n:Nat):decNum (digs n)=n/\(digs n).all isDigit=true/\1<=(digs n).length/\(n≠0->(digs n).head?≠some 48):=by
 induction n using Nat.strongRecOn with
 | ind n ih=>
   rw [digs]
   split
   . rename_i hn
     refine ⟨?_,by rw [List.all_cons,dig_is hn];rfl,by simp,fun h0=>?_⟩
     . show 10 * 0+((UInt8.ofNat (48+n)).toNat - 48)=n
       rw [dig_toNat hn];omega
     . intro e
       simp only [List.head?_cons,Option.some.injEq] at e
       have:=congrArg UInt8.toNat e
       rw [dig_toNat hn] at this
       have:(48:UInt8).toNat=48:=rfl
       omega
   . rename_i hn
     obtain ⟨i1,i2,i3,i4⟩:=ih (n / 10) (by omega)
     have hm:n % 10 < 10:=Nat.mod_lt _ (by decide)
     refine ⟨?_,?_,by simp,fun h0=>?_⟩
     . rw [decNum_app,i1,dig_toNat hm];omega
     . rw [List.all_append,i2,List.all_cons,dig_is hm];rfl
     . have h5:=i4 (by omega)
       cases hd:digs (n / 10) with
       | nil=>rw [hd] at i3;simp at i3
       | cons a l=>rw [hd] at h5;exact h5
theorem digs_zero:digs 0=[48]:=by rw [digs];rfl
theorem digs_head (n:Nat):∃ c l,digs n=c::l/\isDigit c=true:=by
 obtain ⟨_,h2,h3,_⟩:=digs_spec n
 cases h:digs n with
 | nil=>rw [h] at h3;simp at h3
 | cons c l=>rw [h] at h2;simp only [List.all_cons,Bool.and_eq_true] at h2;exact ⟨c,l,rfl,h2.1⟩
theorem numS_digs {n:Nat} (h:n < 4294967296):numS (digs n)= .ok n:=by
 obtain ⟨h1,h2,h3,h4⟩:=digs_spec n
 unfold numS
 split
 . rename_i l e
   rw [e] at h2
   simp [isDigit] at h2
 . rw [h2,h1,if_neg,if_neg (by omega)]
   simp only [Bool.not_true,Bool.false_or,Bool.and_eq_true,decide_eq_true_eq,not_and]
   intro hl he
   by_cases h0:n=0
   . subst h0;rw [digs_zero] at hl;simp at hl
   . exact h4 h0 (by simpa using he)
theorem isAl_digit {c:UInt8} (h:isDigit c=true):isAl c=true:=by simp [isAl,h]
theorem not_letter {c:UInt8} (h:isDigit c=true):isLetter c=false:=by
 simp only [isDigit,Bool.and_eq_true,decide_eq_true_eq] at h
 simp only [isLetter,Bool.or_eq_false_iff,Bool.and_eq_false_iff,decide_eq_false_iff_not,beq_eq_false_iff_ne]
 omega
theorem lead_all {p:UInt8->Bool} {x:Bytes} (hx:∀ c m,x=c::m->p c=false):∀ (l:Bytes),l.all p=true->lead p (l++x)=l.length
 | [],_=>by
   cases x with
   | nil=>rfl
   | cons c m=>rw [List.nil_append,lead,hx c m rfl];rfl
 | c::l,h=>by
   simp only [List.all_cons,Bool.and_eq_true] at h
   rw [List.cons_append,lead,if_pos h.1,lead_all hx l h.2];rfl
def hexD (n:Nat):UInt8:=UInt8.ofNat (if n < 10 then 48+n else 87+n)
def qc (c:UInt8):Bytes:=
 if c == 10 then [92,110] else if c == 9 then [92,116] else if c == 0 then [92,48] else if c == 92 || c == 34 then [92,c]
 else if decide (c.toNat < 32) || decide (126 < c.toNat) then [92,120,hexD (c.toNat / 16),hexD (c.toNat % 16)] else [c]
def qcs:Bytes->Bytes
 | []=>[]
 | c::l=>qc c++qcs l
def quoteS (s:Bytes):Bytes:=34::(qcs s++[34])
theorem hex_all:∀ n:Fin 256,isHex (hexD (n.val / 16))=true/\isHex (hexD (n.val % 16))=true/\16 * hexV (hexD (n.val / 16))+hexV (hexD (n.val % 16))=n.val:=by decide+kernel
theorem qc_char (c:UInt8) (m:Bytes):charS (qc c++m)= .ok (c,(qc c).length)/\(∃ a l,qc c=a::l/\(a == 34)=false):=by
 unfold qc
 split
 . rename_i h;obtain rfl:c=10:=by simpa using h
   exact ⟨rfl,_,_,rfl,rfl⟩
 split
 . rename_i h;obtain rfl:c=9:=by simpa using h
   exact ⟨rfl,_,_,rfl,rfl⟩
 split
 . rename_i h;obtain rfl:c=0:=by simpa using h
   exact ⟨rfl,_,_,rfl,rfl⟩
 split
 . rename_i h
   have h:c=92∨c=34:=by simpa using h
   rcases h with rfl | rfl
   . exact ⟨rfl,_,_,rfl,rfl⟩
   . exact ⟨rfl,_,_,rfl,rfl⟩
 rename_i h92
 have h92:c≠92/\c≠34:=by simpa using h92
 split
 . have hx:=hex_all ⟨c.toNat,c.toNat_lt⟩
   refine ⟨?_,_,_,rfl,rfl⟩
   simp only [List.cons_append,List.nil_append,charS,hx.1,hx.2.1,hx.2.2,Bool.not_true]
   simp
 . rename_i hp
   refine ⟨?_,_,_,rfl,by simpa using h92.2⟩
   rw [List.cons_append,charS]
   . rw [if_neg hp];rfl
   . intro e
     exact h92.1 e
theorem strS_qcs (m:Bytes):∀ (s:Bytes) (f:Nat),(qcs s).length < f->strS f (qcs s++34::m)= .ok (s,(qcs s).length)
 | [],f,h=>by
   obtain ⟨g,rfl⟩:∃ g,f=g+1:=⟨f - 1,by omega⟩
   rw [qcs,List.nil_append,strS];rfl
 | c::s,f,h=>by
   obtain ⟨g,rfl⟩:∃ g,f=g+1:=⟨f - 1,by omega⟩
   obtain ⟨h1,a,l,h2,h3⟩:=qc_char c (qcs s++34::m)
   rw [qcs,List.append_assoc]
   have hl:(qc c).length=l.length+1:=by rw [h2];rfl
   have hd:(qc c++(qcs s++34::m)).drop (qc c).length=qcs s++34::m:=by rw [List.drop_append_of_le_length (Nat.le_refl _),List.drop_length,List.nil_append]
   rw [qcs,List.length_append] at h
   have ih:=strS_qcs m s g (by omega)
   generalize hy:qc c++(qcs s++34::m)=y at *
   obtain ⟨y',rfl⟩:∃ y',y=a::y':=⟨_,by rw [←hy,h2,List.cons_append]⟩
   rw [strS,if_neg (by rw [h3];simp),h1]
   simp only
   rw [hd,ih,List.length_append,Nat.add_comm]
inductive Lx:Bytes->List Tok->Prop where
 | nil:Lx [] []
 | blank {c:UInt8} {x:Bytes} {a:List Tok}:isW c->Lx x a->Lx (c::x) a
 | tok {w x:Bytes} {a:List Tok} {kd v:Nat} {b:Bytes}:oneS (w++x)= .ok (kd,w.length,v,b)->skipN false (w++x)=0->Lx x a->Lx (w++x) (⟨kd,w,v,b,0⟩::a)
theorem skip_w {c:UInt8} (h:isW c) (x:Bytes):skipN false (c::x)=skipN false x+1:=by rcases h with rfl | rfl | rfl <;> rfl
theorem Lx.scan:∀ {x:Bytes} {a:List Tok},Lx x a->∀ (f k o:Nat),x.length < f->k+a.length<=4096->∃ us,scanL f k x o= .ok us/\us.map zT=a++[⟨0,[],0,[],0⟩]:=by
 intro x a hx
 induction hx with
 | nil=>
   intro f k o hf hk
   obtain ⟨g,rfl⟩:∃ g,f=g+1:=⟨f - 1,by omega⟩
   exact ⟨_,rfl,rfl⟩
 | @blank c x a hc _ ih=>
   intro f k o hf hk
   obtain ⟨g,rfl⟩:∃ g,f=g+1:=⟨f - 1,by omega⟩
   obtain ⟨us,h1,h2⟩:=ih (g+1) k (o+1) (by rw [List.length_cons] at hf;omega) hk
   refine ⟨us,?_,h2⟩
   rw [←h1]
   simp only [scanL,skip_w hc,List.drop_succ_cons]
   have:o+(skipN false x+1)=o+1+skipN false x:=by omega
   rw [this]
 | @tok w x a kd v b h1 h2 _ ih=>
   intro f k o hf hk
   obtain ⟨g,rfl⟩:∃ g,f=g+1:=⟨f - 1,by omega⟩
   rw [List.length_cons] at hk
   obtain ⟨g1,g2,⟨c,l,hcl,_⟩,_⟩:=oneS_take h1
   rw [List.length_append] at hf
   obtain ⟨us,i1,i2⟩:=ih g (k+1) (o+w.length) (by omega) (by omega)
   refine ⟨⟨kd,w,v,b,o⟩::us,?_,by rw [List.map_cons,i2];rfl⟩
   have e1:(w++x).drop w.length=x:=by rw [List.drop_append_of_le_length (Nat.le_refl _),List.drop_length,List.nil_append]
   have e2:(w++x).take w.length=w:=by rw [List.take_append_of_le_length (Nat.le_refl _),List.take_length]
   generalize w++x=y at *
   subst hcl
   simp only [scanL,h2,List.drop_zero,Nat.add_zero,h1,e1,e2,i1]
   rw [if_neg (by omega)]
end Go.Sx
namespace Go.Proofs.D
open Go Go.Den
noncomputable section
set_option maxRecDepth 100000
set_option maxHeartbeats 4000000
abbrev o109_3:Op:= .call { callee:=(.builtin .append),args:=#[(.tmp 26),(.tmp 27)],argTypes:=#[45,45] }
abbrev o109_5:Op:= .call { callee:=(.builtin .append),args:=#[(.tmp 32),(.tmp 33)],argTypes:=#[45,45] }
abbrev o109_7:Op:= .call { callee:=(.builtin .append),args:=#[(.tmp 38),(.tmp 39)],argTypes:=#[45,45] }
abbrev o109_10:Op:= .call { callee:=(.builtin .append),args:=#[(.tmp 48),(.tmp 50)],argTypes:=#[45,45] }
abbrev o109_15:Op:= .call { callee:=(.builtin .append),args:=#[(.tmp 59),(.tmp 66)],argTypes:=#[45,45] }
abbrev o109_16:Op:= .call { callee:=(.builtin .append),args:=#[(.tmp 19),(.tmp 21)],argTypes:=#[45,45] }
abbrev o109_18:Op:= .call { callee:=(.builtin .append),args:=#[(.tmp 69),(.tmp 70)],argTypes:=#[45,45] }
def d109:DCode:=up ⟨[(28, .c (.one false [.slice])),(34, .c (.one false [.slice])),(40, .c (.one false [.slice])),(51, .c (.one false [.slice])),(67, .c (.one false [.slice])),(22, .c (.one false [.slice])),(71, .c (.one false [.slice]))],[],[(14,59,[(4, .slice),(13,qi)],[])]⟩ (lw nf Tryz.f109)
theorem low109:lw nf Tryz.f109=some (eC d109):=by kernel_rfl
def R109 (l1:Bs) (h:PHeap) (Q:Value->PHeap->Prop):Prop:=
 br (decide ((l1.length:Int) > 200))
 (Q (vT [vS [],vI 5]) h)
 (alc h [vU 34] 5 fun b1 h_1=>
 ∃ (I_1:Nat->OA->Nat->Nat->Int->PHeap->Prop),(∃ m2,I_1 m2 (ad b1 0) 1 1 (0:Int) h_1)/\
 ∀ m1 a1 n1 k1 i1 h_2,I_1 m1 a1 n1 k1 i1 h_2->
 br (decide (i1 < (l1.length:Int)))
 (0<=i1/\∃ c1,(l1)[(i1).toNat]? =some c1/\
 br ((c1.toNat:Int) == 10)
 (alc h_2 [vU 92,vU 110] 5 fun b2 h_3=>
 rq [(26,vL a1 n1 k1),(27,vL (ad b2 0) 2 2)] o109_3 45 h_3 fun v_1 h_4=>
 ∃ a2 n2 k2,v_1=vL a2 n2 k2/\
 ∃ m3,m3 < m1/\I_1 m3 a2 n2 k2 (IntKind.i64.wrap (i1+1)) h_4/\
 True)
 (br ((c1.toNat:Int) == 9)
 (alc h_2 [vU 92,vU 116] 5 fun b3 h_5=>
 rq [(32,vL a1 n1 k1),(33,vL (ad b3 0) 2 2)] o109_5 45 h_5 fun v_2 h_6=>
 ∃ a3 n3 k3,v_2=vL a3 n3 k3/\
 ∃ m4,m4 < m1/\I_1 m4 a3 n3 k3 (IntKind.i64.wrap (i1+1)) h_6/\
 True)
 (br ((c1.toNat:Int) == 0)
 (alc h_2 [vU 92,vU 48] 5 fun b4 h_7=>
 rq [(38,vL a1 n1 k1),(39,vL (ad b4 0) 2 2)] o109_7 45 h_7 fun v_3 h_8=>
 ∃ a4 n4 k4,v_3=vL a4 n4 k4/\
 ∃ m5,m5 < m1/\I_1 m5 a4 n4 k4 (IntKind.i64.wrap (i1+1)) h_8/\
 True)
 (br ((c1.toNat:Int) == 92)
 (alc h_2 [vU 92,vU (c1.toNat:Int)] 5 fun b5 h_9=>
 rq [(48,vL a1 n1 k1),(50,vL (ad b5 0) 2 2)] o109_10 45 h_9 fun v_4 h_10=>
 ∃ a5 n5 k5,v_4=vL a5 n5 k5/\
 ∃ m6,m6 < m1/\I_1 m6 a5 n5 k5 (IntKind.i64.wrap (i1+1)) h_10/\
 True)
 (br ((c1.toNat:Int) == 34)
 (alc h_2 [vU 92,vU (c1.toNat:Int)] 5 fun b6 h_11=>
 rq [(48,vL a1 n1 k1),(50,vL (ad b6 0) 2 2)] o109_10 45 h_11 fun v_5 h_12=>
 ∃ a6 n6 k6,v_5=vL a6 n6 k6/\
 ∃ m7,m7 < m1/\I_1 m7 a6 n6 k6 (IntKind.i64.wrap (i1+1)) h_12/\
 True)
 (br (decide ((c1.toNat:Int) < 32))
 (0<=(Int.fdiv (c1.toNat:Int) 16)/\∃ c2,([48,49,50,51,52,53,54,55,56,57,97,98,99,100,101,102]:List UInt8)[(Int.fdiv (c1.toNat:Int) 16).toNat]? =some c2/\
 0<=(IntKind.u8.wrap ((BitVec.ofInt 8 (c1.toNat:Int) &&& BitVec.ofInt 8 15).toNat:Int))/\∃ c3,([48,49,50,51,52,53,54,55,56,57,97,98,99,100,101,102]:List UInt8)[(IntKind.u8.wrap ((BitVec.ofInt 8 (c1.toNat:Int) &&& BitVec.ofInt 8 15).toNat:Int)).toNat]? =some c3/\
 alc h_2 [vU 92,vU 120,vU (c2.toNat:Int),vU (c3.toNat:Int)] 5 fun b7 h_13=>
 rq [(59,vL a1 n1 k1),(66,vL (ad b7 0) 4 4)] o109_15 45 h_13 fun v_6 h_14=>
 ∃ a7 n7 k7,v_6=vL a7 n7 k7/\
 ∃ m8,m8 < m1/\I_1 m8 a7 n7 k7 (IntKind.i64.wrap (i1+1)) h_14/\
 True)
 (br (decide ((c1.toNat:Int) > 126))
 (0<=(Int.fdiv (c1.toNat:Int) 16)/\∃ c4,([48,49,50,51,52,53,54,55,56,57,97,98,99,100,101,102]:List UInt8)[(Int.fdiv (c1.toNat:Int) 16).toNat]? =some c4/\
 0<=(IntKind.u8.wrap ((BitVec.ofInt 8 (c1.toNat:Int) &&& BitVec.ofInt 8 15).toNat:Int))/\∃ c5,([48,49,50,51,52,53,54,55,56,57,97,98,99,100,101,102]:List UInt8)[(IntKind.u8.wrap ((BitVec.ofInt 8 (c1.toNat:Int) &&& BitVec.ofInt 8 15).toNat:Int)).toNat]? =some c5/\
 alc h_2 [vU 92,vU 120,vU (c4.toNat:Int),vU (c5.toNat:Int)] 5 fun b8 h_15=>
 rq [(59,vL a1 n1 k1),(66,vL (ad b8 0) 4 4)] o109_15 45 h_15 fun v_7 h_16=>
 ∃ a8 n8 k8,v_7=vL a8 n8 k8/\
 ∃ m9,m9 < m1/\I_1 m9 a8 n8 k8 (IntKind.i64.wrap (i1+1)) h_16/\
 True)
 (alc h_2 [vU (c1.toNat:Int)] 5 fun b9 h_17=>
 rq [(19,vL a1 n1 k1),(21,vL (ad b9 0) 1 1)] o109_16 45 h_17 fun v_8 h_18=>
 ∃ a9 n9 k9,v_8=vL a9 n9 k9/\
 ∃ m10,m10 < m1/\I_1 m10 a9 n9 k9 (IntKind.i64.wrap (i1+1)) h_18/\
 True))))))))
 (alc h_2 [vU 34] 5 fun b10 h_19=>
 rq [(69,vL a1 n1 k1),(70,vL (ad b10 0) 1 1)] o109_18 45 h_19 fun v_9 h_20=>
 ∃ a10 n10 k10,v_9=vL a10 n10 k10/\
 ∃ l2,BytesAt h_20 a10 n10 l2/\
 Q (vT [vS l2,vI 0]) h_20))
theorem T109 {l1 h Q} (hR:R109 l1 h Q):Tri Tryz.prog 109 [vS l1] h Q:=
 tri_of_dn mixed Tryz.func109 rfl (by kernel_rfl) low109 (rs:=[.tmp 2, .tmp 3]) (by kernel_rfl) rfl (Eq.mpr (by kernel_rfl) hR)
end
end Go.Proofs.D
namespace Go.Proofs.D
open Go Go.Den Go.Sx
set_option maxRecDepth 100000
theorem and15:∀ c:Fin 256,IntKind.u8.wrap ((BitVec.ofInt 8 (c.val:Int) &&& BitVec.ofInt 8 15).toNat:Int)=((c.val % 16:Nat):Int):=by decide+kernel
theorem hexl:∀ r:Fin 16,([48,49,50,51,52,53,54,55,56,57,97,98,99,100,101,102]:List UInt8)[r.val]? =some (hexD r.val):=by decide+kernel
attribute [local irreducible] IntKind.wrap Tri
theorem und45:Tryz.prog.underlying 45=some (.slice 5):=rfl
theorem elem5:ElemT 5 1:=⟨_,_,rfl,rfl,rfl,rfl,by decide⟩
structure OB (h0 h:PHeap) (a:OA) (n k:Nat) (l:Bytes):Prop where
 own:Own h 5 1 (vL a n k) n (l.map byteV)
 new:∀ b,a=ad b 0->h0 b=none
 ext:Ext h0 h
theorem OB.len {h0 h:PHeap} {a:OA} {n k:Nat} {l:Bytes} (hb:OB h0 h a n k l):n=l.length:=by have:=hb.own.1;simp at this;omega
theorem OB.put {h0 h h':PHeap} {a:OA} {n k b:Nat} {l:Bytes} {o:Obj} (hb:OB h0 h a n k l) (hn:h b=none) (hh:h'=h.put b o):OB h0 h' a n k l:=by
 refine ⟨Own.keep (fun q hq=>?_) hb.own,hb.new,hb.ext.trans (Put.ext hh hn)⟩
 rcases hb.own.2 with ⟨h1,_⟩ | ⟨b',cap,rest,h1,h2,_⟩
 . injection h1 with h1;rw [hq] at h1;cases h1
 . injection h1 with h1;rw [hq] at h1;injection h1 with h1;injection h1 with h1;subst h1
   rw [Put.ext hh hn _ _ h2,h2]
theorem allOne_bytes:∀ (l:Bytes),allOne (l.map byteV)=true
 | []=>rfl
 | c::l=>by simp only [List.map_cons,allOne,allOne_bytes l,Bool.and_true];rfl
theorem OB.append {h0 h h':PHeap} {a:OA} {n k b2:Nat} {l m:Bytes} {ty:TypeId} (hb:OB h0 h a n k l) (hn:h b2=none) (hh:h'=h.put b2 (.cells ⟨m.map byteV⟩ 5 (0,0))) (hm:1<=m.length) (hl:n<=10000000) (hl2:m.length<=1000)
 {ρ:Operand->Value} {cl:Call} {x y:Operand} (hcl:cl.callee= .builtin .append) (hca:cl.args=#[x,y]) (hts:cl.argTypes=#[45,45]) (hx:ρ x=vL a n k) (hy:ρ y=vL (ad b2 0) m.length m.length):
 Raw Tryz.prog (execOp ρ (mkO (.call cl) ty)) h' fun v h2=>∃ a' n' k',v=vL a' n' k'/\OB h0 h2 a' n' k' (l++m):=by
 obtain ⟨i,z,hi,hz,hzc,hk,hby⟩:=elem5
 have hb1:=hb.put hn hh
 have hbk:h' b2=some (.cells ⟨m.map byteV⟩ 5 (0,0)):=Put.at hh
 have hsrc:SrcH Tryz.prog h' i.size 45 (vL (ad b2 0) m.length m.length) m.length (m.map byteV):=SrcH.row und45 (by simp [hk]) (row_lit hbk fun j v hj=>by simpa using hj) (allOne_bytes m)
 have hbig:(16 * (n+m.length)+16384) * i.bytes<=281474976710656:=by
  have:(16 * (n+m.length)+16384) * i.bytes<=(16 * (n+m.length)+16384) * 200:=Nat.mul_le_mul_left _ hby
  omega
 refine Raw.mono (raw_append hcl hca hts und45 hi hz hx hy (by rw [hk];exact hb1.own) hsrc (by rw [hzc,hk]) hm hbig (by omega)) ?_
 rintro v h2 ⟨b,cap,rest,rfl,rfl,hr,hcap,hor⟩
 have hnew:h0 b=none:=by
  rcases hor with hor | ⟨c,hor⟩
  . cases e:h0 b with
    | none=>rfl
    | some o=>rw [hb1.ext _ _ e] at hor;cases hor
  . injection hor with h1;exact hb1.new b h1
 refine ⟨_,_,_,rfl,⟨?_, .inr ⟨b,cap,rest,rfl,?_,by rw [hr,hk],hcap⟩⟩,fun q hq=>?_,fun q o hq=>?_⟩
 . have:=hb.len;simp;omega
 . rw [put_same,List.map_append]
 . injection hq with hq;injection hq with hq;subst hq;exact hnew
 . have hqb:q≠b:=fun e=>by subst e;rw [hnew] at hq;cases hq
   rw [put_ne hqb];exact hb1.ext _ _ hq
theorem OB.bytes {h0 h:PHeap} {a:OA} {n k:Nat} {l:Bytes} (hb:OB h0 h a n k l) (hl:1<=n):BytesAt h a n l:=by
 right
 rcases hb.own.2 with ⟨_,h1⟩ | ⟨b',cap,rest,h1,h2,_⟩
 . omega
 . injection h1 with h1 h3
   subst h1
   exact ⟨b',0,rfl,hb.len.symm,row_lit h2 fun j v hj=>by
    rw [Nat.zero_add,List.getElem?_append_left (List.getElem?_eq_some_iff.1 hj).1];exact hj⟩
theorem qcs_app:∀ (l m:Bytes),qcs (l++m)=qcs l++qcs m
 | [],m=>rfl
 | c::l,m=>by rw [List.cons_append,qcs,qcs,qcs_app l m,List.append_assoc]
theorem qcs_len4:∀ (l:Bytes),(qcs l).length<=4 * l.length
 | []=>Nat.le_refl _
 | c::l=>by
   have h1:(qc c).length<=4:=by
    unfold qc
    repeat' split
    all_goals simp
   have:=qcs_len4 l
   rw [qcs,List.length_append,List.length_cons];omega
theorem u8_beq (c d:UInt8):((c.toNat:Int) == (d.toNat:Int))=(c == d):=by
 rw [Bool.eq_iff_iff,beq_iff_eq,beq_iff_eq]
 constructor
 . intro h;exact UInt8.toNat_inj.1 (by omega)
 . rintro rfl;rfl
theorem hex_ok (c:UInt8):(0<=(Int.fdiv (c.toNat:Int) 16)/\([48,49,50,51,52,53,54,55,56,57,97,98,99,100,101,102]:List UInt8)[(Int.fdiv (c.toNat:Int) 16).toNat]? =some (hexD (c.toNat / 16)))/\
 0<=(IntKind.u8.wrap ((BitVec.ofInt 8 (c.toNat:Int) &&& BitVec.ofInt 8 15).toNat:Int))/\([48,49,50,51,52,53,54,55,56,57,97,98,99,100,101,102]:List UInt8)[(IntKind.u8.wrap ((BitVec.ofInt 8 (c.toNat:Int) &&& BitVec.ofInt 8 15).toNat:Int)).toNat]? =some (hexD (c.toNat % 16)):=by
 have hc:=c.toNat_lt
 have e1:Int.fdiv (c.toNat:Int) 16=((c.toNat / 16:Nat):Int):=by rw [Int.fdiv_eq_ediv_of_nonneg _ (by decide)];rfl
 have e2:=and15 ⟨c.toNat,hc⟩
 simp only at e2
 rw [e1,e2,Int.toNat_natCast,Int.toNat_natCast]
 exact ⟨⟨by omega,hexl ⟨c.toNat / 16,by omega⟩⟩,by omega,hexl ⟨c.toNat % 16,by omega⟩⟩
theorem quote_t (s:Bytes) (hl:s.length<=200) (h:PHeap):Tri Tryz.prog 109 [vS s] h fun v h'=>v=vT [vS (quoteS s),vI 0]/\Ext h h':=by
 refine T109 ?_
 unfold R109
 refine br_neg (by simp;omega) ?_
 intro b1 hb1 h1 hh1
 have hb0:OB h h1 (ad b1 0) 1 1 [34]:=⟨⟨rfl, .inr ⟨b1,1,[],rfl,Put.at hh1,rfl,Nat.le_refl _⟩⟩,fun q hq=>by injection hq with hq;injection hq with hq;subst hq;exact hb1,Put.ext hh1 hb1⟩
 refine ⟨fun m a n k i h'=>∃ j:Nat,i=j/\j+m=s.length/\OB h h' a n k (34::qcs (s.take j)),⟨s.length,0,rfl,by omega,hb0⟩,?_⟩
 rintro m a n k _ h2 ⟨j,rfl,hjm,hb2⟩
 have hn:=hb2.len
 have h4:=qcs_len4 (s.take j)
 rw [List.length_take] at h4
 rw [List.length_cons] at hn
 refine br_split (fun e=>?_) (fun e=>?_)
 . have hj:j < s.length:=by have:=of_decide_eq_true e;omega
   refine ⟨by omega,s[j],by rw [Int.toNat_natCast];exact List.getElem?_eq_getElem hj,?_⟩
   have htake:qcs (s.take (j+1))=qcs (s.take j)++qc s[j]:=by
    rw [←List.take_append_getElem hj,qcs_app]
    simp [qcs]
   generalize s[j]=c at *
   have next:∀ (m2:Bytes) (x y:Operand) (cl:Call) (ρ:Operand->Value),qc c=m2->1<=m2.length->m2.length<=1000->cl.callee= .builtin .append->cl.args=#[x,y]->cl.argTypes=#[45,45]->ρ x=vL a n k->
    ∀ b2,h2 b2=none->ρ y=vL (ad b2 0) m2.length m2.length->∀ h3,h3=h2.put b2 (.cells ⟨m2.map byteV⟩ 5 (0,0))->
    Raw Tryz.prog (execOp ρ (mkO (.call cl) 45)) h3 fun v_1 h_4=>∃ (a2:OA) (n2 k2:Nat),v_1=vL a2 n2 k2/\
     ∃ (m3:Nat),m3 < m/\(∃ j':Nat,IntKind.i64.wrap ((j:Nat)+1)=j'/\j'+m3=s.length/\OB h h_4 a2 n2 k2 (34::qcs (s.take j')))/\True:=by
    intro m2 x y cl ρ hq hm1 hm2 hcl hca hts hx b2 hb hy h3 hh3
    refine Raw.mono (hb2.append hb hh3 hm1 (by omega) hm2 hcl hca hts hx hy) ?_
    rintro v h4 ⟨a',n',k',rfl,hb4⟩
    refine ⟨_,_,_,rfl,m - 1,by omega,⟨j+1,?_,by omega,?_⟩,trivial⟩
    . rw [wrap64 (by omega) (by omega)];rfl
    . rw [htake,hq];exact hb4
   refine br_split (fun e1=>?_) (fun e1=>?_)
   . have e1:c=10:=by rw [show (10:Int)=((10:UInt8).toNat:Int) from rfl,u8_beq] at e1;simpa using e1
     subst e1
     intro b2 hb h3 hh3
     exact next [92,110] _ _ _ _ rfl (by decide) (by decide) rfl rfl rfl rfl b2 hb rfl h3 hh3
   have n10:(c == 10)=false:=by rw [show (10:Int)=((10:UInt8).toNat:Int) from rfl,u8_beq] at e1;exact e1
   refine br_split (fun e2=>?_) (fun e2=>?_)
   . have e2:c=9:=by rw [show (9:Int)=((9:UInt8).toNat:Int) from rfl,u8_beq] at e2;simpa using e2
     subst e2
     intro b2 hb h3 hh3
     exact next [92,116] _ _ _ _ rfl (by decide) (by decide) rfl rfl rfl rfl b2 hb rfl h3 hh3
   have n9:(c == 9)=false:=by rw [show (9:Int)=((9:UInt8).toNat:Int) from rfl,u8_beq] at e2;exact e2
   refine br_split (fun e3=>?_) (fun e3=>?_)
   . have e3:c=0:=by rw [show (0:Int)=((0:UInt8).toNat:Int) from rfl,u8_beq] at e3;simpa using e3
     subst e3
     intro b2 hb h3 hh3
     exact next [92,48] _ _ _ _ rfl (by decide) (by decide) rfl rfl rfl rfl b2 hb rfl h3 hh3
   have n0:(c == 0)=false:=by rw [show (0:Int)=((0:UInt8).toNat:Int) from rfl,u8_beq] at e3;exact e3
   refine br_split (fun e4=>?_) (fun e4=>?_)
   . have e4:c=92:=by rw [show (92:Int)=((92:UInt8).toNat:Int) from rfl,u8_beq] at e4;simpa using e4
     subst e4
     intro b2 hb h3 hh3
     exact next [92,92] _ _ _ _ rfl (by decide) (by decide) rfl rfl rfl rfl b2 hb rfl h3 hh3
   have n92:(c == 92)=false:=by rw [show (92:Int)=((92:UInt8).toNat:Int) from rfl,u8_beq] at e4;exact e4
   refine br_split (fun e5=>?_) (fun e5=>?_)
   . have e5:c=34:=by rw [show (34:Int)=((34:UInt8).toNat:Int) from rfl,u8_beq] at e5;simpa using e5
     subst e5
     intro b2 hb h3 hh3
     exact next [92,34] _ _ _ _ rfl (by decide) (by decide) rfl rfl rfl rfl b2 hb rfl h3 hh3
   have n34:(c == 34)=false:=by rw [show (34:Int)=((34:UInt8).toNat:Int) from rfl,u8_beq] at e5;exact e5
   obtain ⟨⟨x1,x2⟩,x3,x4⟩:=hex_ok c
   have qhex:(c.toNat < 32∨126 < c.toNat)->qc c=[92,120,hexD (c.toNat / 16),hexD (c.toNat % 16)]:=by
    intro hc
    unfold qc
    rw [n10,n9,n0,n92,n34]
    simp only [Bool.or_false,Bool.false_eq_true,if_false]
    rw [if_pos (by simpa using hc)]
   refine br_split (fun e6=>?_) (fun e6=>?_)
   . have e6:c.toNat < 32:=by have:=of_decide_eq_true e6;omega
     refine ⟨x1,_,x2,x3,_,x4,?_⟩
     intro b2 hb h3 hh3
     exact next [92,120,hexD (c.toNat / 16),hexD (c.toNat % 16)] _ _ _ _ (qhex (.inl e6)) (by simp) (by simp) rfl rfl rfl rfl b2 hb rfl h3 hh3
   refine br_split (fun e7=>?_) (fun e7=>?_)
   . have e7:126 < c.toNat:=by have:=of_decide_eq_true e7;omega
     refine ⟨x1,_,x2,x3,_,x4,?_⟩
     intro b2 hb h3 hh3
     exact next [92,120,hexD (c.toNat / 16),hexD (c.toNat % 16)] _ _ _ _ (qhex (.inr e7)) (by simp) (by simp) rfl rfl rfl rfl b2 hb rfl h3 hh3
   . have e6:32<=c.toNat:=by have:=of_decide_eq_false e6;omega
     have e7:c.toNat<=126:=by have:=of_decide_eq_false e7;omega
     intro b2 hb h3 hh3
     refine next [c] _ _ _ _ ?_ (by simp) (by simp) rfl rfl rfl rfl b2 hb rfl h3 hh3
     unfold qc
     rw [n10,n9,n0,n92,n34]
     simp only [Bool.or_false,Bool.false_eq_true,if_false]
     rw [if_neg (by simp;omega)]
 . have hj:s.length<=j:=by have:=of_decide_eq_false e;omega
   intro b2 hb h3 hh3
   refine Raw.mono (hb2.append (m:=[34]) hb hh3 (by decide) (by omega) (by decide) rfl rfl rfl rfl rfl) ?_
   rintro v h4 ⟨a',n',k',rfl,hb4⟩
   have hn4:=hb4.len
   refine ⟨_,_,_,rfl,_,hb4.bytes (by rw [hn4];simp),?_,hb4.ext⟩
   rw [List.take_of_length_le hj]
   rfl
end Go.Proofs.D
namespace Go.Proofs.D
open Go Go.Den
noncomputable section
set_option maxRecDepth 100000
set_option maxHeartbeats 4000000
abbrev dsk1:List CK:=[qi, .str,qi, .str,qi,qi,qi,qi,qi]
def d87:DCode:=up ⟨[(13, .l [.func]),(17, .c (.tup [(true,dsk1),(false,[.bool])])),(21, .l dsk1)],[],[(11,17,[(10,qi)],[(2,dsk1)])]⟩ (lw nf Tryz.f87)
theorem low87:lw nf Tryz.f87=some (eC d87):=by kernel_rfl
def R87 (l1:Bs) (h:PHeap) (Q:Value->PHeap->Prop):Prop:=
 alc h [vF 134 [] [],vF 135 [] [],vF 136 [] [],vF 137 [] [],vF 138 [] []] 166 fun b1 h_1=>
 ∃ (I_1:Nat->Int->Int->Bs->Int->Bs->Int->Int->Int->Int->Int->PHeap->Prop),(∃ m2,I_1 m2 0 (0:Int) [] (0:Int) [] (0:Int) (0:Int) (0:Int) (0:Int) (0:Int) h_1)/\
 ∀ m1 i1 i2 l2 i3 l3 i4 i5 i6 i7 i8 h_2,I_1 m1 i1 i2 l2 i3 l3 i4 i5 i6 i7 i8 h_2->
 br (decide (i1 < 5))
 (slt (ad b1 0) i1 (5:Nat) fun b2 o1=>
 ∃ f1 x1 y1,h_2.cell b2 (o1+(i1).toNat * 1)=some (vF f1 x1 y1)/\
 tp f1 (x1++[vS l1]++y1) h_2 fun v_1 h_3=>
 ∃ i9 l4 i10 l5 i11 i12 i13 i14 i15 c1,v_1=vT [vA [vI i9,vS l4,vI i10,vS l5,vI i11,vI i12,vI i13,vI i14,vI i15],vB c1]/\
 br c1
 (Q (vT [vA [vI i9,vS l4,vI i10,vS l5,vI i11,vI i12,vI i13,vI i14,vI i15],vB true]) h_3)
 (∃ m3,m3 < m1/\I_1 m3 (IntKind.i64.wrap (i1+1)) i2 l2 i3 l3 i4 i5 i6 i7 i8 h_3/\
 True))
 (Q (vT [vA [vI 0,vS [],vI 0,vS [],vI 0,vI 0,vI 0,vI 0,vI 0],vB false]) h_2)
theorem T87 {l1 h Q} (hR:R87 l1 h Q):Tri Tryz.prog 87 [vS l1] h Q:=
 tri_of_dn mixed Tryz.func87 rfl (by kernel_rfl) low87 (rs:=[.cell 2 true 9, .tmp 3]) (by kernel_rfl) rfl (Eq.mpr (by kernel_rfl) hR)
end
end Go.Proofs.D
namespace Go.Proofs.L
open Go Go.Den Go.Sx
set_option maxRecDepth 100000
attribute [local irreducible] IntKind.wrap marks
theorem character_yes (r:Bytes) (h:PHeap) (ht:EscTab h) (hl:r.length+1<=1000000):Tri Tryz.prog 136 [str (39::r)] h fun v h'=>v=two (attR (39::r) (charO r (oneQ 39 r))) true/\h'=h:=by
 cases hq:oneQ 39 r with
 | error p=>obtain ⟨e,k⟩:=p;have:=character_err r h ht hl e k hq;rw [hq] at this;exact this
 | ok p=>obtain ⟨b,n⟩:=p;have:=character_ok r h ht hl b n hq;rw [hq] at this;exact this
end Go.Proofs.L
namespace Go.Proofs.D
open Go Go.Den Go.Sx Go.Proofs.L
set_option maxRecDepth 100000
attribute [local irreducible] IntKind.wrap Tri marks words
theorem oneS_word {c:UInt8} {r:Bytes} (h:isLetter c=true):oneS (c::r)=wordS (c::r):=by
 simp only [oneS,h,if_true,wordS]
theorem oneS_num {c:UInt8} {r:Bytes} (h0:isLetter c=false) (h:isDigit c=true):oneS (c::r)=numberS (c::r):=by
 simp only [oneS,h0,h,if_true,numberS,Bool.false_eq_true,if_false]
 cases numS (List.take (lead isAl (c::r)) (c::r)) <;> rfl
theorem oneS_char {r:Bytes}:oneS (39::r)=charO r (oneQ 39 r):=by
 have h0:isLetter 39=false:=rfl
 have h1:isDigit 39=false:=rfl
 simp only [oneS,h0,h1,Bool.false_eq_true,if_false,show ((39:UInt8) == 39)=true from rfl,if_true,oneQ]
 by_cases hr:r.head?=some 39
 . simp [hr,charO]
 . have:(r.head? == some 39)=false:=by simpa using hr
   rw [if_neg hr,this]
   simp only [Bool.false_eq_true,if_false]
   cases hc:charS r with
   | error p=>
     obtain ⟨e,k⟩:=p
     by_cases h4:e=4
     . subst h4;simp [charO]
     . simp [charO,h4]
   | ok p=>obtain ⟨b,n⟩:=p;rfl
theorem oneS_quo {r:Bytes}:oneS (34::r)=quoO (strS (r.length+1) r):=by
 have h0:isLetter 34=false:=rfl
 have h1:isDigit 34=false:=rfl
 simp only [oneS,h0,h1,Bool.false_eq_true,if_false,show ((34:UInt8) == 39)=false from rfl,show ((34:UInt8) == 34)=true from rfl,if_true]
 cases hc:strS (r.length+1) r with
 | error p=>
   obtain ⟨e,k⟩:=p
   by_cases h4:e=4
   . subst h4;simp [quoO]
   . simp [quoO,h4]
 | ok p=>obtain ⟨b,n⟩:=p;rfl
theorem oneS_sym {c:UInt8} {r:Bytes} (h0:isLetter c=false) (h1:isDigit c=false) (h2:c≠39) (h3:c≠34):
 (symB (c::r) marks=[]/\oneS (c::r)= .error (6,0))∨(symB (c::r) marks≠[]/\att 5 (symB (c::r) marks) 0 [] (symB (c::r) marks).length 0 0=attR (c::r) (oneS (c::r))):=by
 have e2:(c == 39)=false:=by simpa using h2
 have e3:(c == 34)=false:=by simpa using h3
 rw [symB_eq]
 simp only [oneS,h0,h1,e2,e3,Bool.false_eq_true,if_false]
 cases hm:marks.contains ((c::r).take 2) with
 | true=>
   right
   simp only [if_true,Bool.false_eq_true,if_false]
   refine ⟨by simp,?_⟩
   simp only [attR,aK,aS,aV,aB,aA,aE]
   have:(c::r).take ((c::r).take 2).length=(c::r).take 2:=by
    rw [List.length_take,List.take_eq_take_iff];omega
   rw [this];rfl
 | false=>
   cases hm1:marks.contains ((c::r).take 1) with
   | true=>
     right
     simp only [if_true,Bool.false_eq_true,if_false]
     exact ⟨by simp,rfl⟩
   | false=>left;simp
def FindPost (l:Bytes) (h:PHeap) (v:Value) (h':PHeap):Prop:=
 Go.Proofs.D.Ext h h'/\(v=two (attR l (oneS l)) true∨(v=two att0 false/\oneS l= .error (6,0)))
theorem find_tri (c:UInt8) (r:Bytes) (h:PHeap) (ht:EscTab h) (hl:(c::r).length<=1000000):Tri Tryz.prog 87 [vS (c::r)] h (FindPost (c::r) h):=by
 refine T87 ?_
 unfold R87
 intro b hb h1 hh1
 have hx1:Go.Proofs.D.Ext h h1:=Put.ext hh1 hb
 have hb1:h1 b=some (.cells ⟨[vF 134 [] [],vF 135 [] [],vF 136 [] [],vF 137 [] [],vF 138 [] []]⟩ 166 (0,0)):=Put.at hh1
 clear hh1
 refine ⟨fun m i _ _ _ _ _ _ _ _ _ h'=>∃ n':Nat,i=n'/\n'+m=5/\Ext h1 h'/\(1<=n'->isLetter c=false)/\(2<=n'->isDigit c=false)/\(3<=n'->c≠39)/\(4<=n'->c≠34)/\(5<=n'->oneS (c::r)= .error (6,0)),
  ⟨5,0,rfl,rfl,Ext.refl _,by omega,by omega,by omega,by omega,by omega⟩,?_⟩
 rintro m _ _ _ _ _ _ _ _ _ _ h2 ⟨n,rfl,hnm,hx2,g1,g2,g3,g4,g5⟩
 refine br_split (fun e=>?_) (fun e=>?_)
 . have hn:n < 5:=by
    have:(n:Int) < 5:=by simpa using e
    omega
   refine ⟨b,0,rfl,⟨by omega,by omega⟩,?_⟩
   have hb2:=hx2 _ _ hb1
   have hx02:=hx1.trans hx2
   have yes:∀ (v:Value) (h3:PHeap) (a:Value),v=two a true->a=attR (c::r) (oneS (c::r))->Go.Proofs.D.Ext h2 h3->
    ∃ (token_Kind2:Int) (token_Text2:List UInt8) (token_Value2:Int) (token_Bytes2:List UInt8) (token_Line2 token_Column2 size2 at_2 e_2:Int) (c1:Bool),v=vT [vA [vI token_Kind2,vS token_Text2,vI token_Value2,vS token_Bytes2,vI token_Line2,vI token_Column2,vI size2,vI at_2,vI e_2],vB c1]/\
    br c1 (FindPost (c::r) h (vT [vA [vI token_Kind2,vS token_Text2,vI token_Value2,vS token_Bytes2,vI token_Line2,vI token_Column2,vI size2,vI at_2,vI e_2],vB true]) h3) (∃ (m3:Nat),m3 < m/\(∃ n':Nat,IntKind.i64.wrap ((n:Int)+1)=n'/\n'+m3=5/\Ext h1 h3/\(1<=n'->isLetter c=false)/\(2<=n'->isDigit c=false)/\(3<=n'->c≠39)/\(4<=n'->c≠34)/\(5<=n'->oneS (c::r)= .error (6,0)))/\True):=by
    rintro v h3 a rfl rfl hx
    exact ⟨_,_,_,_,_,_,_,_,_,true,rfl,hx02.trans hx, .inl rfl⟩
   have no:∀ (v:Value) (h3:PHeap),v=two att0 false->Go.Proofs.D.Ext h2 h3->(isLetter c=false)->(1<=n->isDigit c=false)->(2<=n->c≠39)->(3<=n->c≠34)->(4<=n->oneS (c::r)= .error (6,0))->
    ∃ (token_Kind2:Int) (token_Text2:List UInt8) (token_Value2:Int) (token_Bytes2:List UInt8) (token_Line2 token_Column2 size2 at_2 e_2:Int) (c1:Bool),v=vT [vA [vI token_Kind2,vS token_Text2,vI token_Value2,vS token_Bytes2,vI token_Line2,vI token_Column2,vI size2,vI at_2,vI e_2],vB c1]/\
    br c1 (FindPost (c::r) h (vT [vA [vI token_Kind2,vS token_Text2,vI token_Value2,vS token_Bytes2,vI token_Line2,vI token_Column2,vI size2,vI at_2,vI e_2],vB true]) h3) (∃ (m3:Nat),m3 < m/\(∃ n':Nat,IntKind.i64.wrap ((n:Int)+1)=n'/\n'+m3=5/\Ext h1 h3/\(1<=n'->isLetter c=false)/\(2<=n'->isDigit c=false)/\(3<=n'->c≠39)/\(4<=n'->c≠34)/\(5<=n'->oneS (c::r)= .error (6,0)))/\True):=by
    rintro v h3 rfl hx k1 k2 k3 k4 k5
    refine ⟨_,_,_,_,_,_,_,_,_,false,rfl,m - 1,by omega,⟨n+1,?_,by omega,hx2.trans hx,fun _=>k1,fun _=>k2 (by omega),fun _=>k3 (by omega),fun _=>k4 (by omega),fun _=>k5 (by omega)⟩,trivial⟩
    rw [wrap64 (by omega) (by omega)];rfl
   have hcase:n=0∨n=1∨n=2∨n=3∨n=4:=by omega
   rcases hcase with rfl | rfl | rfl | rfl | rfl
   . refine ⟨134,[],[],cell_of hb2 0,?_⟩
     by_cases hc:isLetter c=true
     . refine Tri.mono (word_yes c r h2 hc hl) ?_
       rintro v h3 ⟨rfl,hx⟩
       exact yes _ _ _ rfl (by rw [oneS_word hc]) hx
     . have hc:isLetter c=false:=by simpa using hc
       refine Tri.mono (word_no c r h2 hc) ?_
       rintro v h3 ⟨rfl,rfl⟩
       exact no _ _ rfl (Ext.refl _) hc (by omega) (by omega) (by omega) (by omega)
   . refine ⟨135,[],[],cell_of hb2 1,?_⟩
     have k0:=g1 (by omega)
     by_cases hc:isDigit c=true
     . refine Tri.mono (number_yes c r h2 hc hl) ?_
       rintro v h3 ⟨rfl,rfl⟩
       exact yes _ _ _ rfl (by rw [oneS_num k0 hc]) (Ext.refl _)
     . have hc:isDigit c=false:=by simpa using hc
       refine Tri.mono (number_no c r h2 hc) ?_
       rintro v h3 ⟨rfl,rfl⟩
       exact no _ _ rfl (Ext.refl _) k0 (fun _=>hc) (by omega) (by omega) (by omega)
   . refine ⟨136,[],[],cell_of hb2 2,?_⟩
     have k0:=g1 (by omega)
     have k1:=g2 (by omega)
     by_cases hc:c=39
     . subst hc
       refine Tri.mono (character_yes r h2 (ht.ext hx02) (by simpa using hl)) ?_
       rintro v h3 ⟨rfl,rfl⟩
       exact yes _ _ _ rfl (by rw [oneS_char]) (Ext.refl _)
     . refine Tri.mono (character_no c r h2 hc) ?_
       rintro v h3 ⟨rfl,rfl⟩
       exact no _ _ rfl (Ext.refl _) k0 (fun _=>k1) (fun _=>hc) (by omega) (by omega)
   . refine ⟨137,[],[],cell_of hb2 3,?_⟩
     have k0:=g1 (by omega)
     have k1:=g2 (by omega)
     have k2:=g3 (by omega)
     by_cases hc:c=34
     . subst hc
       refine Tri.mono (quoted_yes r h2 (ht.ext hx02) (by simpa using hl)) ?_
       rintro v h3 ⟨rfl,hx⟩
       exact yes _ _ _ rfl (by rw [oneS_quo]) hx
     . refine Tri.mono (quoted_no c r h2 hc) ?_
       rintro v h3 ⟨rfl,rfl⟩
       exact no _ _ rfl (Ext.refl _) k0 (fun _=>k1) (fun _=>k2) (fun _=>hc) (by omega)
   . refine ⟨138,[],[],cell_of hb2 4,?_⟩
     have k0:=g1 (by omega)
     have k1:=g2 (by omega)
     have k2:=g3 (by omega)
     have k3:=g4 (by omega)
     refine Tri.mono (symbol_tri (c::r) h2) ?_
     rintro v h3 ⟨rfl,hx⟩
     rcases oneS_sym k0 k1 k2 k3 with ⟨e1,e2⟩ | ⟨e1,e2⟩
     . rw [e1]
       refine ⟨_,_,_,_,_,_,_,_,_,false,rfl,0,by omega,⟨5,?_,rfl,hx2.trans hx,fun _=>k0,fun _=>k1,fun _=>k2,fun _=>k3,fun _=>e2⟩,trivial⟩
       rw [wrap64 (by omega) (by omega)];rfl
     . have:(!(symB (c::r) marks == []))=true:=by simpa using e1
       rw [this]
       exact yes _ _ _ rfl e2 hx
 . have hn:n=5:=by
    have:¬ (n:Int) < 5:=by simpa using e
    omega
   exact ⟨hx1.trans hx2, .inr ⟨rfl,g5 (by omega)⟩⟩
end Go.Proofs.D
namespace Go.Proofs.D
open Go Go.Den Go.Sx
set_option maxRecDepth 100000
attribute [local irreducible] IntKind.wrap Tri
theorem RE_mono (pl:Nat->List Value) (w:Nat):Mono (RE pl w):=⟨fun x h=>h.ext x⟩
theorem REs_of {pl:Nat->List Value} {w:Nat} {H:PHeap} {b:Nat}:∀ {es:List E} {o:Nat},(∀ (j:Nat) (x:E),es[j]? =some x->∃ cs,H.row b (o+j * w) cs/\RE pl w H x cs)->REs pl w H b o es
 | [],_,_=>trivial
 | e::es,o,hj=>by
   refine ⟨?_,REs_of fun j x hx=>?_⟩
   . obtain ⟨cs,h1,h2⟩:=hj 0 e rfl
     exact ⟨cs,by simpa using h1,h2⟩
   . obtain ⟨cs,h1,h2⟩:=hj (j+1) x (by simpa using hx)
     exact ⟨cs,by rw [show o+w+j * w=o+(j+1) * w by rw [Nat.add_mul];omega];exact h1,h2⟩
theorem At.res {pl:Nat->List Value} {w:Nat} {H:PHeap} {a:Option Addr} {es:List E} (h:At w (RE pl w) H a es):es=[]∨∃ b o,a=ad b o/\REs pl w H b o es:=by
 rcases h with h | ⟨b,o,ha,hj⟩
 . exact .inl h
 . exact .inr ⟨b,o,ha,REs_of hj⟩
theorem elem48:ElemT 48 8:=⟨_,_,rfl,rfl,rfl,rfl,by decide⟩
theorem elem56:ElemT 56 7:=⟨_,_,rfl,rfl,rfl,rfl,by decide⟩
theorem elem9:ElemT 9 1:=⟨_,_,rfl,rfl,rfl,rfl,by decide⟩
theorem elem86:ElemT 86 5:=⟨_,_,rfl,rfl,rfl,rfl,by decide⟩
theorem elem54:ElemT 54 5:=⟨_,_,rfl,rfl,rfl,rfl,by decide⟩
theorem und46:Tryz.prog.underlying 46=some (.slice 48):=rfl
theorem und52:Tryz.prog.underlying 52=some (.slice 56):=rfl
theorem und51:Tryz.prog.underlying 51=some (.slice 9):=rfl
theorem und23:Tryz.prog.underlying 23=some (.slice 86):=rfl
theorem und24:Tryz.prog.underlying 24=some (.slice 54):=rfl
section
variable {K : PK} {s : Bytes} {p : Nat}
theorem pMore_succ (f:Nat) (l:List E) (ts:List Tok) (d:Int):pMore (f+1) l ts d=if isT ts [44] then bindR (takeT [44] ts d) fun _ ts d=>bindR (pBin f 1 ts d) fun e ts d=>pMore f (l++[e]) ts d else .ok (l,ts,d):=by
 conv=>lhs;unfold pMore
theorem pArgs_succ (f:Nat) (ts:List Tok) (d:Int):pArgs (f+1) ts d=if isT ts [41] then .ok ([],ts,d) else bindR (pBin f 1 ts d) fun e ts d=>pMore f [e] ts d:=by
 conv=>lhs;unfold pArgs
theorem accB_true {α:Type} {r:R α} {t:Bytes} (e:accB r t=true):∃ x ts d,r= .ok (x,ts,d)/\isT ts t=true/\accR r t=takeT t ts d:=by
 match r,e with
 | .error x,e=>cases e
 | .ok (x,ts,d),e=>
   simp only [accB,Bool.and_eq_true] at e
   exact ⟨x,ts,d,rfl,e.1,by simp only [accR,e.1];rfl⟩
theorem accB_false {α:Type} {r:R α} {t:Bytes} (ho:opens t=false) (e:accB r t=false):isTr r t=false/\accR r t=mapR (fun _=>()) r:=by
 match r,e with
 | .error x,e=>exact ⟨rfl,rfl⟩
 | .ok (x,ts,d),e=>
   simp only [accB,ho,Bool.false_and,Bool.not_false,Bool.and_true] at e
   exact ⟨e,by simp only [accR,e];rfl⟩
theorem EC.one (c:EC):allOne c.l=true:=rfl
theorem call_ok {f:Nat} (X:∀ g,g<=f->XOk K s p g) (hf:f<=5000000) {α:Type} (t:Tok) (r:R α) (h:PHeap) (hP:PS K s h p r) (hn:NF (bindR r fun _ ts d=>pCall (f+1) t ts d)):
 Tri Tryz.prog 193 [vP p 0,vA (tokC s t)] h (PE K s p h (bindR r fun _ ts d=>pCall (f+1) t ts d)):=by
 refine T193 ?_
 unfold R193
 have hp0:=hP.mem
 have hI:=hP.isin
 have he:(bindR r fun _ ts d=>pCall (f+1) t ts d)=mapR (fun l=> .mk 5 [] t.text 0 [] l t.pos) (thenR (bindR (bindR r fun _ ts d=>takeT [40] ts d) fun _ ts d=>pArgs f ts d) fun ts d=>takeT [41] ts d):=by
  have:∀ ts d,pCall (f+1) t ts d=bindR (takeT [40] ts d) fun _ ts d=>bindR (pArgs f ts d) fun l ts d=>bindR (takeT [41] ts d) fun _ ts d=> .ok (.mk 5 [] t.text 0 [] l t.pos,ts,d):=fun ts d=>by
   conv=>lhs;unfold pCall
  simp only [mapR,thenR,bindR_bind,bindR_ok,this]
 rw [he] at hn ⊢
 refine Tri.mono (take_tri hP [40]) ?_
 rintro _ h1 ⟨rfl,hc1,hP1⟩
 refine ⟨rfl,?_⟩
 obtain ⟨i,hi,hz⟩:=hP1.err
 refine ⟨i,hi,br_split (fun e=>?_) (fun e=>?_)⟩
 . obtain ⟨u,ts1,d1,hr1⟩:=okR_true (hz.symm.trans e)
   rw [hr1] at hP1 hn ⊢
   rw [bindR_ok] at hn ⊢
   refine Tri.mono (is_tri hP1 [41]) ?_
   rintro _ h1 ⟨rfl,rfl⟩
   have hnA:NF (pArgs f ts1 d1):=hn.map.then.bind
   match f,hf,X,hnA,hn with
   | 0,hf,X,hnA,hn=>exact absurd rfl hnA
   | f+1,hf,X,hnA,hn=>
     clear he
     refine ⟨_,rfl,br_split (fun e2=>?_) (fun e2=>?_)⟩
     . have e2:isT ts1 [41]=false:=by simpa [isTr] using e2
       have hA:pArgs (f+1) ts1 d1=bindR (pBin f 1 ts1 d1) fun e ts d=>pMore f [e] ts d:=by
        rw [pArgs_succ,if_neg (by rw [e2];decide)]
       generalize hfin:pArgs (f+1) ts1 d1=fin at *
       have hnB:NF (pBin f 1 ts1 d1):=by rw [hA] at hnA;exact hnA.bind
       refine Tri.mono (expr_tri (X f (by omega)) (.ok (u,ts1,d1):R Unit) h1 hP1 hnB) ?_
       rintro _ h2 ⟨c,rfl,hA2,hx2⟩
       refine ⟨_,_,_,_,_,_,_,_,_,_,rfl,rfl,?_⟩
       intro b hb h3 hh3
       refine ⟨rfl,?_⟩
       have hA12:Away p h h2:=hc1.away.trans hA2
       have hd2:∀ b,h2 b=none->h b=none:=hA12.dom hx2.ps.mem
       refine Raw.mono (LM.append (h0:=h) (cs:=c.l) und46 elem48 rfl rfl rfl rfl rfl LM.nil hb hh3 rfl c.one (by omega) hd2) ?_
       rintro _ h4 ⟨b4,cap4,rfl,hk4,hd4,hn4,hq4,hM4,hR4⟩
       refine ⟨_,_,_,rfl,?_⟩
       have hA4:Away p h h4:=fun k o hk ho=>hk4 k o (by rw [ho];exact fun e=>by cases e) (hA12 k o hk ho)
       have hx4:=(hx2.stay (rel':=fun e=>LR (RE (plP s) 8) h h4 (ad b4 0) [c.l] [e]) (hI.old hp0 hk4) fun e he=>hR4 (RE_mono _ _) LR.nil (he.ext ((LM.nil (e:=48) (k:=8)).new (hc1.away.dom hP1.mem)))).map (k:=fun e=>[e]) (rel':=fun es=>LR (RE (plP s) 8) h h4 (ad b4 0) [c.l] es) fun e he=>he
       refine ⟨fun m k op nm vl tx a n cc ln cl h'=>(k=5/\op=[]/\nm=t.text/\vl=0/\tx=[]/\ln=(place s t.pos).1/\cl=(place s t.pos).2)/\∃ (r':R (List E)) (css:List (List Value)),n+m<=f+1/\Away p h h'/\LM 48 8 h h' a n cc css/\
        PX K s h' p r' (fun es=>LR (RE (plP s) 8) h h' a css es)/\(bindR r' fun es ts d=>pMore m es ts d)=fin,
        ⟨f,⟨rfl,rfl,rfl,rfl,rfl,rfl,rfl⟩,_,_,by omega,hA4,hM4,hx4,by rw [hA];simp only [mapR,bindR_bind,bindR_ok]⟩,?_⟩
       rintro m _ _ _ _ _ a n cc _ _ h5 ⟨⟨rfl,rfl,rfl,rfl,rfl,rfl,rfl⟩,r',css,hm,hA5,hM5,hx5,hf5⟩
       refine Tri.mono (accept_tri hx5.ps [44]) ?_
       rintro _ h6 ⟨rfl,hc6,hP6⟩
       refine ⟨_,rfl,br_split (fun e3=>?_) (fun e3=>?_)⟩
       . obtain ⟨es,ts,d,rfl,hT,hac⟩:=accB_true e3
         rw [hac] at hP6
         rw [bindR_ok] at hf5
         match m,hf5,hm with
         | 0,hf5,hm=>exact absurd hf5.symm hnA
         | m+1,hf5,hm=>
           rw [pMore_succ,if_pos hT,←bindR_bind] at hf5
           have hnB:NF (bindR (takeT [44] ts d) fun _ ts d=>pBin m 1 ts d):=by rw [←hf5] at hnA;exact hnA.bind
           refine Tri.mono (expr_tri (X m (by omega)) _ h6 hP6 hnB) ?_
           rintro _ h7 ⟨c7,rfl,hA7,hx7⟩
           refine ⟨_,_,_,_,_,_,_,_,_,_,rfl,rfl,?_⟩
           intro b8 hb8 h8 hh8
           refine ⟨rfl,?_⟩
           have hA57:Away p h5 h7:=hc6.away.trans hA7
           have hA07:Away p h h7:=hA5.trans hA57
           have hd7:∀ b,h7 b=none->h b=none:=hA07.dom hx7.ps.mem
           refine Raw.mono (LM.append (h0:=h) (cs:=c7.l) und46 elem48 rfl rfl rfl rfl rfl (hM5.away hp0 hA57) hb8 hh8 rfl c7.one (by omega) hd7) ?_
           rintro _ h9 ⟨b9,cap9,rfl,hk9,hd9,hn9,hq9,hM9,hR9⟩
           refine ⟨_,_,_,rfl,m,by omega,⟨⟨rfl,rfl,rfl,rfl,rfl,rfl,rfl⟩,mapR (fun e=>es++[e]) (bindR (takeT [44] ts d) fun _ ts d=>pBin m 1 ts d),_,by omega,fun k o hk ho=>hk9 k o (by rw [ho];exact fun e=>by cases e) (hA07 k o hk ho),hM9,?_,?_⟩,rfl,rfl,trivial⟩
           . refine (hx7.stay (rel':=fun e=>LR (RE (plP s) 8) h h9 (ad b9 0) (css++[c7.l]) (es++[e])) (hI.old hp0 hk9) fun e he=>?_).map fun e he=>he
             refine hR9 (RE_mono _ _) (hx5.2.away (RE_mono _ _) hp0 hA57) (he.ext ?_)
             exact (hM5.away hp0 hc6.away).new ((hA5.trans hc6.away).dom hP6.mem)
           . rw [←hf5];simp only [mapR,bindR_bind,bindR_ok]
       . obtain ⟨hnt,hac⟩:=accB_false rfl e3
         rw [hac] at hP6
         have hfr:fin=r':=by
          match r',hf5,hnt with
          | .error x,hf5,_=>exact hf5.symm
          | .ok (es,ts,d),hf5,hnt=>
            rw [bindR_ok] at hf5
            match m,hf5 with
            | 0,hf5=>exact absurd hf5.symm hnA
            | m+1,hf5=>rw [←hf5,pMore_succ,if_neg (by rw [show isT ts [44]=false from hnt];decide)]
         refine Tri.mono (take_tri hP6 [41]) ?_
         rintro _ h7 ⟨rfl,hc7,hP7⟩
         have hP7':PS K s h7 p (bindR r' fun _ ts d=>takeT [41] ts d):=by
          simp only [mapR,bindR_bind,bindR_ok] at hP7;exact hP7
         have hA57:Away p h5 h7:=hc6.away.trans hc7.away
         refine ⟨rfl,⟨5,[],t.text,0,[],a,n,cc,_,_⟩,rfl,hA5.trans hA57,?_⟩
         rw [hfr]
         refine (hx5.then (rel':=fun es=>LR (RE (plP s) 8) h h7 a css es) hP7' fun es hes=>hes.away (RE_mono _ _) hp0 hA57).map fun es hes=>?_
         have hlen:n=es.length:=by rw [←hM5.len];exact hes.1
         rw [hlen]
         exact RE_mk 5 [] _ 0 [] es _ a cc ((hM5.away hp0 hA57).at (RE_mono _ _) hes).res
     . have e2:isT ts1 [41]=true:=by simpa [isTr] using e2
       rw [pArgs_succ,if_pos e2]
       refine Tri.mono (take_tri hP1 [41]) ?_
       rintro _ h2 ⟨rfl,hc2,hP2⟩
       refine ⟨rfl,⟨5,[],t.text,0,[],none,0,0,_,_⟩,rfl,hc1.away.trans hc2.away,?_⟩
       have hx:PX K s h1 p (.ok ([],ts1,d1):R (List E)) fun es=>es=[]:=⟨hP1,rfl⟩
       refine (hx.then (rel':=fun es=>es=[]) hP2 fun _ h=>h).map fun es hes=>?_
       subst hes
       exact RE_mk 5 [] _ 0 [] [] _ none 0 (.inl rfl)
 . obtain ⟨x,hr1⟩:=okR_false (hz.symm.trans e)
   rw [hr1] at hP1 hn ⊢
   refine Tri.mono (take_tri hP1 [41]) ?_
   rintro _ h2 ⟨rfl,hc2,hP2⟩
   exact ⟨rfl,⟨5,[],t.text,0,[],none,0,0,_,_⟩,rfl,hc1.away.trans hc2.away,hP2⟩
theorem prim_err {e:Nat×Nat} {h:PHeap} (hP:PErr K s h p e):Tri Tryz.prog 192 [vP p 0] h (PE K s p h (.error e)):=by
 refine T192 ?_
 unfold R192
 refine Tri.mono (isKind_tri (r:=(.error e:R Unit)) hP 2) ?_
 rintro _ h ⟨rfl,rfl⟩
 refine ⟨_,rfl,br_neg rfl ?_⟩
 refine Tri.mono (isKind_tri (r:=(.error e:R Unit)) hP 3) ?_
 rintro _ h ⟨rfl,rfl⟩
 refine ⟨_,rfl,br_neg rfl ?_⟩
 refine Tri.mono (isKind_tri (r:=(.error e:R Unit)) hP 1) ?_
 rintro _ h ⟨rfl,rfl⟩
 refine ⟨_,rfl,br_neg rfl ?_⟩
 refine Tri.mono (take_tri (r:=(.error e:R Unit)) hP [40]) ?_
 rintro _ h1 ⟨rfl,hc1,hP1⟩
 obtain ⟨i,hi,hz⟩:=hP1.err
 have hz:(i == 0)=false:=hz
 refine ⟨rfl,i,hi,br_pos (by simpa using hz) ?_⟩
 exact ⟨⟨0,[],[],0,[],none,0,0,0,0⟩,rfl,hc1.away,hP1⟩
theorem un_err {e:Nat×Nat} {h:PHeap} (hP:PErr K s h p e):Tri Tryz.prog 172 [vP p 0] h (PE K s p h (.error e)):=by
 refine T172 ?_
 unfold R172
 intro b hb h1 hh1
 have hP1:PErr K s h1 p e:=hP.ext (Put.ext hh1 hb)
 have hA1:Away p h h1:=(Put.ext hh1 hb).away
 have hs:StrAt h1 (ad b 0) [[45],[33],[126]]:= .inr ⟨b,0,rfl,fun j l hj=>by
  rw [cell_of (Put.at hh1)]
  match j,hj with
  | 0,hj=>simp at hj;subst hj;rfl
  | 1,hj=>simp at hj;subst hj;rfl
  | 2,hj=>simp at hj;subst hj;rfl
  | j+3,hj=>simp at hj⟩
 clear hh1
 have hf:∀ l,l∈([[45],[33],[126]]:List Bytes)->Tri Tryz.prog 44 ([vP p 0]++[vS l]++[]) h1 fun v h'=>v=vB (isTr (.error e:R Unit) l)/\h'=h1:=fun l _=>is_tri (r:=(.error e:R Unit)) hP1 l
 have hl:([[45],[33],[126]]:List Bytes).length<=1000000:=by decide
 refine Tri.mono (containsFunc_tri (c:=3) (x:=[vP p 0]) (y:=[]) (isTr (.error e:R Unit)) hs hl hf) ?_
 rintro _ h1 ⟨rfl,rfl⟩
 refine ⟨_,rfl,br_pos rfl ?_⟩
 refine Tri.mono (prim_err hP1) ?_
 rintro _ h2 hE
 have hE':=PE.after (PS.mem (r:=(.error e:R Unit)) hP1) hA1 hE
 obtain ⟨c,rfl,_,_⟩:=hE
 exact ⟨_,_,_,_,_,_,_,_,_,_,rfl,hE'⟩
theorem bin_err {e:Nat×Nat}:∀ (n lv:Nat) {h:PHeap},lv+n=11->PErr K s h p e->Tri Tryz.prog 140 [vP p 0,vI lv] h (PE K s p h (.error e)):=by
 intro n
 induction n with
 | zero=>
   intro lv h hlv hP
   refine T140 ?_
   unfold R140
   refine br_pos (by have:lv=11:=by omega
                     subst this;rfl) ?_
   refine Tri.mono (un_err hP) ?_
   rintro _ h1 hE
   have hE':=hE
   obtain ⟨c,rfl,_,_⟩:=hE
   exact ⟨_,_,_,_,_,_,_,_,_,_,rfl,hE'⟩
 | succ n ih=>
   intro lv h hlv hP
   refine T140 ?_
   unfold R140
   refine br_neg (by
    have:(lv:Int)≠11:=by omega
    simpa using this) ?_
   have hw:IntKind.i64.wrap ((lv:Int)+1)=((lv+1:Nat):Int):=by rw [wrap64 (by omega) (by omega)];rfl
   rw [hw]
   refine Tri.mono (ih (lv+1) (by omega) hP) ?_
   rintro _ h2 ⟨c,rfl,hA2,hx2⟩
   refine ⟨_,_,_,_,_,_,_,_,_,_,rfl,fun m k op nm vl tx a n cc ln cl h'=>h'=h2,⟨0,rfl⟩,?_⟩
   rintro m k op nm vl tx a n cc ln cl h2 rfl
   have hx2':PErr K s h2 p e:=hx2
   refine Tri.mono (isKind_tri (r:=(.error e:R Unit)) hx2' 5) ?_
   rintro _ h2 ⟨rfl,rfl⟩
   exact ⟨_,rfl,br_neg rfl ⟨⟨k,op,nm,vl,tx,a,n,cc,ln,cl⟩,rfl,hA2,hx2⟩⟩
theorem call_err {e:Nat×Nat} {h:PHeap} (t:Tok) (hP:PErr K s h p e):Tri Tryz.prog 193 [vP p 0,vA (tokC s t)] h (PE K s p h (.error e)):=by
 refine T193 ?_
 unfold R193
 refine Tri.mono (take_tri (r:=(.error e:R Unit)) hP [40]) ?_
 rintro _ h1 ⟨rfl,hc1,hP1⟩
 obtain ⟨i,hi,hz⟩:=hP1.err
 refine ⟨rfl,i,hi,br_neg hz ?_⟩
 refine Tri.mono (take_tri hP1 [41]) ?_
 rintro _ h2 ⟨rfl,hc2,hP2⟩
 exact ⟨rfl,⟨5,[],t.text,0,[],none,0,0,_,_⟩,rfl,hc1.away.trans hc2.away,hP2⟩
theorem fuel_err {α β:Type} {r:R α} {g:α->List Tok->Int->R β} (hg:∀ x ts d,g x ts d= .error (0,0)) (hn:NF (bindR r g)):∃ e,r= .error e:=by
 match r,hn with
 | .error e,_=>exact ⟨e,rfl⟩
 | .ok (x,ts,d),hn=>exact absurd (hg x ts d) hn
theorem xok (f:Nat) (hf:f<=5000000):XOk K s p f:=by
 induction f using Nat.strongRecOn with
 | _ f ih=>
   match f,ih,hf with
   | 0,_,_=>
     refine ⟨fun lv r h hlv hP hn=>?_,fun r h hP hn=>?_,fun r h hP hn=>?_,fun ts d h hP h1 hn=>?_,fun t r h hP hn=>?_⟩
     . obtain ⟨e,rfl⟩:=fuel_err (fun _ _ _=>by unfold pBin;rfl) hn
       exact bin_err (11 - lv) lv (by omega) hP
     . obtain ⟨e,rfl⟩:=fuel_err (fun _ _ _=>by unfold pUn;rfl) hn
       exact un_err hP
     . obtain ⟨e,rfl⟩:=fuel_err (fun _ _ _=>by unfold pPrim;rfl) hn
       exact prim_err hP
     . exact absurd (by unfold pName;rfl) hn
     . obtain ⟨e,rfl⟩:=fuel_err (fun _ _ _=>by unfold pCall;rfl) hn
       exact call_err t hP
   | f+1,ih,hf=>
     have X:∀ g,g<=f->XOk K s p g:=fun g hg=>ih g (by omega) (by omega)
     exact ⟨fun lv r h hlv hP hn=>bin_ok X lv r h hlv hP hn,fun r h hP hn=>un_ok (X f (Nat.le_refl _)) r h hP hn,fun r h hP hn=>prim_ok (X f (Nat.le_refl _)) r h hP hn,
      fun ts d h hP h1 hn=>name_ok (X f (Nat.le_refl _)) ts d h hP h1 hn,fun t r h hP hn=>call_ok X (by omega) t r h hP hn⟩
end
end Go.Proofs.D
