import Derived.Test.YtifjnoabmbckpaaGreatDoorPri3
namespace Go.Sx
abbrev Bytes:=List UInt8
structure Tok where
 kind:Nat
 text:Bytes
 value:Nat
 bytes:Bytes
 pos:Nat
 deriving DecidableEq
def isLetter (c:UInt8):Bool:=decide (97<=c.toNat) && decide (c.toNat<=122) || decide (65<=c.toNat) && decide (c.toNat<=90) || c.toNat == 95
def isDigit (c:UInt8):Bool:=decide (48<=c.toNat) && decide (c.toNat<=57)
def isHex (c:UInt8):Bool:=isDigit c || decide (97<=c.toNat) && decide (c.toNat<=102)
def isAl (c:UInt8):Bool:=isLetter c || isDigit c
def hexV (c:UInt8):Nat:=if isDigit c then c.toNat - 48 else c.toNat - 87
def lead (p:UInt8->Bool):Bytes->Nat
 | []=>0
 | c::l=>if p c then lead p l+1 else 0
def skipN:Bool->Bytes->Nat
 | _,[]=>0
 | true,c::l=>if c == 10 then skipN false l+1 else skipN true l+1
 | false,c::l=>if c == 10 || c == 32 || c == 9 then skipN false l+1 else
  match l with
  | []=>0
  | d::_=>if c == 47 && d == 47 then skipN true l+1 else 0
def words:List Bytes:=[[98,114,101,97,107],[99,111,110,116,105,110,117,101],[101,108,115,101],[102,117,110,99],[105,102],[114,101,116,117,114,110],[118,97,114],[119,104,105,108,101]]
def marks:List Bytes:=[[33],[33,61],[37],[38],[38,38],[40],[41],[42],[43],[44],[45],[47],[59],[60],[60,60],[60,61],[61],[61,61],[62],[62,61],[62,62],[91],[93],[94],[123],[124],[124,124],[125],[126]]
def hexNum (l:Bytes):Nat:=l.foldl (fun n c=>16 * n+hexV c) 0
def decNum (l:Bytes):Nat:=l.foldl (fun n c=>10 * n+(c.toNat - 48)) 0
def numS (w:Bytes):Except Nat Nat:=
 match w with
 | 48::120::l=>if l.length=0 || 8 < l.length || !l.all isHex then .error 3 else .ok (hexNum l)
 | _=>if !w.all isDigit || (1 < w.length && w.head? == some 48) then .error 3 else if 4294967295 < decNum w then .error 2 else .ok (decNum w)
def escS (c:UInt8):Option UInt8:=
 if c == 110 then some 10 else if c == 116 then some 9 else if c == 48 then some 0 else if c == 92 then some 92 else if c == 39 then some 39 else if c == 34 then some 34 else none
def charS:Bytes->Except (Nat×Nat) (UInt8×Nat)
 | []=> .error (4,0)
 | 92::l=>match l with
   | []=> .error (4,0)
   | 120::m=>match m with
     | []=> .error (4,0)
     | a::m=>if !isHex a then .error (6,2) else match m with
       | []=> .error (4,0)
       | b::_=>if !isHex b then .error (6,3) else .ok (UInt8.ofNat (16 * hexV a+hexV b),4)
   | c::_=>match escS c with
     | some b=> .ok (b,2)
     | none=> .error (6,1)
 | c::_=>if c.toNat < 32 || 126 < c.toNat then .error (6,0) else .ok (c,1)
def strS:Nat->Bytes->Except (Nat×Nat) (Bytes×Nat)
 | 0,_=> .error (4,0)
 | _+1,[]=> .error (4,0)
 | f+1,c::l=>if c == 34 then .ok ([],0) else match charS (c::l) with
   | .error (4,_)=> .error (4,0)
   | .error (e,k)=> .error (e,k)
   | .ok (b,n)=>match strS f ((c::l).drop n) with
     | .error (4,_)=> .error (4,0)
     | .error (e,k)=> .error (e,k+n)
     | .ok (m,k)=> .ok (b::m,k+n)
def oneS (l:Bytes):Except (Nat×Nat) (Nat×Nat×Nat×Bytes):=
 match l with
 | []=> .error (6,0)
 | c::r=>
   if isLetter c then
    let k:=lead isAl l
    if 32 < k then .error (5,0) else if words.contains (l.take k) then .ok (4,k,0,[]) else .ok (1,k,0,[])
   else if isDigit c then
    match numS (l.take (lead isAl l)) with
    | .error e=> .error (e,0)
    | .ok v=> .ok (2,lead isAl l,v,[])
   else if c == 39 then
    if r.head? == some 39 then .error (6,1) else
    match charS r with
    | .error (4,_)=> .error (4,0)
    | .error (e,k)=> .error (e,k+1)
    | .ok (b,n)=>match r.drop n with
      | []=> .error (4,0)
      | d::_=>if d == 39 then .ok (2,n+2,b.toNat,[]) else .error (6,n+1)
   else if c == 34 then
    match strS (r.length+1) r with
    | .error (4,_)=> .error (4,0)
    | .error (e,k)=> .error (e,k+1)
    | .ok (m,k)=>if 200 < m.length then .error (5,0) else .ok (3,k+2,0,m)
   else if marks.contains (l.take 2) then .ok (5,(l.take 2).length,0,[])
   else if marks.contains (l.take 1) then .ok (5,1,0,[])
   else .error (6,0)
def scanL:Nat->Nat->Bytes->Nat->Except (Nat×Nat) (List Tok)
 | 0,_,_,_=> .error (0,0)
 | f+1,k,l,at_=>
   let n:=skipN false l
   let r:=l.drop n
   match r with
   | []=> .ok [⟨0,[],0,[],at_+n⟩]
   | _::_=>if k=4096 then .error (9,at_+n) else match oneS r with
     | .error (e,i)=> .error (e,at_+n+i)
     | .ok (kind,len,v,b)=>match scanL f (k+1) (r.drop len) (at_+n+len) with
       | .error e=> .error e
       | .ok ts=> .ok (⟨kind,r.take len,v,b,at_+n⟩::ts)
def scanS (s:Bytes):Except (Nat×Nat) (List Tok):=if 16384 < s.length then .error (5,0) else scanL (s.length+1) 0 s 0
def placeL:Bytes->Nat->Nat×Nat->Nat×Nat
 | _,0,p=>p
 | [],_+1,p=>p
 | c::l,n+1,p=>placeL l n (if c == 10 then (p.1+1,1) else (p.1,p.2+1))
def place (s:Bytes) (n:Nat):Nat×Nat:=placeL s n (1,1)
inductive E where
 | mk (kind:Nat) (op name:Bytes) (value:Nat) (text:Bytes) (args:List E) (pos:Nat)
inductive S where
 | mk (kind:Nat) (name:Bytes) (args:List E) (body els:List S) (pos:Nat)
structure G where
 name:Bytes
 size:Nat
 value:Nat
 pos:Nat
structure F where
 name:Bytes
 params:List Bytes
 body:List S
 pos:Nat
structure Pg where
 globals:List G
 funcs:List F
abbrev R (α:Type):=Except (Nat×Nat) (α×List Tok×Int)
def levelS (op:Bytes):Nat:=
 if op == [124,124] then 1 else if op == [38,38] then 2 else if op == [124] then 3 else if op == [94] then 4 else if op == [38] then 5
 else if op == [61,61] || op == [33,61] then 6 else if op == [60] || op == [60,61] || op == [62] || op == [62,61] then 7
 else if op == [60,60] || op == [62,62] then 8 else if op == [43] || op == [45] then 9 else if op == [42] || op == [47] || op == [37] then 10 else 0
def hd (ts:List Tok):Tok:=ts.headD ⟨0,[],0,[],0⟩
def isT (ts:List Tok) (t:Bytes):Bool:=((hd ts).kind == 4 || (hd ts).kind == 5) && (hd ts).text == t
def isK (ts:List Tok) (k:Nat):Bool:=(hd ts).kind == k
def opens (t:Bytes):Bool:=t == [40] || t == [91] || t == [123]
def closes (t:Bytes):Bool:=t == [41] || t == [93] || t == [125]
def takeT (t:Bytes) (ts:List Tok) (d:Int):R Unit:=
 if !isT ts t then .error (30,(hd ts).pos)
 else if opens t then (if d=32 then .error (9,(hd ts).pos) else .ok ((),ts.tail,d+1))
 else if closes t then .ok ((),ts.tail,d - 1) else .ok ((),ts.tail,d)
def takeK (k:Nat) (ts:List Tok) (d:Int):R Tok:=
 if isK ts k then .ok (hd ts,ts.tail,d) else .error (30,(hd ts).pos)
def bindR {α β:Type} (r:R α) (f:α->List Tok->Int->R β):R β:=
 match r with
 | .error e=> .error e
 | .ok (a,ts,d)=>f a ts d
mutual
def pBin:Nat->Nat->List Tok->Int->R E
 | 0,_,_,_=> .error (0,0)
 | f+1,lv,ts,d=>if lv=11 then pUn f ts d else bindR (pBin f (lv+1) ts d) fun e ts d=>pLoop f lv e ts d
def pLoop:Nat->Nat->E->List Tok->Int->R E
 | 0,_,_,_,_=> .error (0,0)
 | f+1,lv,e,ts,d=>if isK ts 5 && levelS (hd ts).text == lv then
    bindR (pBin f (lv+1) ts.tail d) fun e' ts' d'=>pLoop f lv (.mk 7 (hd ts).text [] 0 [] [e,e'] (hd ts).pos) ts' d'
  else .ok (e,ts,d)
def pUn:Nat->List Tok->Int->R E
 | 0,_,_=> .error (0,0)
 | f+1,ts,d=>if isT ts [45] || isT ts [33] || isT ts [126] then
    bindR (pUn f ts.tail d) fun e ts' d'=> .ok (.mk 6 (hd ts).text [] 0 [] [e] (hd ts).pos,ts',d')
  else pPrim f ts d
def pPrim:Nat->List Tok->Int->R E
 | 0,_,_=> .error (0,0)
 | f+1,ts,d=>if isK ts 2 then .ok (.mk 1 [] [] (hd ts).value [] [] (hd ts).pos,ts.tail,d)
   else if isK ts 3 then .ok (.mk 2 [] [] 0 (hd ts).bytes [] (hd ts).pos,ts.tail,d)
   else if isK ts 1 then pName f ts d
   else bindR (takeT [40] ts d) fun _ ts d=>bindR (pBin f 1 ts d) fun e ts d=>bindR (takeT [41] ts d) fun _ ts d=> .ok (e,ts,d)
def pName:Nat->List Tok->Int->R E
 | 0,_,_=> .error (0,0)
 | f+1,ts,d=>if isT ts.tail [40] then pCall f (hd ts) ts.tail d
   else if isT ts.tail [91] then bindR (takeT [91] ts.tail d) fun _ ts' d=>bindR (pBin f 1 ts' d) fun e ts' d=>bindR (takeT [93] ts' d) fun _ ts' d=>
    .ok (.mk 4 [] (hd ts).text 0 [] [e] (hd ts).pos,ts',d)
   else .ok (.mk 3 [] (hd ts).text 0 [] [] (hd ts).pos,ts.tail,d)
def pCall:Nat->Tok->List Tok->Int->R E
 | 0,_,_,_=> .error (0,0)
 | f+1,t,ts,d=>bindR (takeT [40] ts d) fun _ ts d=>bindR (pArgs f ts d) fun l ts d=>bindR (takeT [41] ts d) fun _ ts d=> .ok (.mk 5 [] t.text 0 [] l t.pos,ts,d)
def pArgs:Nat->List Tok->Int->R (List E)
 | 0,_,_=> .error (0,0)
 | f+1,ts,d=>if isT ts [41] then .ok ([],ts,d) else bindR (pBin f 1 ts d) fun e ts d=>pMore f [e] ts d
def pMore:Nat->List E->List Tok->Int->R (List E)
 | 0,_,_,_=> .error (0,0)
 | f+1,l,ts,d=>if isT ts [44] then bindR (takeT [44] ts d) fun _ ts d=>bindR (pBin f 1 ts d) fun e ts d=>pMore f (l++[e]) ts d else .ok (l,ts,d)
end
def pCond (f:Nat) (ts:List Tok) (d:Int):R E:=
 bindR (takeT [40] ts d) fun _ ts d=>bindR (pBin f 1 ts d) fun e ts d=>bindR (takeT [41] ts d) fun _ ts d=> .ok (e,ts,d)
mutual
def pBlock:Nat->List Tok->Int->R (List S)
 | 0,_,_=> .error (0,0)
 | f+1,ts,d=>bindR (takeT [123] ts d) fun _ ts d=>pStmts f [] ts d
def pStmts:Nat->List S->List Tok->Int->R (List S)
 | 0,_,_,_=> .error (0,0)
 | f+1,l,ts,d=>if isT ts [125] then bindR (takeT [125] ts d) fun _ ts d=> .ok (l,ts,d) else bindR (pStmt f ts d) fun s ts d=>pStmts f (l++[s]) ts d
def pStmt:Nat->List Tok->Int->R S
 | 0,_,_=> .error (0,0)
 | f+1,ts,d=>if isK ts 1 then pNamed f ts d
   else if isT ts [118,97,114] then bindR (takeK 1 ts.tail d) fun t ts' d=>
    if isT ts' [61] then bindR (takeT [61] ts' d) fun _ ts' d=>bindR (pBin f 1 ts' d) fun e ts' d=>bindR (takeT [59] ts' d) fun _ ts' d=> .ok (.mk 1 t.text [e] [] [] (hd ts).pos,ts',d)
    else bindR (takeT [59] ts' d) fun _ ts' d=> .ok (.mk 1 t.text [] [] [] (hd ts).pos,ts',d)
   else if isT ts [105,102] then pIf f ts d
   else if isT ts [119,104,105,108,101] then bindR (pCond f ts.tail d) fun e ts' d=>bindR (pBlock f ts' d) fun b ts' d=> .ok (.mk 6 [] [e] b [] (hd ts).pos,ts',d)
   else if isT ts [114,101,116,117,114,110] then
    if isT ts.tail [59] then bindR (takeT [59] ts.tail d) fun _ ts' d=> .ok (.mk 7 [] [] [] [] (hd ts).pos,ts',d)
    else bindR (pBin f 1 ts.tail d) fun e ts' d=>bindR (takeT [59] ts' d) fun _ ts' d=> .ok (.mk 7 [] [e] [] [] (hd ts).pos,ts',d)
   else if isT ts [98,114,101,97,107] then bindR (takeT [59] ts.tail d) fun _ ts' d=> .ok (.mk 8 [] [] [] [] (hd ts).pos,ts',d)
   else if isT ts [99,111,110,116,105,110,117,101] then bindR (takeT [59] ts.tail d) fun _ ts' d=> .ok (.mk 9 [] [] [] [] (hd ts).pos,ts',d)
   else .error (30,(hd ts).pos)
def pIf:Nat->List Tok->Int->R S
 | 0,_,_=> .error (0,0)
 | f+1,ts,d=>bindR (pCond f ts.tail d) fun e ts' d=>bindR (pBlock f ts' d) fun b ts' d=>
    if isT ts' [101,108,115,101] then
     if isT ts'.tail [105,102] then bindR (pIf f ts'.tail d) fun s ts' d=> .ok (.mk 5 [] [e] b [s] (hd ts).pos,ts',d)
     else bindR (pBlock f ts'.tail d) fun b' ts' d=> .ok (.mk 5 [] [e] b b' (hd ts).pos,ts',d)
    else .ok (.mk 5 [] [e] b [] (hd ts).pos,ts',d)
def pNamed:Nat->List Tok->Int->R S
 | 0,_,_=> .error (0,0)
 | f+1,ts,d=>if isT ts.tail [61] then bindR (takeT [61] ts.tail d) fun _ ts' d=>bindR (pBin f 1 ts' d) fun e ts' d=>bindR (takeT [59] ts' d) fun _ ts' d=> .ok (.mk 2 (hd ts).text [e] [] [] (hd ts).pos,ts',d)
   else if isT ts.tail [91] then bindR (takeT [91] ts.tail d) fun _ ts' d=>bindR (pBin f 1 ts' d) fun i ts' d=>bindR (takeT [93] ts' d) fun _ ts' d=>bindR (takeT [61] ts' d) fun _ ts' d=>
    bindR (pBin f 1 ts' d) fun e ts' d=>bindR (takeT [59] ts' d) fun _ ts' d=> .ok (.mk 3 (hd ts).text [i,e] [] [] (hd ts).pos,ts',d)
   else bindR (pCall f (hd ts) ts.tail d) fun e ts' d=>bindR (takeT [59] ts' d) fun _ ts' d=> .ok (.mk 4 [] [e] [] [] (hd ts).pos,ts',d)
end
def pGlobal (ts:List Tok) (d:Int):R G:=
 bindR (takeT [118,97,114] ts d) fun _ ts d=>bindR (takeK 1 ts d) fun t ts d=>
  if isT ts [61] then bindR (takeT [61] ts d) fun _ ts d=>bindR (takeK 2 ts d) fun n ts d=>bindR (takeT [59] ts d) fun _ ts d=> .ok (⟨t.text,0,n.value,t.pos⟩,ts,d)
  else if isT ts [91] then bindR (takeT [91] ts d) fun _ ts d=>bindR (takeK 2 ts d) fun n ts d=>bindR (takeT [93] ts d) fun _ ts d=>bindR (takeT [59] ts d) fun _ ts d=> .ok (⟨t.text,n.value,0,t.pos⟩,ts,d)
  else bindR (takeT [59] ts d) fun _ ts d=> .ok (⟨t.text,0,0,t.pos⟩,ts,d)
def pMoreP:Nat->List Bytes->List Tok->Int->R (List Bytes)
 | 0,_,_,_=> .error (0,0)
 | f+1,l,ts,d=>if isT ts [44] then bindR (takeT [44] ts d) fun _ ts d=>bindR (takeK 1 ts d) fun t ts d=>pMoreP f (l++[t.text]) ts d else .ok (l,ts,d)
def pParams (f:Nat) (ts:List Tok) (d:Int):R (List Bytes):=
 if isT ts [41] then .ok ([],ts,d) else bindR (takeK 1 ts d) fun t ts d=>pMoreP f [t.text] ts d
def pFunc (f:Nat) (ts:List Tok) (d:Int):R F:=
 bindR (takeT [102,117,110,99] ts d) fun _ ts d=>bindR (takeK 1 ts d) fun t ts d=>bindR (takeT [40] ts d) fun _ ts d=>bindR (pParams f ts d) fun ps ts d=>
  bindR (takeT [41] ts d) fun _ ts d=>bindR (pBlock f ts d) fun b ts d=> .ok (⟨t.text,ps,b,t.pos⟩,ts,d)
def pProg:Nat->Pg->List Tok->Int->R Pg
 | 0,_,_,_=> .error (0,0)
 | f+1,p,ts,d=>if isK ts 0 then .ok (p,ts,d)
   else if isT ts [118,97,114] then bindR (pGlobal ts d) fun g ts d=>pProg f ⟨p.globals++[g],p.funcs⟩ ts d
   else bindR (pFunc f ts d) fun g ts d=>pProg f ⟨p.globals,p.funcs++[g]⟩ ts d
def parseS (s:Bytes):Except (Nat×Nat) Pg:=
 match scanS s with
 | .error e=> .error e
 | .ok ts=>match pProg (20 * ts.length+40) ⟨[],[]⟩ ts 0 with
   | .error e=> .error e
   | .ok (p,_,_)=> .ok p
end Go.Sx
