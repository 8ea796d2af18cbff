import Derived.Test.YteegmpghbhmekaaGreatDoorAm3
namespace Go.As
abbrev Bytes := List UInt8
structure Ins where
 op : Int
 a : Int
 b : Int
 c : Int
deriving DecidableEq
def wordsB : List Bytes := [[104, 97, 108, 116], [109, 111, 118, 101], [115, 101, 116], [104, 105, 103, 104], [97, 100, 100], [115, 117, 98], [109, 117, 108], [100, 105, 118], [109, 111, 100], [97, 110, 100], [111, 114], [120, 111, 114], [115, 104, 108], [115, 104, 114], [108, 101, 115, 115], [101, 113, 117, 97, 108], [97, 100, 100, 105], [108, 111, 97, 100], [115, 116, 111, 114, 101], [108, 111, 97, 100, 98], [115, 116, 111, 114, 101, 98], [106, 117, 109, 112], [106, 117, 109, 112, 122], [106, 117, 109, 112, 110, 122], [99, 97, 108, 108], [98, 97, 99, 107], [116, 114, 97, 112]]
def form (op : Nat) : Nat :=
 if op = 0 then 0 else if op = 1 then 2 else if op = 2 ∨ op = 3 ∨ (22 ≤ op ∧ op ≤ 24) then 4 else if op ≤ 15 then 3 else if op ≤ 20 then 5 else if op = 25 then 1 else 6
def limits (op : Nat) : Int × Int := if op = 3 then (0, 65535) else if op = 26 then (0, 255) else if 20 < op then (0, 4095) else (-32768, 32767)
def operandsN (op : Nat) : Nat := match form op with
 | 0 => 0 | 1 => 1 | 2 => 2 | 3 => 3 | 4 => 2 | 5 => 3 | _ => 1
def hasA (f : Nat) : Bool := decide (1 ≤ f) && decide (f ≤ 5)
def hasB (f : Nat) : Bool := decide (f = 2) || decide (f = 3) || decide (f = 5)
def hasC (f : Nat) : Bool := decide (3 ≤ f)
def checkI (x : Ins) : Nat :=
 if x.op < 0 ∨ 26 < x.op then 11
 else
  let f := form x.op.toNat
  if (!hasA f && x.a != 0) || (!hasB f && x.b != 0) || (!hasC f && x.c != 0) then 1
  else
   let l := if 4 ≤ f then limits x.op.toNat else (0, 7)
   if x.a < 0 ∨ 7 < x.a ∨ x.b < 0 ∨ 7 < x.b ∨ (hasC f = true ∧ (x.c < l.1 ∨ l.2 < x.c)) then 2 else 0
structure Lb where
 name : Bytes
 data : Bool
 off : Int
deriving DecidableEq
structure Pg where
 code : List Ins
 data : Bytes
 zero : Int
 entry : Int
 labels : List Lb
deriving DecidableEq
def letterB (c : UInt8) : Bool := (decide (97 ≤ c.toNat) && decide (c.toNat ≤ 122)) || (decide (65 ≤ c.toNat) && decide (c.toNat ≤ 90))
def digitB (c : UInt8) : Bool := decide (48 ≤ c.toNat) && decide (c.toNat ≤ 57)
def hexB (c : UInt8) : Bool := digitB c || (decide (97 ≤ c.toNat) && decide (c.toNat ≤ 102))
def hexN (c : UInt8) : Nat := if digitB c then c.toNat - 48 else c.toNat - 87
def regB : Bytes → Option Nat
 | [114, d] => if 48 ≤ d.toNat ∧ d.toNat ≤ 55 then some (d.toNat - 48) else none
 | _ => none
def isLabel (s : Bytes) : Bool := match s with
 | [] => false
 | c :: _ => decide (s.length ≤ 32) && (letterB c || c == 95) && (regB s).isNone && s.all fun c => letterB c || digitB c || c == 95 || c == 46
def dataAt (p : Pg) : Int := ((4 * p.code.length + 63) / 64 * 64 : Nat)
def follows (a b : Lb) : Bool :=
 if a.data != b.data then b.data else if a.off ≠ b.off then decide (a.off < b.off) else decide (a.name < b.name)
def labelsErr (p : Pg) : Option Lb → List Lb → Nat
 | _, [] => 0
 | prev, l :: ls =>
   if isLabel l.name = false then 12
   else if l.off < 0 ∨ (l.data = false ∧ (l.off % 4 ≠ 0 ∨ 4 * (p.code.length : Int) < l.off)) ∨ (l.data = true ∧ (p.data.length : Int) + p.zero < l.off) then 2
   else if (match prev with | none => false | some q => !follows q l) then 32
   else labelsErr p (some l) ls
def twice : List Bytes → Bool
 | [] => false
 | x :: l => l.contains x || twice l
def checkP (p : Pg) : Nat :=
 match (p.code.map checkI).find? (· ≠ 0) with
 | some e => e
 | none =>
   if p.zero < 0 ∨ 4096 < p.zero ∨ 4096 < dataAt p + p.data.length + p.zero ∨ 1024 < p.labels.length then 9
   else if p.entry < 0 ∨ p.entry % 4 ≠ 0 ∨ 4 * (p.code.length : Int) ≤ p.entry then 2
   else
    let e := labelsErr p none p.labels
    if e ≠ 0 then e else if twice (p.labels.map (·.name)) then 7 else 0
def placeOf (p : Pg) (l : Lb) : Int := if l.data then dataAt p + l.off else l.off
def address (p : Pg) (name : Bytes) : Option Int := (p.labels.find? fun l => l.name == name).map (placeOf p)
structure Tk where
 kind : Nat
 text : Bytes
deriving DecidableEq
def wordB (c : UInt8) : Bool := letterB c || digitB c || c == 95 || c == 46 || c == 45
def escB : Bytes → Option (UInt8 × Bytes)
 | 110 :: r => some (10, r)
 | 116 :: r => some (9, r)
 | 48 :: r => some (0, r)
 | 92 :: r => some (92, r)
 | 34 :: r => some (34, r)
 | 120 :: x :: y :: r => if hexB x && hexB y then some (UInt8.ofNat (16 * hexN x + hexN y), r) else none
 | _ => none
def unq : Nat → Bytes → Option (Bytes × Bytes)
 | 0, _ => none
 | _ + 1, [] => none
 | f + 1, c :: r =>
   if c = 34 then some ([], r)
   else if c = 92 then match escB r with
    | none => none
    | some (b, r) => (unq f r).map fun x => (b :: x.1, x.2)
   else if c.toNat < 32 ∨ 126 < c.toNat then none
   else (unq f r).map fun x => (c :: x.1, x.2)
def tokensS : Nat → Bytes → Option (List Tk)
 | 0, _ => none
 | _ + 1, [] => some []
 | f + 1, c :: r =>
   if c = 59 then some []
   else if c = 32 ∨ c = 9 then tokensS f r
   else if c = 44 then (tokensS f r).map fun l => ⟨3, [44]⟩ :: l
   else if c = 58 then (tokensS f r).map fun l => ⟨4, [58]⟩ :: l
   else if c = 34 then match unq (r.length + 1) r with
    | none => none
    | some (s, r) => (tokensS f r).map fun l => ⟨2, s⟩ :: l
   else if wordB c then (tokensS f ((c :: r).dropWhile wordB)).map fun l => ⟨1, (c :: r).takeWhile wordB⟩ :: l
   else none
def tokensL (s : Bytes) : Option (List Tk) := tokensS (s.length + 1) s
def operandsS : List Tk → Option (List Tk)
 | [] => some []
 | [t] => if t.kind = 1 ∨ t.kind = 2 then some [t] else none
 | t :: u :: v :: l => if (t.kind = 1 ∨ t.kind = 2) ∧ u.kind = 3 then (operandsS (v :: l)).map fun x => t :: x else none
 | _ => none
def splitL : List Tk → Option (List Bytes × Option (Bytes × List Tk))
 | [] => some ([], none)
 | t :: l =>
   if t.kind ≠ 1 then none
   else match l with
    | u :: l' => if u.kind = 4 then (splitL l').map fun x => (t.text :: x.1, x.2) else (operandsS (u :: l')).map fun x => ([], some (t.text, x))
    | [] => some ([], some (t.text, []))
def decN (s : Bytes) : Nat := s.foldl (fun n c => 10 * n + (c.toNat - 48)) 0
def hexV (s : Bytes) : Nat := s.foldl (fun n c => 16 * n + hexN c) 0
def decB (s : Bytes) : Option Nat := if s.length < 1 ∨ 10 < s.length ∨ s.all digitB = false then none else some (decN s)
def numberS (s : Bytes) : Option Int :=
 match s with
 | 48 :: 120 :: h => if h.length < 1 ∨ 8 < h.length ∨ h.all hexB = false then none else some (hexV h)
 | 45 :: d => (decB d).map fun n => -(n : Int)
 | d => (decB d).map fun n => (n : Int)
structure Us where
 line : Nat
 kind : Nat
 idx : Nat
 low : Int
 high : Int
 name : Bytes
deriving DecidableEq
structure St where
 p : Pg
 inData : Bool
 hasEntry : Bool
 hasZero : Bool
 uses : List Us
 line : Nat
def st0 : St := ⟨⟨[], [], 0, 0, []⟩, false, false, false, [], 1⟩
abbrev R (α : Type) := Except Nat α
def valueS (line : Nat) (t : Bytes) (kind at' : Nat) (low high : Int) : R (Int × List Us) :=
 match numberS t with
 | some n => if n < low ∨ high < n then .error 2 else .ok (n, [])
 | none => if isLabel t then .ok (0, [⟨line, kind, at', low, high, t⟩]) else .error 3
def literalS (t : Bytes) (low high : Int) : R Int :=
 match numberS t with
 | some n => if n < low ∨ high < n then .error 2 else .ok n
 | none => .error 3
def byteOf (n : Int) : UInt8 := UInt8.ofNat (n % 256).toNat
def wordOf (n : Int) : Bytes := let u := (n % 4294967296).toNat; [UInt8.ofNat u, UInt8.ofNat (u / 256), UInt8.ofNat (u / 65536), UInt8.ofNat (u / 16777216)]
def regsS : List Tk → R (List Int)
 | [] => .ok []
 | t :: l => match regB t.text with
   | none => .error 30
   | some r => (regsS l).map fun x => (r : Int) :: x
def fieldsI (op : Nat) (r : List Int) (c : Int) : Ins := if form op ≤ 3 then ⟨op, r.getD 0 0, r.getD 1 0, r.getD 2 0⟩ else ⟨op, r.getD 0 0, r.getD 1 0, c⟩
def instrS (a : St) (op : Nat) (l : List Tk) : R St :=
 if form op ≤ 3 then do
  let r ← regsS l
  if 1024 ≤ a.p.code.length then .error 9 else .ok { a with p := { a.p with code := a.p.code ++ [fieldsI op r 0] } }
 else do
  let r ← regsS l.dropLast
  let (n, u) ← valueS a.line (l.getLast?.getD ⟨1, []⟩).text 0 a.p.code.length (limits op).1 (limits op).2
  if 1024 ≤ a.p.code.length then .error 9 else .ok { a with p := { a.p with code := a.p.code ++ [fieldsI op r n] }, uses := a.uses ++ u }
def wordsS (a : St) : List Tk → R St
 | [] => .ok a
 | t :: l => do
   let (n, u) ← valueS a.line t.text 1 a.p.data.length (-2147483648) 4294967295
   wordsS { a with p := { a.p with data := a.p.data ++ wordOf n }, uses := a.uses ++ u } l
def bytesS (a : St) : List Tk → R St
 | [] => .ok a
 | t :: l => do
   let n ← literalS t.text (-128) 255
   bytesS { a with p := { a.p with data := a.p.data ++ [byteOf n] } } l
def dCode : Bytes := [46, 99, 111, 100, 101]
def dData : Bytes := [46, 100, 97, 116, 97]
def dEntry : Bytes := [46, 101, 110, 116, 114, 121]
def dZero : Bytes := [46, 122, 101, 114, 111]
def dWord : Bytes := [46, 119, 111, 114, 100]
def dByte : Bytes := [46, 98, 121, 116, 101]
def dText : Bytes := [46, 116, 101, 120, 116]
def dSpace : Bytes := [46, 115, 112, 97, 99, 101]
def noStr (l : List Tk) : Bool := l.all fun t => t.kind ≠ 2
def full (a : St) : R St := if 4096 < a.p.data.length then .error 9 else .ok a
def stmtS (a : St) (name : Bytes) (l : List Tk) : R St :=
 match wordsB.findIdx? (· == name) with
 | some op => if a.inData then .error 10 else if l.length ≠ operandsN op ∨ noStr l = false then .error 30 else instrS a op l
 | none =>
   if name = dCode ∨ name = dData then (if l ≠ [] then .error 30 else .ok { a with inData := decide (name = dData) })
   else if name = dEntry then
    if a.hasEntry then .error 10 else if l.length ≠ 1 ∨ noStr l = false then .error 30
    else do
     let (n, u) ← valueS a.line (l.getD 0 ⟨1, []⟩).text 2 0 (-9999999999) 9999999999
     .ok { a with p := { a.p with entry := n }, hasEntry := true, uses := a.uses ++ u }
   else if name = dZero then
    if a.hasZero then .error 10 else if l.length ≠ 1 ∨ noStr l = false then .error 30
    else do
     let n ← literalS (l.getD 0 ⟨1, []⟩).text 0 4096
     .ok { a with p := { a.p with zero := n }, hasZero := true }
   else if name = dWord ∨ name = dByte ∨ name = dText ∨ name = dSpace then
    if a.inData = false then .error 10
    else if l = [] ∨ ((name = dText ∨ name = dSpace) ∧ l.length ≠ 1) then .error 30
    else if (l.all fun t => decide (t.kind = 2) == decide (name = dText)) = false then .error 30
    else if name = dWord then do full (← wordsS a l)
    else if name = dByte then do full (← bytesS a l)
    else if name = dText then full { a with p := { a.p with data := a.p.data ++ (l.getD 0 ⟨1, []⟩).text } }
    else do
     let n ← literalS (l.getD 0 ⟨1, []⟩).text 0 4096
     full { a with p := { a.p with data := a.p.data ++ List.replicate n.toNat 0 } }
   else .error 11
def defineS (a : St) : List Bytes → R St
 | [] => .ok a
 | n :: l =>
   if isLabel n = false then .error 12
   else if (a.p.labels.any fun x => x.name == n) then .error 7
   else if 1024 ≤ a.p.labels.length then .error 9
   else defineS { a with p := { a.p with labels := a.p.labels ++ [⟨n, a.inData, if a.inData then (a.p.data.length : Int) else (4 * a.p.code.length : Nat)⟩] } } l
def lineS (a : St) (s : Bytes) : R St :=
 match tokensL s with
 | none => .error 6
 | some ts => match splitL ts with
   | none => .error 30
   | some (ls, none) => defineS a ls
   | some (ls, some (n, os)) => do stmtS (← defineS a ls) n os
def linesS (a : St) : List Bytes → Except (Nat × Nat) St
 | [] => .ok a
 | s :: l => match lineS a s with
   | .error e => .error (a.line, e)
   | .ok a' => linesS { a' with line := a.line + 1 } l
def setC (l : List Ins) (i : Nat) (n : Int) : List Ins := l.modify i fun x => { x with c := n }
def putW (d : Bytes) (i : Nat) (n : Int) : Bytes := d.take i ++ wordOf n ++ d.drop (i + 4)
def resolveS (p : Pg) : List Us → Except (Nat × Nat) Pg
 | [] => .ok p
 | u :: l => match address p u.name with
   | none => .error (u.line, 37)
   | some n =>
     if n < u.low ∨ u.high < n then .error (u.line, 2)
     else resolveS (if u.kind = 0 then { p with code := setC p.code u.idx n } else if u.kind = 1 then { p with data := putW p.data u.idx n } else { p with entry := n }) l
def insL (x : Lb) : List Lb → List Lb
 | [] => [x]
 | y :: l => if follows y x then y :: insL x l else x :: y :: l
def sortL (l : List Lb) : List Lb := l.foldl (fun s x => insL x s) []
def splitAt10 : Bytes → List Bytes
 | [] => [[]]
 | c :: r => if c = 10 then [] :: splitAt10 r else match splitAt10 r with
   | [] => [[c]]
   | x :: l => (c :: x) :: l
def assembleS (s : Bytes) : Except (Nat × Nat) Pg :=
 if 65536 < s.length then .error (0, 5)
 else match linesS st0 (splitAt10 s) with
  | .error e => .error e
  | .ok a => match resolveS a.p a.uses with
    | .error e => .error e
    | .ok p =>
      let q := { p with labels := sortL p.labels }
      let e := checkP q
      if e ≠ 0 then .error (0, e) else .ok q
end Go.As
