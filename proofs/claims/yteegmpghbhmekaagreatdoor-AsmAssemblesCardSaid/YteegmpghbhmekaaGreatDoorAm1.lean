import Derived.OrdersHeld
import Derived.Tactics
import Derived.KernelRfl
import Derived.Lib.FrozenHead
import Derived.Laws.Cells
import Derived.Laws.IdiomStrings
import Derived.Laws.Slices
import Derived.Laws.Strings2
import Derived.Deep.AppendSrc
namespace Go.Den
open Go
abbrev PHeap := Nat → Option Obj
def PHeap.put (h : PHeap) (b : Nat) (o : Obj) : PHeap := fun k => if k = b then some o else h k
def PHeap.cell (h : PHeap) (b off : Nat) : Option Value :=
 match h b with
 | some (.cells c _ _) => c[off]?
 | _ => none
def Sub (w : World) (h : PHeap) : Prop := ∀ k o, h k = some o → w.heap[k]? = some o
structure Keep (w : World) (h : PHeap) (w' : World) (h' : PHeap) : Prop where
 os : w'.os = w.os
 tape : w'.tape = w.tape
 output : w'.output = w.output
 size : w.heap.size ≤ w'.heap.size
 out : ∀ k, k < w.heap.size → h k = none → h' k = none ∧ w'.heap[k]? = w.heap[k]?
def retR (R : Value → World → Prop) : Ending → World → Prop
 | .returned v, w => R v w
 | _, _ => False
def uponR (P : Program) (R : Value → World → Prop) : Result Next → Prop
 | .ok (.value v) w => R v w
 | .ok (.enter f args) w => Calls P f args w (retR R)
 | _ => False
def CallR (P : Program) (f : FuncId) (args : Array Value) (w : World) (R : Value → World → Prop) : Prop :=
 uponR P R ((callFunc f args).run P w)
def Tri (P : Program) (f : FuncId) (args : List Value) (h : PHeap) (Q : Value → PHeap → Prop) : Prop :=
 ∀ w, Sub w h → CallR P f args.toArray w fun v w' => ∃ h', Q v h' ∧ Sub w' h' ∧ Keep w h w' h'
def Raw (P : Program) (s : Sem Next) (h : PHeap) (Q : Value → PHeap → Prop) : Prop :=
 ∀ w, Sub w h → ∃ n v w' h', s.run P w = .ok n w' ∧ ((n = .value v) ∨ (n = .skip ∧ v = undef)) ∧ Q v h' ∧ Sub w' h' ∧ Keep w h w' h'
def PureRun (P : Program) (s : Sem Next) (v : Value) : Prop := ∀ w, s.run P w = .ok (.value v) w
def pureVal (P : Program) : Sem Next → Option Value
 | .pure (.value v) => some v
 | .program k => pureVal P (k P)
 | _ => none
theorem pureVal_run {P : Program} {v : Value} : ∀ (s : Sem Next), pureVal P s = some v → PureRun P s v
 | .pure (.value v'), h => by
   simp only [pureVal, Option.some.injEq] at h; subst h; intro w; rfl
 | .program k, h => by
   intro w; exact pureVal_run (k P) h w
inductive SV where
 | val (v : Value)
 | loc (i off : Nat)
 | junk
structure St where
 regs : Nat → SV
 nl : Nat
 locs : Nat → List Value
def upd {α : Type} (f : Nat → α) (i : Nat) (x : α) : Nat → α := fun j => bif Nat.beq j i then x else f j
def St.ev (s : St) : Operand → SV
 | .tmp t => s.regs t
 | .const v => .val v
 | .global g => .val (.pointer (some ⟨g, 0, none⟩))
 | .func f => .val (.func (.func f) #[] #[])
def SV.isVal : SV → Bool
 | .val _ => true
 | _ => false
def St.vv (s : St) (x : Operand) : Value :=
 match s.ev x with
 | .val v => v
 | _ => undef
def St.lit (s : St) (r : Nat) (b : Bool) : St := { s with regs := upd s.regs r (.val (.bool b)) }
def St.litO (s : St) (x : Operand) (b : Bool) : St :=
 match x with
 | .tmp r => s.lit r b
 | _ => s
def St.newL (s : St) (l : List Value) : St := { s with nl := s.nl + 1, locs := upd s.locs s.nl l }
def St.setL (s : St) (i : Nat) (l : List Value) : St := { s with locs := upd s.locs i l }
def splice (l : List Value) (o : Nat) (vs : List Value) : List Value := l.take o ++ vs ++ l.drop (o + vs.length)
inductive SOp where
 | mv (x : Operand)
 | pick (c a b : Operand)
 | alloc (t : TypeId) (zero : List Value) (esc : Bool)
 | box (t : TypeId) (x : Operand) (esc : Bool)
 | load (agg : Bool) (n : Nat) (x : Operand)
 | store (n : Nat) (x v : Operand)
 | nilCheck (x : Operand)
 | fieldAddr (off : Nat) (x : Operand)
 | indexAddr (size : Nat) (x i : Operand)
 | indexArr (len size : Nat) (x i : Operand)
 | len (str : Bool) (x : Operand)
 | call (f : Operand) (args : List Operand)
 | pure (op : Op) (t : TypeId)
 | puref (op : Op) (t : TypeId)
 | raw (op : Op) (t : TypeId)
 | conv (k : IntKind) (x : Operand)
 | build (zero : List Value) (parts : List (Nat × Nat × Operand))
 | buildSlice (e : TypeId) (len : Nat) (zeros : List Value) (parts : List (Nat × Nat × Operand))
 | field (agg : Bool) (off n : Nat) (x : Operand)
 | idxS (x i : Operand)
 | sliceS (x : Operand) (lo hi : Option Operand)
 | sliceL (k : Nat) (x : Operand) (lo hi : Option Operand)
 | addS (x y : Operand)
 | eqS (neg : Bool) (x y : Operand)
 | bytesS (x : Operand)
 | bad
def mkO (op : Op) (t : TypeId) : Oper := ⟨none, op, t, "", #[], none⟩
structure SOper where
 dst : Option Nat
 op : SOp
 guard : Option (Nat × Bool)
inductive SCode where
 | skip
 | bad
 | ops (l : List SOper)
 | draw (l : List (SOper × List Nat))
 | seq (a b : SCode)
 | cond (c : Operand) (a b : SCode)
 | block (id : Nat) (c : SCode)
 | loop (ws : List Nat) (c : SCode)
 | exit (id : Nat)
 | ret
inductive Ex where
 | normal
 | exit (id : Nat)
 | ret
def br (c : Bool) (X Y : Prop) : Prop :=
 match c with
 | true => X
 | false => Y
def allVal (s : St) : List Operand → Bool
 | [] => true
 | x :: xs => match s.ev x with
   | .val _ => allVal s xs
   | _ => false
def vals (s : St) : List Operand → List Value
 | [] => []
 | x :: xs => s.vv x :: vals s xs
def PHeap.row (h : PHeap) (b off : Nat) : List Value → Prop
 | [] => True
 | [v] => h.cell b off = some v
 | v :: vs => h.cell b off = some v ∧ h.row b (off + 1) vs
def packV (agg : Bool) (l : List Value) : Value :=
 match agg with
 | true => .agg ⟨l⟩
 | false => match l with
   | [v] => v
   | _ => undef
def cellsL (v : Value) : List Value := v.cells.toList
def allOne : List Value → Bool
 | [] => true
 | v :: l => v.oneCell' && allOne l
def fillL (s : St) (cells : List Value) : List (Nat × Nat × Operand) → (List Value → Prop) → Prop
 | [], K => K cells
 | (off, n, x) :: l, K => match s.ev x with
   | .val v => match Nat.beq (cellsL v).length n && Nat.ble (off + n) cells.length with
     | true => fillL s (splice cells off (cellsL v)) l K
     | false => False
   | _ => False
def bnd (s : St) (o : Option Operand) (d : Int) (K : Int → Prop) : Prop :=
 match o with
 | none => K d
 | some x => match s.ev x with
   | .val (.int _ i) => K i
   | _ => False
def byteV (c : UInt8) : Value := .int .u8 c.toNat
def denOp (P : Program) (op : SOp) (s : St) (h : PHeap) (K : SV → St → PHeap → Prop) : Prop :=
 match op with
 | .mv x => K (s.ev x) s h
 | .pick c a b => match s.ev c with
   | .val (.bool c) => br c (K (s.ev a) s h) (K (s.ev b) s h)
   | _ => False
 | .alloc t z esc => match esc with
   | false => K (.loc s.nl 0) (s.newL z) h
   | true => ∀ b, h b = none → K (.val (.pointer (some ⟨b, 0, none⟩))) s (h.put b (.cells ⟨z⟩ t))
 | .box t x esc => match s.ev x with
   | .val v => match esc with
     | false => K (.loc s.nl 0) (s.newL (cellsL v)) h
     | true => ∀ b, h b = none → K (.val (.pointer (some ⟨b, 0, none⟩))) s (h.put b (.cells ⟨cellsL v⟩ t))
   | _ => False
 | .load agg n x => match s.ev x with
   | .loc i off => match Nat.ble (off + n) (s.locs i).length with
     | true => K (.val (packV agg (((s.locs i).drop off).take n))) s h
     | false => False
   | .val (.pointer (some ⟨b, off, none⟩)) => ∃ l : List Value, l.length = n ∧ h.row b off l ∧ K (.val (packV agg l)) s h
   | _ => False
 | .store n x v => match s.ev v with
   | .val v => match Nat.beq (cellsL v).length n && allOne (cellsL v) with
     | true => match s.ev x with
       | .loc i off => match Nat.ble (off + n) (s.locs i).length with
         | true => K (.val undef) (s.setL i (splice (s.locs i) off (cellsL v))) h
         | false => False
       | .val (.pointer (some ⟨b, off, none⟩)) => ∃ (l : List Value) (t : TypeId) (fz : Nat × Nat), h b = some (.cells ⟨l⟩ t fz) ∧
        (off + n ≤ l.length ∧ fz.2 ≤ off) ∧ K (.val undef) s (h.put b (.cells ⟨splice l off (cellsL v)⟩ t fz))
       | _ => False
     | false => False
   | _ => False
 | .nilCheck x => match s.ev x with
   | .loc i off => K (.loc i off) s h
   | .val (.pointer (some a)) => K (.val (.pointer (some a))) s h
   | .val (.func (.func f) x y) => K (.val (.func (.func f) x y)) s h
   | _ => False
 | .fieldAddr f x => match s.ev x with
   | .loc i off => K (.loc i (off + f)) s h
   | .val (.pointer (some ⟨b, off, none⟩)) => K (.val (.pointer (some ⟨b, off + f, none⟩))) s h
   | _ => False
 | .indexAddr size x i => match s.ev x, s.ev i with
   | .val (.slice (some ⟨b, off, none⟩) n _), .val (.int _ i) => (0 ≤ i ∧ i < n) ∧ K (.val (.pointer (some ⟨b, off + i.toNat * size, none⟩))) s h
   | _, _ => False
 | .indexArr len size x i => match s.ev x, s.ev i with
   | .val (.pointer (some ⟨b, off, none⟩)), .val (.int _ i) => (0 ≤ i ∧ i < len) ∧ K (.val (.pointer (some ⟨b, off + i.toNat * size, none⟩))) s h
   | _, _ => False
 | .len str x => match str with
   | false => match s.ev x with
     | .val (.slice _ n _) => K (.val (.int .i64 n)) s h
     | _ => False
   | true => match s.ev x with
     | .val (.string ⟨⟨l⟩⟩) => K (.val (.int .i64 l.length)) s h
     | _ => False
 | .call f args => match s.ev f with
   | .val (.func (.func g) first captured) => match allVal s args with
     | true => Tri P g (first.toList ++ vals s args ++ captured.toList) h fun v h' => K (.val v) s h'
     | false => False
   | _ => False
 | .pure op t => match allVal s op.operands.toList with
   | true => match pureVal P (execOp s.vv (mkO op t)) with
     | some v => K (.val v) s h
     | none => False
   | false => False
 | .puref op t => match allVal s op.operands.toList with
   | true => ∃ v, PureRun P (execOp s.vv (mkO op t)) v ∧ K (.val v) s h
   | false => False
 | .raw op t => match allVal s op.operands.toList with
   | true => Raw P (execOp s.vv (mkO op t)) h fun v h' => K (.val v) s h'
   | false => False
 | .conv k x => match s.ev x with
   | .val (.int _ i) => K (.val (.int k (k.wrap i))) s h
   | _ => False
 | .build z parts => fillL s z parts fun l => K (.val (.agg ⟨l⟩)) s h
 | .buildSlice e len z parts => fillL s z parts fun l => ∀ b, h b = none → K (.val (.slice (some ⟨b, 0, none⟩) len len)) s (h.put b (.cells ⟨l⟩ e))
 | .field agg off n x => match s.ev x with
   | .val (.agg ⟨l⟩) => match Nat.ble (off + n) l.length with
     | true => K (.val (packV agg ((l.drop off).take n))) s h
     | false => False
   | _ => False
 | .idxS x i => match s.ev x, s.ev i with
   | .val (.string ⟨⟨l⟩⟩), .val (.int _ i) => 0 ≤ i ∧ ∃ c, l[i.toNat]? = some c ∧ K (.val (byteV c)) s h
   | _, _ => False
 | .sliceS x lo hi => match s.ev x with
   | .val (.string ⟨⟨l⟩⟩) => bnd s lo 0 fun a => bnd s hi l.length fun b => (0 ≤ a ∧ a ≤ b ∧ b ≤ l.length) ∧ K (.val (.string ⟨⟨(l.drop a.toNat).take (b.toNat - a.toNat)⟩⟩)) s h
   | _ => False
 | .sliceL k x lo hi => match s.ev x with
   | .val (.slice (some ⟨b, o, none⟩) n c) => bnd s lo 0 fun i => bnd s hi n fun j => (0 ≤ i ∧ i ≤ j ∧ j ≤ c) ∧
    ∀ o', ((i.toNat < c ∨ i.toNat = 0) → o' = o + i.toNat * k) → K (.val (.slice (some ⟨b, o', none⟩) (j.toNat - i.toNat) (c - i.toNat))) s h
   | .val (.slice none 0 0) => bnd s lo 0 fun i => bnd s hi 0 fun j => (i = 0 ∧ j = 0) ∧ K (.val (.slice none 0 0)) s h
   | _ => False
 | .addS x y => match s.ev x, s.ev y with
   | .val (.string ⟨⟨l⟩⟩), .val (.string ⟨⟨m⟩⟩) => l.length + m.length ≤ 9223372036854775807 ∧ K (.val (.string ⟨⟨l ++ m⟩⟩)) s h
   | _, _ => False
 | .eqS neg x y => match s.ev x, s.ev y with
   | .val (.string ⟨⟨l⟩⟩), .val (.string ⟨⟨m⟩⟩) => match neg with
     | false => K (.val (.bool (l == m))) s h
     | true => K (.val (.bool (!(l == m)))) s h
   | _, _ => False
 | .bytesS x => match s.ev x with
   | .val (.slice (some ⟨b, o, none⟩) n _) => ∃ l : List UInt8, l.length = n ∧ h.row b o (l.map byteV) ∧ K (.val (.string ⟨⟨l⟩⟩)) s h
   | .val (.slice none _ _) => K (.val (.string ⟨⟨[]⟩⟩)) s h
   | _ => False
 | .bad => False
def denG (P : Program) (o : SOper) (s : St) (h : PHeap) (K : SV → St → PHeap → Prop) : Prop :=
 match o.guard with
 | none => denOp P o.op s h K
 | some (r, want) => match s.regs r with
   | .val (.bool c) => match want with
     | true => br c (denOp P o.op (s.lit r true) h K) (K (.val undef) (s.lit r false) h)
     | false => br c (K (.val undef) (s.lit r true) h) (denOp P o.op (s.lit r false) h K)
   | .val (.tuple _) => K (.val undef) s h
   | _ => False
def denL (P : Program) (n : Nat) : List SOper → (St → PHeap → Prop) → St → PHeap → Prop
 | [], Q, s, h => Q s h
 | o :: l, Q, s, h => denG P o s h fun x s' h' => match o.dst with
   | some d => match Nat.blt d n with
     | true => denL P n l Q { s' with regs := upd s'.regs d x } h'
     | false => False
   | none => denL P n l Q s' h'
end Go.Den
namespace Go.Den
open Go
def isAggT (P : Program) (t : TypeId) : Option Bool :=
 match P.underlying t with
 | some (.struct _) | some (.array _ _) => some true
 | some _ => some false
 | none => none
def sizeT (P : Program) (t : TypeId) : Option Nat :=
 match P.info? t with
 | some ⟨_, _, k, _, _, _, _, _, _, _⟩ => some k
 | none => none
def nthL {α : Type} : List α → Nat → Option α
 | [], _ => none
 | x :: _, 0 => some x
 | _ :: l, n + 1 => nthL l n
def fieldOff (P : Program) (t : TypeId) (f : Nat) : Option Nat :=
 match P.underlying t with
 | some (.struct fs) => match nthL fs.toList f with
   | some ⟨_, ty, off, _, _, _, _⟩ => match sizeT P ty with
     | some (_ + 1) => some off
     | _ => none
   | none => none
 | _ => none
def elemSize (P : Program) (t : TypeId) : Option Nat :=
 match P.underlying t with
 | some (.slice e) => sizeT P e
 | _ => none
def arrSize (P : Program) (t : TypeId) : Option (Nat × Nat) :=
 match P.underlying t with
 | some (.array n e) => match sizeT P e with
   | some k => some (n, k)
   | none => none
 | _ => none
def isConstI : Operand → Bool
 | .const (.int _ _) => true
 | _ => false
def lenable (P : Program) (t : TypeId) : Option Bool :=
 match P.underlying t with
 | some (.slice _) => some false
 | some .string => some true
 | _ => none
def lowBuiltin (P : Program) (c : Call) (op : Op) (ty : TypeId) : Builtin → Option SOp
 | .len => match c.args.toList, c.argTypes.toList with
   | [x], [t] => match lenable P t with
     | some b => some (.len b x)
     | none => some (.raw op ty)
   | _, _ => some .bad
 | .min | .max | .cap => some (.puref op ty)
 | _ => some (.raw op ty)
def partsS (P : Program) (fs : List Field) : List (Nat × Operand) → Option (List (Nat × Nat × Operand))
 | [] => some []
 | (i, x) :: l => match nthL fs i, partsS P fs l with
   | some ⟨_, ty, off, _, _, _, _⟩, some r => match sizeT P ty with
     | some k => some ((off, k, x) :: r)
     | none => none
   | _, _ => none
def partsE (k : Nat) : List (Nat × Operand) → List (Nat × Nat × Operand)
 | [] => []
 | (i, x) :: l => (i * k, k, x) :: partsE k l
def sizesOk (P : Program) : List Field → Bool
 | [] => true
 | f :: l => (sizeT P f.type).isSome && sizesOk P l
def zerosL (z : List Value) : Nat → List Value
 | 0 => []
 | n + 1 => z ++ zerosL z n
def zeroT (P : Program) (t : TypeId) : Option Value := (P.info? t).bind (·.zero)
def zeroL : Value → List Value
 | .agg ⟨l⟩ => l
 | v => cellsL v
def escD (esc : Nat → Bool) : Option Nat → Bool
 | some d => esc d
 | none => false
def lowOp (P : Program) (esc : Nat → Bool) (dst : Option Nat) (op : Op) (ty : TypeId) : Option SOp :=
 match op with
 | .move x | .assign x => some (.mv x)
 | .pick c a b => some (.pick c a b)
 | .alloc t => match (P.info? t).bind (·.zero) with
   | some z => some (.alloc t (zeroL z) (escD esc dst))
   | none => some .bad
 | .box t x => some (.box t x (escD esc dst))
 | .load t x => match isAggT P t, sizeT P t with
   | some true, some n => some (.load true n x)
   | some false, some _ => some (.load false 1 x)
   | _, _ => some .bad
 | .store t x v => match sizeT P t with
   | some n => some (.store n x v)
   | none => some .bad
 | .nilCheck x => some (.nilCheck x)
 | .fieldAddr t x f => match fieldOff P t f with
   | some k => some (.fieldAddr k x)
   | none => some .bad
 | .indexAddr t x i => match elemSize P t with
   | some k => some (.indexAddr k x i)
   | none => match arrSize P t with
     | some (n, k) => some (.indexArr n k x i)
     | none => some (.puref op ty)
 | .call c => match c.callee with
   | .value f => some (.call f c.args.toList)
   | .builtin b => lowBuiltin P c op ty b
   | .invoke _ _ => some .bad
 | .unOp .. | .extract .. | .makeFunc .. => some (.pure op ty)
 | .binOp bop t x y _ => match bop with
   | .add => match P.underlying t with
     | some .string => some (.addS x y)
     | _ => some (.pure op ty)
   | .eql => match P.underlying t with
     | some .string => some (.eqS false x y)
     | some (.struct _) => some (.puref op ty)
     | some (.interface _) => some (.puref op ty)
     | _ => some (.pure op ty)
   | .neq => match P.underlying t with
     | some .string => some (.eqS true x y)
     | some (.struct _) => some (.puref op ty)
     | some (.interface _) => some (.puref op ty)
     | _ => some (.pure op ty)
   | .lss => match P.underlying t with
     | some .string => some (.puref op ty)
     | _ => some (.pure op ty)
   | .quo | .rem | .shl | .shr => match isConstI y with
     | true => some (.pure op ty)
     | false => some (.puref op ty)
   | _ => some (.pure op ty)
 | .build t parts => match P.underlying t, zeroT P t with
   | some (.struct fs), some z => match sizesOk P fs.toList, partsS P fs.toList parts.toList with
     | true, some ps => some (.build (zeroL z) ps)
     | _, _ => some .bad
   | some (.array _ e), some z => match sizeT P e with
     | some k => some (.build (zeroL z) (partsE k parts.toList))
     | none => some .bad
   | _, _ => some .bad
 | .buildSlice t len parts => match P.underlying t with
   | some (.slice e) => match sizeT P e, zeroT P e with
     | some (k + 1), some z => match Nat.ble (len * (k + 1)) 16777216 && Nat.beq (zeroL z).length (k + 1) with
       | true => some (.buildSlice e len (zerosL (zeroL z) len) (partsE (k + 1) parts.toList))
       | false => some .bad
     | _, _ => some .bad
   | _ => some .bad
 | .field t x f => match P.underlying t with
   | some (.struct fs) => match nthL fs.toList f with
     | some ⟨_, ft, off, _, _, _, _⟩ => match isAggT P ft, sizeT P ft with
       | some true, some n => some (.field true off n x)
       | some false, some _ => some (.field false off 1 x)
       | _, _ => some .bad
     | none => some .bad
   | _ => some .bad
 | .convert src dst x => match P.underlying src, P.underlying dst with
   | some (.int _), some (.int k) => some (.conv k x)
   | some (.slice e), some .string => match P.underlying e with
     | some (.int .u8) => some (.bytesS x)
     | _ => some (.raw op ty)
   | _, _ => some (.raw op ty)
 | .index t x i => match P.underlying t with
   | some .string => some (.idxS x i)
   | _ => some (.puref op ty)
 | .slice t x lo hi mx => match mx, P.underlying t with
   | none, some .string => some (.sliceS x lo hi)
   | none, some (.slice e) => match sizeT P e with
     | some k => some (.sliceL k x lo hi)
     | none => some .bad
   | _, _ => some (.puref op ty)
 | .makeInterface .. => some (.puref op ty)
 | .makeMap .. | .makeSlice .. | .lookup .. | .mapUpdate .. | .insert .. | .range .. | .next .. | .entry .. => some (.raw op ty)
 | _ => some .bad
def SV.sat (bs : Nat → Nat) : SV → Value → Prop
 | .val v, x => x = v
 | .loc i o, x => x = .pointer (some ⟨bs i, o, none⟩)
 | .junk, _ => True
structure Rel (n : Nat) (w0 : World) (h0 : PHeap) (s : St) (bs : Nat → Nat) (h : PHeap) (a : Act) (w : World) : Prop where
 size : a.tmps.size = n
 defers : a.defers = []
 regs : ∀ j, j < n → (s.regs j).sat bs (a.tmps.getD j undef)
 big : ∀ j i o, n ≤ j → s.regs j ≠ .loc i o ∧ ∀ v, s.regs j = .val v → v = undef
 sub : Sub w h
 keep : Keep w0 h0 w h
 loc : ∀ i, i < s.nl → w0.heap.size ≤ bs i ∧ h (bs i) = none ∧ ∃ t, w.heap[bs i]? = some (.cells ⟨s.locs i⟩ t (0, 0))
 inj : ∀ i j, i < s.nl → j < s.nl → bs i = bs j → i = j
 lt : ∀ j i o, j < n → s.regs j = .loc i o → i < s.nl
def Agree (n : Nat) (bs bs' : Nat → Nat) : Prop := ∀ i, i < n → bs' i = bs i
theorem beqSelf (j : Nat) : Nat.beq j j = true := Nat.beq_eq.symm ▸ rfl
theorem beqNe {j d : Nat} (h : j ≠ d) : Nat.beq j d = false := by
 cases hb : Nat.beq j d
 · rfl
 · exact absurd (Nat.eq_of_beq_eq_true hb) h
section
variable {P : Program} {n : Nat} {w0 : World} {h0 : PHeap} {s : St} {bs : Nat → Nat} {h : PHeap} {a : Act} {w : World}
theorem Rel.ev (r : Rel n w0 h0 s bs h a w) (x : Operand) : (s.ev x).sat bs (a.eval x) := by
 cases x with
 | tmp t =>
   simp only [St.ev, Act.eval]
   by_cases ht : t < n
   · exact r.regs t ht
   · have hb := r.big t 0 0 (Nat.le_of_not_lt ht)
     have : a.tmps.getD t undef = undef := by
      rw [Array.getD_eq_getD_getElem?, Array.getElem?_eq_none (by rw [r.size]; exact Nat.le_of_not_lt ht)]; rfl
     rw [this]
     cases hs : s.regs t with
     | val v => exact (hb.2 v hs).symm
     | loc i o => exact absurd hs (r.big t i o (Nat.le_of_not_lt ht)).1
     | junk => trivial
 | const v => rfl
 | global g => rfl
 | func f => rfl
theorem Rel.vv (r : Rel n w0 h0 s bs h a w) {x : Operand} {v : Value} (hx : s.ev x = .val v) : a.eval x = v ∧ s.vv x = v := by
 have := r.ev x
 rw [hx] at this
 exact ⟨this, by simp [St.vv, hx]⟩
theorem Rel.evloc (r : Rel n w0 h0 s bs h a w) {x : Operand} {i o : Nat} (hx : s.ev x = .loc i o) : a.eval x = .pointer (some ⟨bs i, o, none⟩) ∧ i < s.nl := by
 have := r.ev x
 rw [hx] at this
 refine ⟨this, ?_⟩
 cases x with
 | tmp t =>
   by_cases ht : t < n
   · exact r.lt t i o ht hx
   · exact absurd hx (r.big t i o (Nat.le_of_not_lt ht)).1
 | _ => simp [St.ev] at hx
theorem Rel.allVal (r : Rel n w0 h0 s bs h a w) : ∀ {l : List Operand}, allVal s l = true → ∀ x ∈ l, a.eval x = s.vv x
 | [], _, x, hx => by cases hx
 | y :: l, hl, x, hx => by
   simp only [Den.allVal] at hl
   split at hl
   · rename_i v hv
     cases hx with
     | head => have := r.vv hv; rw [this.1, this.2]
     | tail _ hm => exact r.allVal hl x hm
   · cases hl
theorem Rel.vals (r : Rel n w0 h0 s bs h a w) : ∀ {l : List Operand}, Den.allVal s l = true → l.map a.eval = Den.vals s l
 | [], _ => rfl
 | y :: l, hl => by
   have h1 := r.allVal hl y List.mem_cons_self
   have h2 : Den.allVal s l = true := by
    simp only [Den.allVal] at hl
    split at hl
    · exact hl
    · cases hl
   simp only [List.map_cons, Den.vals, h1, r.vals h2]
theorem Agree.refl (bs : Nat → Nat) : Agree n bs bs := fun _ _ => rfl
theorem Rel.put (r : Rel n w0 h0 s bs h a w) {d : Nat} (hd : d < n) {x : SV} {v : Value} (hx : x.sat bs v) (hl : ∀ i o, x = .loc i o → i < s.nl) :
 Rel n w0 h0 { s with regs := upd s.regs d x } bs h (a.put (some d) v) w where
 size := by simp [Act.put, r.size]
 defers := r.defers
 regs := fun j hj => by
  simp only [Act.put, upd]
  by_cases hjd : j = d
  · subst hjd
    have : Nat.beq j j = true := beqSelf j
    rw [this]
    have hsz : j < a.tmps.size := by rw [r.size]; exact hj
    simpa [Array.getElem?_setIfInBounds, hsz] using hx
  · have : Nat.beq j d = false := beqNe hjd
    rw [this]
    have := r.regs j hj
    simpa [Array.getElem?_setIfInBounds_ne (Ne.symm hjd)] using this
 big := fun j i o hj => by
  have : Nat.beq j d = false := beqNe (by omega)
  simp only [upd, this, cond_false]
  exact r.big j i o hj
 sub := r.sub
 keep := r.keep
 loc := r.loc
 inj := r.inj
 lt := fun j i o hj hh => by
  simp only [upd] at hh
  by_cases hjd : j = d
  · subst hjd
    have : Nat.beq j j = true := beqSelf j
    rw [this] at hh
    exact hl i o hh
  · have : Nat.beq j d = false := beqNe hjd
    rw [this] at hh
    exact r.lt j i o hj hh
end
end Go.Den
namespace Go.Den
open Go
def takeable : SOp → Bool
 | .mv _ | .pick .. | .nilCheck _ | .fieldAddr .. | .indexAddr .. | .indexArr .. | .len .. | .conv .. | .build .. | .field .. | .idxS .. | .sliceS .. | .sliceL .. | .addS .. | .eqS .. | .pure .. | .puref .. | .load .. => true
 | _ => false
abbrev Pen := List (Nat × (St → PHeap → Prop))
def denTake (P : Program) (op : SOp) (s : St) (h : PHeap) (K : SV → Option (St → PHeap → Prop) → Prop) : Prop :=
 match op with
 | .load agg n x => match s.ev x with
   | .loc i off => match Nat.ble (off + n) (s.locs i).length with
     | true => K (.val (packV agg (((s.locs i).drop off).take n))) (some fun s' _ => ((s'.locs i).drop off).take n = ((s.locs i).drop off).take n)
     | false => False
   | .val (.pointer (some ⟨b, off, none⟩)) => ∃ l : List Value, l.length = n ∧ h.row b off l ∧ K (.val (packV agg l)) (some fun _ h' => h'.row b off l)
   | _ => False
 | op => denOp P op s h fun x _ _ => K x none
def denTG (P : Program) (o : SOper) (s : St) (h : PHeap) (K : SV → St → Option (St → PHeap → Prop) → Prop) : Prop :=
 match o.guard with
 | none => denTake P o.op s h fun x => K x s
 | some (r, want) => match s.regs r with
   | .val (.bool c) => match want with
     | true => br c (denTake P o.op (s.lit r true) h fun x => K x (s.lit r true)) (K (.val undef) (s.lit r false) none)
     | false => br c (K (.val undef) (s.lit r true) none) (denTake P o.op (s.lit r false) h fun x => K x (s.lit r false))
   | .val (.tuple _) => K (.val undef) s none
   | _ => False
def addPen (i : Nat) (S : Option (St → PHeap → Prop)) (pen : Pen) : Pen :=
 match S with
 | some S => (i, S) :: pen
 | none => pen
def putD (n : Nat) (d : Option Nat) (x : SV) (s : St) (K : St → Prop) : Prop :=
 match d with
 | some d => match Nat.blt d n with
   | true => K { s with regs := upd s.regs d x }
   | false => False
 | none => K s
def memN (x : Nat) : List Nat → Bool
 | [] => false
 | y :: l => bif Nat.beq x y then true else memN x l
def subN (l m : List Nat) : Bool :=
 match l with
 | [] => true
 | x :: l => memN x m && subN l m
def readyL (done : List Nat) : Nat → List (SOper × List Nat) → List (Nat × SOper)
 | _, [] => []
 | i, (o, af) :: l => match !memN i done && subN af done with
   | true => (i, o) :: readyL done (i + 1) l
   | false => readyL done (i + 1) l
def firstTake : List (Nat × SOper) → Option (Nat × SOper)
 | [] => none
 | (i, o) :: l => match takeable o.op with
   | true => some (i, o)
   | false => firstTake l
def waitsN (l : List (SOper × List Nat)) (k i : Nat) : Bool :=
 match nthL l i with
 | some (_, af) => memN k af
 | none => false
def penOk (l : List (SOper × List Nat)) (i : Nat) (s : St) (h : PHeap) : Pen → (Pen → Prop) → Prop
 | [], K => K []
 | (k, S) :: pen, K => match waitsN l k i with
   | true => penOk l i s h pen K
   | false => S s h ∧ penOk l i s h pen fun r => K ((k, S) :: r)
def allR {α : Type} : List α → (α → Prop) → Prop
 | [], _ => True
 | [x], p => p x
 | x :: l, p => p x ∧ allR l p
def denA (P : Program) (n : Nat) (l : List (SOper × List Nat)) (Q : St → PHeap → Prop) : Nat → List Nat → Pen → St → PHeap → Prop
 | 0, done, _, s, h => match readyL done 0 l with
   | [] => Q s h
   | _ => False
 | fuel + 1, done, pen, s, h => match readyL done 0 l with
   | [] => Q s h
   | rs => match firstTake rs with
     | some (i, o) => denTG P o s h fun x s S => putD n o.dst x s fun s' => denA P n l Q fuel (i :: done) (addPen i S pen) s' h
     | none => allR rs fun p => denG P p.2 s h fun x s' h' => penOk l p.1 s' h' pen fun pen' => putD n p.2.dst x s' fun s'' => denA P n l Q fuel (p.1 :: done) pen' s'' h'
def lookN {α : Type} (j : Nat) : List (Nat × α) → Option α
 | [] => none
 | (i, x) :: l => bif Nat.beq j i then some x else lookN j l
def mkSt (s : St) (ws : List Nat) (V : List (Nat × SV)) (L : List (Nat × List Value)) : St where
 regs := fun j => match lookN j V with
  | some x => x
  | none => bif memN j ws then .junk else s.regs j
 nl := s.nl
 locs := fun i => match lookN i L with
  | some l => l
  | none => s.locs i
def fitL (f g : Nat → List Value) : Nat → Prop
 | 0 => True
 | 1 => f 0 = g 0
 | k + 1 => f k = g k ∧ fitL f g k
def fitR (f : Nat → SV) : List (Nat × SV) → Prop
 | [] => True
 | [(j, v)] => f j = v
 | (j, v) :: l => f j = v ∧ fitR f l
def vOk (k : Nat) (ws : List Nat) : List (Nat × SV) → Prop
 | [] => True
 | (j, x) :: l => match memN j ws && (match x with
  | .loc i _ => Nat.blt i k
  | _ => true) with
  | true => vOk k ws l
  | false => False
def den (P : Program) (n : Nat) : SCode → (Ex → St → PHeap → Prop) → St → PHeap → Prop
 | .skip, Q, s, h => Q .normal s h
 | .ops l, Q, s, h => denL P n l (Q .normal) s h
 | .draw l, Q, s, h => denA P n l (Q .normal) l.length [] [] s h
 | .seq a b, Q, s, h => den P n a (fun e s h => match e with
   | .normal => den P n b Q s h
   | .exit k => Q (.exit k) s h
   | .ret => Q .ret s h) s h
 | .cond c a b, Q, s, h => match s.ev c with
   | .val (.bool b') => br b' (den P n a Q (s.litO c true) h) (den P n b Q (s.litO c false) h)
   | _ => False
 | .block id c, Q, s, h => den P n c (fun e s h => match e with
   | .normal => Q .normal s h
   | .exit k => match Nat.beq k id with
     | true => Q .normal s h
     | false => Q (.exit k) s h
   | .ret => Q .ret s h) s h
 | .loop ws c, Q, s, h => ∃ (α : Type) (I : α → PHeap → Prop) (V : α → List (Nat × SV)) (L : α → List (Nat × List Value)) (μ : α → PHeap → Nat),
  (∃ x, I x h ∧ fitR s.regs (V x) ∧ fitL s.locs (mkSt s ws (V x) (L x)).locs s.nl) ∧
  (∀ x, vOk s.nl ws (V x)) ∧
  ∀ x h, I x h → den P n c (fun e s' h' => match e with
    | .normal => ∃ x', I x' h' ∧ μ x' h' < μ x h ∧ fitR s'.regs (V x') ∧ fitL s'.locs (mkSt s ws (V x') (L x')).locs s.nl
    | .exit k => Q (.exit k) s' h'
    | .ret => Q .ret s' h') (mkSt s ws (V x) (L x)) h
 | .exit k, Q, s, h => Q (.exit k) s h
 | .ret, Q, s, h => Q .ret s h
 | .bad, _, _, _ => False
def lowGuard (ops : Array Oper) : Option (Nat × Bool) → Option (Option (Nat × Bool))
 | none => some none
 | some (j, b) => match nthL ops.toList j with
   | some ⟨some r, _, _, _, _, _⟩ => some (some (r, b))
   | _ => none
def lowOper (P : Program) (esc : Nat → Bool) (ops : Array Oper) : Oper → Option SOper
 | ⟨dst, op, ty, _, _, g⟩ => match lowOp P esc dst op ty, lowGuard ops g with
   | some op, some g => some ⟨dst, op, g⟩
   | _, _ => none
theorem nthL_eq {α : Type} : ∀ (l : List α) (i : Nat), nthL l i = l[i]?
 | [], _ => by simp [nthL]
 | x :: _, 0 => by simp [nthL]
 | _ :: l, i + 1 => by simp [nthL, nthL_eq l i]
theorem lowOper_eq (P : Program) (esc : Nat → Bool) (ops : Array Oper) (o : Oper) : lowOper P esc ops o = match lowOp P esc o.dst o.op o.type, lowGuard ops o.guard with
 | some op, some g => some ⟨o.dst, op, g⟩
 | _, _ => none := by cases o; rfl
def lowOpers (P : Program) (esc : Nat → Bool) (ops : Array Oper) : List Oper → Option (List SOper)
 | [] => some []
 | o :: l => match lowOper P esc ops o, lowOpers P esc ops l with
   | some x, some xs => some (x :: xs)
   | _, _ => none
def edgesL : List Edge → List Nat
 | [] => []
 | ⟨k, g⟩ :: l => match Region.binds .any ⟨k, g⟩ with
   | true => k :: edgesL l
   | false => edgesL l
def edges : Oper → List Nat
 | ⟨_, _, _, _, af, _⟩ => edgesL af.toList
def lowDraw (P : Program) (esc : Nat → Bool) (ops : Array Oper) : List Oper → Option (List (SOper × List Nat))
 | [] => some []
 | o :: l => match lowOper P esc ops o, lowDraw P esc ops l with
   | some x, some xs => some ((x, edges o) :: xs)
   | _, _ => none
def isSelect : Op → Bool
 | .select .. => true
 | _ => false
def apartOk (ops : Array Oper) (l : List Oper) : Bool :=
 l.zipIdx.all fun (x, i) => !isSelect x.op && l.zipIdx.all fun (y, j) => Nat.beq i j || memN i (edges y) || memN j (edges x) || x.apart ops y
def writesOf : List SOper → List Nat
 | [] => []
 | o :: l => match o.dst with
   | some d => d :: writesOf l
   | none => writesOf l
def swrites : SCode → List Nat
 | .ops l => writesOf l
 | .draw l => writesOf (l.map (·.1))
 | .seq a b => swrites a ++ swrites b
 | .cond _ a b => swrites a ++ swrites b
 | .block _ c => swrites c
 | .loop ws c => ws ++ swrites c
 | _ => []
def dedupN : List Nat → List Nat
 | [] => []
 | x :: l => bif memN x (dedupN l) then dedupN l else x :: dedupN l
def low (P : Program) (esc : Nat → Bool) : Code → Option SCode
 | .skip => some .skip
 | .region _ ops false => (lowOpers P esc ops ops.toList).map .ops
 | .region _ ops true => match apartOk ops ops.toList, lowDraw P esc ops ops.toList with
   | true, some l => some (.draw l)
   | _, _ => none
 | .seq a b => match low P esc a, low P esc b with
   | some x, some y => some (.seq x y)
   | _, _ => none
 | .cond c a b => match low P esc a, low P esc b with
   | some x, some y => some (.cond c x y)
   | _, _ => none
 | .block id c => (low P esc c).map (.block id)
 | .loop c => (low P esc c).map fun x => .loop (dedupN (swrites x)) x
 | .exit id => some (.exit id)
 | .ret => some .ret
 | .scope _ => some .bad
 | .label _ => some .bad
 | .goto _ => some .bad
 | .refuse _ => some .bad
 | .rangeFunc .. => some .bad
end Go.Den
namespace Go.Den
open Go
section
variable {P : Program} {n : Nat} {w0 : World} {h0 : PHeap} {s : St} {bs : Nat → Nat} {h : PHeap} {a : Act} {w : World}
theorem addNone (b o k : Nat) : (⟨b, o, none⟩ : Addr).add k = ⟨b, o + k, none⟩ := by
 unfold Addr.add; split <;> simp_all
theorem Sub.cell (hs : Sub w h) {b o : Nat} {v : Value} (hc : h.cell b o = some v) : w.cell? ⟨b, o, none⟩ = some v := by
 unfold PHeap.cell at hc
 split at hc
 · rename_i c t f hb
   simp [World.cell?, hs _ _ hb, hc]
 · cases hc
theorem PHeap.row_get {b : Nat} : ∀ {l : List Value} {o : Nat}, h.row b o l → ∀ j v, l[j]? = some v → h.cell b (o + j) = some v
 | [], _, _, j, v, hj => by simp at hj
 | [x], o, hr, j, v, hj => by
   cases j with
   | zero => simp at hj; subst hj; exact hr
   | succ j => simp at hj
 | x :: y :: l, o, hr, j, v, hj => by
   cases j with
   | zero => simp at hj; subst hj; exact hr.1
   | succ j =>
     have := PHeap.row_get hr.2 j v (by simpa using hj)
     rw [show o + (j + 1) = o + 1 + j by omega]; exact this
theorem Sub.row (hs : Sub w h) {b o : Nat} {l : List Value} (hr : h.row b o l) (j : Nat) (v : Value) (hj : l[j]? = some v) :
 w.cell? ((⟨b, o, none⟩ : Addr).add j) = some v := by
 rw [addNone]; exact hs.cell (PHeap.row_get hr j v hj)
theorem isAggT_true {t : TypeId} (ht : isAggT P t = some true) : (isAgg t).run P w = .ok true w := by
 unfold isAggT at ht
 unfold isAgg underlying
 cases hu : P.underlying t with
 | none => rw [hu] at ht; cases ht
 | some d =>
   rw [hu] at ht
   cases d <;> simp_all [program, Sem.run]
theorem isAggT_false {t : TypeId} (ht : isAggT P t = some false) : (isAgg t).run P w = .ok false w := by
 unfold isAggT at ht
 unfold isAgg underlying
 cases hu : P.underlying t with
 | none => rw [hu] at ht; cases ht
 | some d =>
   rw [hu] at ht
   cases d <;> simp_all [program, Sem.run]
theorem zeroL_eq (z : Value) : zeroL z = z.cells.toList := by cases z <;> rfl
theorem sizeT_run {t : TypeId} {k : Nat} (ht : sizeT P t = some k) : (sizeOf t).run P w = .ok k w := by
 unfold sizeT at ht
 unfold sizeOf typeInfo
 cases hu : P.info? t with
 | none => rw [hu] at ht; cases ht
 | some i =>
   rw [hu] at ht
   simp_all [program, Sem.run]
theorem run_loadAgg {t : TypeId} {b o : Nat} {l : List Value} (ha : isAggT P t = some true) (hz : sizeT P t = some l.length)
 (hc : ∀ j v, l[j]? = some v → w.cell? ((⟨b, o, none⟩ : Addr).add j) = some v) : (loadVar t ⟨b, o, none⟩).run P w = .ok (.agg ⟨l⟩) w := by
 unfold loadVar
 simp only [Sem.run_bind, isAggT_true ha, Result.andThen_ok, if_true, sizeT_run hz, run_loadCells_list w _ l hc, Sem.run_pure]
theorem run_loadOne {t : TypeId} {b o : Nat} {v : Value} (ha : isAggT P t = some false)
 (hc : w.cell? ⟨b, o, none⟩ = some v) : (loadVar t ⟨b, o, none⟩).run P w = .ok v w := by
 unfold loadVar
 simp [isAggT_false ha, hc]
theorem run_storeAny {t : TypeId} {b o : Nat} {v : Value} {cur : List Value} {e : TypeId} {fz : Nat × Nat} (hz : sizeT P t = some (cellsL v).length)
 (hb : w.heap[b]? = some (.cells ⟨cur⟩ e fz)) (hf : fz.2 ≤ o) (hl : o + (cellsL v).length ≤ cur.length) (h1 : allOne (cellsL v) = true) :
 (storeVar t ⟨b, o, none⟩ v).run P w = .ok () (w.setRow b ⟨splice cur o (cellsL v)⟩) := by
 have hone : ∀ l : List Value, allOne l = true → ∀ x ∈ l, x.oneCell' = true := by
  intro l
  induction l with
  | nil => intro _ x hx; cases hx
  | cons y l ih =>
    intro hl x hx
    simp only [allOne, Bool.and_eq_true] at hl
    cases hx with
    | head => exact hl.1
    | tail _ hm => exact ih hl.2 x hm
 have hst := Go.run_storeCells_atF P b o e fz (cellsL v) 0 ⟨cur⟩ w hb (by omega) (by simpa using hl) (hone _ h1)
 unfold storeVar
 simp only [Sem.run_bind, sizeT_run hz, Result.andThen_ok]
 have : v.cells.size = (cellsL v).length := by simp [cellsL]
 rw [this]
 simp only [ne_eq, not_true_eq_false, if_false]
 show (storeCells ⟨b, o, none⟩ (cellsL v) 0).run P w = _
 rw [hst]
 simp [splice]
end
end Go.Den
namespace Go.Den
open Go
theorem Keep.refl (w : World) (h : PHeap) : Keep w h w h := ⟨rfl, rfl, rfl, Nat.le_refl _, fun _ _ hk => ⟨hk, rfl⟩⟩
theorem Keep.trans {w w' w'' : World} {h h' h'' : PHeap} (k : Keep w h w' h') (k' : Keep w' h' w'' h'') : Keep w h w'' h'' :=
 ⟨k'.os.trans k.os, k'.tape.trans k.tape, k'.output.trans k.output, Nat.le_trans k.size k'.size, fun i hi hn =>
  have h1 := k.out i hi hn
  have h2 := k'.out i (Nat.lt_of_lt_of_le hi k.size) h1.1
  ⟨h2.1, h2.2.trans h1.2⟩⟩
section
variable {P : Program} {n : Nat} {w0 : World} {h0 : PHeap} {s : St} {bs : Nat → Nat} {h : PHeap} {a : Act} {w : World}
theorem Sub.fresh (hs : Sub w h) : h w.heap.size = none := by
 cases hh : h w.heap.size with
 | none => rfl
 | some o => have := hs _ _ hh; simp at this
theorem heap_alloc_lt (w : World) (o : Obj) {k : Nat} (hk : k < w.heap.size) : (w.alloc o).heap[k]? = w.heap[k]? := by
 show (w.heap.push o)[k]? = _
 rw [Array.getElem?_push, if_neg (by omega)]
theorem heap_alloc_new (w : World) (o : Obj) : (w.alloc o).heap[w.heap.size]? = some o := by
 show (w.heap.push o)[w.heap.size]? = _
 simp
theorem size_alloc' (w : World) (o : Obj) : (w.alloc o).heap.size = w.heap.size + 1 := by
 show (w.heap.push o).size = _
 simp
theorem lt_of_heap {w : World} {k : Nat} {o : Obj} (hk : w.heap[k]? = some o) : k < w.heap.size := (Array.getElem?_eq_some_iff.1 hk).1
theorem Keep.alloc (w : World) (h : PHeap) (o : Obj) : Keep w h (w.alloc o) h :=
 ⟨rfl, rfl, rfl, by rw [size_alloc']; omega, fun k hk hn => ⟨hn, heap_alloc_lt w o hk⟩⟩
theorem Keep.allocReal (w : World) (h : PHeap) (o : Obj) : Keep w h (w.alloc o) (h.put w.heap.size o) :=
 ⟨rfl, rfl, rfl, by rw [size_alloc']; omega, fun k hk hn => ⟨by simp only [PHeap.put]; rw [if_neg (by omega)]; exact hn, heap_alloc_lt w o hk⟩⟩
theorem Sub.allocReal (hs : Sub w h) (o : Obj) : Sub (w.alloc o) (h.put w.heap.size o) := by
 intro k o' hk
 simp only [PHeap.put] at hk
 split at hk
 · rename_i e; subst e; cases hk; exact heap_alloc_new w o
 · have := hs _ _ hk; rw [heap_alloc_lt w o (lt_of_heap this)]; exact this
theorem Rel.step (r : Rel n w0 h0 s bs h a w) {w' : World} {h' : PHeap} (hs : Sub w' h') (hk : Keep w h w' h') : Rel n w0 h0 s bs h' a w' where
 size := r.size
 defers := r.defers
 regs := r.regs
 big := r.big
 sub := hs
 keep := r.keep.trans hk
 loc := fun i hi => by
  obtain ⟨h1, h2, t, h3⟩ := r.loc i hi
  have := hk.out (bs i) (lt_of_heap h3) h2
  exact ⟨h1, this.1, t, this.2.trans h3⟩
 inj := r.inj
 lt := r.lt
theorem Rel.newReal (r : Rel n w0 h0 s bs h a w) (o : Obj) : Rel n w0 h0 s bs (h.put w.heap.size o) a (w.alloc o) :=
 r.step (r.sub.allocReal o) (Keep.allocReal w h o)
theorem SV.sat_agree {bs' : Nat → Nat} {m : Nat} (hb : Agree m bs bs') {x : SV} {v : Value} (hl : ∀ i o, x = .loc i o → i < m) (hx : x.sat bs v) : x.sat bs' v := by
 cases x with
 | val u => exact hx
 | loc i o => have := hb i (hl i o rfl); simp only [SV.sat] at *; rw [this]; exact hx
 | junk => trivial
theorem updSame {α : Type} (f : Nat → α) (i : Nat) (x : α) : upd f i x i = x := by simp only [upd, beqSelf, cond_true]
theorem updNe {α : Type} (f : Nat → α) {i j : Nat} (x : α) (hj : j ≠ i) : upd f i x j = f j := by simp only [upd, beqNe hj, cond_false]
theorem Rel.newLocal (r : Rel n w0 h0 s bs h a w) (l : List Value) (t : TypeId) :
 Rel n w0 h0 (s.newL l) (upd bs s.nl w.heap.size) h a (w.alloc (.cells ⟨l⟩ t)) ∧ Agree s.nl bs (upd bs s.nl w.heap.size) := by
 have hag : Agree s.nl bs (upd bs s.nl w.heap.size) := fun i hi => updNe bs _ (by omega)
 refine ⟨⟨r.size, r.defers, fun j hj => SV.sat_agree hag (fun i o e => r.lt j i o hj e) (r.regs j hj), r.big, ?_, r.keep.trans (Keep.alloc w h _), ?_, ?_, ?_⟩, hag⟩
 · intro k o hk
   have := r.sub _ _ hk; rw [heap_alloc_lt _ _ (lt_of_heap this)]; exact this
 · intro i hi
   simp only [St.newL] at hi ⊢
   by_cases hin : i = s.nl
   · subst hin
     rw [updSame, updSame]
     refine ⟨r.keep.size, r.sub.fresh, t, heap_alloc_new w _⟩
   · rw [updNe _ _ hin, updNe _ _ hin]
     obtain ⟨h1, h2, t, h3⟩ := r.loc i (by omega)
     exact ⟨h1, h2, t, by rw [heap_alloc_lt _ _ (lt_of_heap h3)]; exact h3⟩
 · intro i j hi hj he
   simp only [St.newL] at hi hj
   by_cases hin : i = s.nl <;> by_cases hjn : j = s.nl
   · omega
   · subst hin
     rw [updSame, updNe _ _ hjn] at he
     obtain ⟨_, _, t, h3⟩ := r.loc j (by omega)
     have := lt_of_heap h3; omega
   · subst hjn
     rw [updSame, updNe _ _ hin] at he
     obtain ⟨_, _, t, h3⟩ := r.loc i (by omega)
     have := lt_of_heap h3; omega
   · rw [updNe _ _ hin, updNe _ _ hjn] at he
     exact r.inj i j (by omega) (by omega) he
 · intro j i o hj he
   have := r.lt j i o hj he
   simp only [St.newL]; omega
theorem Rel.setLocal (r : Rel n w0 h0 s bs h a w) {i : Nat} (hi : i < s.nl) (l : List Value) :
 Rel n w0 h0 (s.setL i l) bs h a (w.setRow (bs i) ⟨l⟩) where
 size := r.size
 defers := r.defers
 regs := r.regs
 big := r.big
 sub := fun k o hk => by
  have h1 := r.sub _ _ hk
  have : k ≠ bs i := fun e => by subst e; rw [(r.loc i hi).2.1] at hk; cases hk
  rw [setRow_other _ _ _ _ this]; exact h1
 keep := by
  obtain ⟨h1, h2, t, h3⟩ := r.loc i hi
  refine ⟨r.keep.os, r.keep.tape, r.keep.output, by rw [size_setRow]; exact r.keep.size, fun k hk hn => ?_⟩
  have := r.keep.out k hk hn
  exact ⟨this.1, by rw [setRow_other _ _ _ _ (by omega)]; exact this.2⟩
 loc := fun j hj => by
  have hj' : j < s.nl := hj
  obtain ⟨h1, h2, t, h3⟩ := r.loc j hj'
  by_cases hji : j = i
  · subst hji
    refine ⟨h1, h2, t, ?_⟩
    simp only [St.setL, updSame]
    exact setRow_heap _ _ _ _ _ _ h3
  · refine ⟨h1, h2, t, ?_⟩
    simp only [St.setL, updNe _ _ hji]
    rw [setRow_other _ _ _ _ (fun e => hji (r.inj j i hj' hi e))]; exact h3
 inj := r.inj
 lt := r.lt
theorem Rel.setReal (r : Rel n w0 h0 s bs h a w) {b : Nat} {l l' : List Value} {t : TypeId} {fz : Nat × Nat} (hb : h b = some (.cells ⟨l⟩ t fz)) :
 Rel n w0 h0 s bs (h.put b (.cells ⟨l'⟩ t fz)) a (w.setRow b ⟨l'⟩) := by
 refine r.step ?_ ⟨rfl, rfl, rfl, by rw [size_setRow]; exact Nat.le_refl _, fun k hk hn => ?_⟩
 · intro k o hk
   simp only [PHeap.put] at hk
   split at hk
   · rename_i e; subst e; cases hk
     exact setRow_heap _ _ _ _ _ _ (r.sub _ _ hb)
   · rename_i e
     rw [setRow_other _ _ _ _ e]; exact r.sub _ _ hk
 · have : k ≠ b := fun e => by subst e; rw [hb] at hn; cases hn
   exact ⟨by simp only [PHeap.put]; rw [if_neg this]; exact hn, setRow_other _ _ _ _ this⟩
end
end Go.Den
namespace Go.Den
open Go
section
variable {P : Program} {n : Nat} {w0 : World} {h0 : PHeap} {s : St} {bs : Nat → Nat} {h : PHeap} {a : Act} {w : World}
def Nxt (n : Nat) (w0 : World) (h0 : PHeap) (s : St) (bs : Nat → Nat) (a : Act) (K : SV → St → PHeap → Prop) (next : Value → World → Prop) : Prop :=
 ∀ x s' h' bs' v w', K x s' h' → x.sat bs' v → Rel n w0 h0 s' bs' h' a w' → Agree s.nl bs bs' → s.nl ≤ s'.nl → (∀ i off, x = .loc i off → i < s'.nl) → next v w'
variable {K : SV → St → PHeap → Prop} {next : Act → World → Prop} {Q : Exit → Act → World → Prop} {o : Oper}
theorem wp_of_run {v : Value} {w' : World} (hrun : (execOp a.eval o).run P w = .ok (.value v) w') (hn : next (a.put o.dst v) w') : o.wp P a w next Q := by
 unfold Oper.wp; rw [hrun]; exact hn
theorem wp_of_skip {w' : World} (hrun : (execOp a.eval o).run P w = .ok .skip w') (hn : next (a.put o.dst undef) w') : o.wp P a w next Q := by
 unfold Oper.wp; rw [hrun]; exact hn
theorem St.ev_loc_lt (r : Rel n w0 h0 s bs h a w) (x : Operand) : ∀ i off, s.ev x = .loc i off → i < s.nl := fun _ _ e => (r.evloc e).2
theorem sound_mv {x : Operand} (hop : o.op = .move x ∨ o.op = .assign x) (r : Rel n w0 h0 s bs h a w) (hd : denOp P (.mv x) s h K)
 (hn : Nxt n w0 h0 s bs a K fun v => next (a.put o.dst v)) : o.wp P a w next Q := by
 have hrun : (execOp a.eval o).run P w = .ok (.value (a.eval x)) w := by
  rcases hop with e | e <;> simp [execOp, e]
 exact wp_of_run hrun (hn _ s h bs _ w hd (r.ev x) r (Agree.refl bs) (Nat.le_refl _) (St.ev_loc_lt r x))
theorem sound_pick {c x y : Operand} (hop : o.op = .pick c x y) (r : Rel n w0 h0 s bs h a w) (hd : denOp P (.pick c x y) s h K)
 (hn : Nxt n w0 h0 s bs a K fun v => next (a.put o.dst v)) : o.wp P a w next Q := by
 simp only [denOp] at hd
 split at hd
 · rename_i b hb
   have hc := (r.vv hb).1
   have hrun : (execOp a.eval o).run P w = .ok (.value (if b then a.eval x else a.eval y)) w := by
    simp [execOp, hop, hc, asBool]
   cases b
   · exact wp_of_run hrun (hn _ s h bs _ w hd (r.ev y) r (Agree.refl bs) (Nat.le_refl _) (St.ev_loc_lt r y))
   · exact wp_of_run hrun (hn _ s h bs _ w hd (r.ev x) r (Agree.refl bs) (Nat.le_refl _) (St.ev_loc_lt r x))
 · exact hd.elim
theorem run_allocOp {t : TypeId} {z : Value} (hop : o.op = .alloc t) (hz : (P.info? t).bind (·.zero) = some z) :
 (execOp a.eval o).run P w = .ok (.value (.pointer (some ⟨w.heap.size, 0, none⟩))) (w.alloc (.cells ⟨z.cells.toList⟩ t)) := by
 cases hi : P.info? t with
 | none => rw [hi] at hz; cases hz
 | some i =>
   rw [hi] at hz
   have hz' : i.zero = some z := hz
   simp [execOp, hop, Instr.alloc, zeroValue, typeInfo, program, hi, hz', newVar, newRow, newObj, Sem.run]
theorem sound_alloc {t : TypeId} {z : Value} {e : Bool} (hop : o.op = .alloc t) (hz : (P.info? t).bind (·.zero) = some z) (r : Rel n w0 h0 s bs h a w)
 (hd : denOp P (.alloc t z.cells.toList e) s h K) (hn : Nxt n w0 h0 s bs a K fun v => next (a.put o.dst v)) : o.wp P a w next Q := by
 have hrun := run_allocOp (a := a) (w := w) hop hz
 cases e with
 | false =>
   obtain ⟨r', hag⟩ := r.newLocal z.cells.toList t
   exact wp_of_run hrun (hn _ _ h _ _ _ hd (by simp only [SV.sat, updSame]) r' hag (by simp [St.newL]) (fun i off e => by cases e; simp [St.newL]))
 | true => exact wp_of_run hrun (hn _ s _ bs _ _ (hd _ r.sub.fresh) rfl (r.newReal _) (Agree.refl bs) (Nat.le_refl _) (fun i off e => by cases e))
theorem sound_box {t : TypeId} {x : Operand} {e : Bool} (hop : o.op = .box t x) (r : Rel n w0 h0 s bs h a w)
 (hd : denOp P (.box t x e) s h K) (hn : Nxt n w0 h0 s bs a K fun v => next (a.put o.dst v)) : o.wp P a w next Q := by
 simp only [denOp] at hd
 split at hd
 · rename_i v hv
   have hc := (r.vv hv).1
   have hrun : (execOp a.eval o).run P w = .ok (.value (.pointer (some ⟨w.heap.size, 0, none⟩))) (w.alloc (.cells ⟨cellsL v⟩ t)) := by
    simp [execOp, hop, hc, Instr.box, newVar, newRow, newObj, Sem.run, cellsL]
   cases e with
   | false =>
     obtain ⟨r', hag⟩ := r.newLocal (cellsL v) t
     exact wp_of_run hrun (hn _ _ h _ _ _ hd (by simp only [SV.sat, updSame]) r' hag (by simp [St.newL]) (fun i off e => by cases e; simp [St.newL]))
   | true => exact wp_of_run hrun (hn _ s _ bs _ _ (hd _ r.sub.fresh) rfl (r.newReal _) (Agree.refl bs) (Nat.le_refl _) (fun i off e => by cases e))
 · exact hd.elim
theorem drop_take_get {l : List Value} {o k j : Nat} {v : Value} (hj : ((l.drop o).take k)[j]? = some v) : l[o + j]? = some v := by
 rw [List.getElem?_take] at hj
 split at hj
 · rw [List.getElem?_drop] at hj; exact hj
 · cases hj
theorem Rel.localCell (r : Rel n w0 h0 s bs h a w) {i : Nat} (hi : i < s.nl) {j : Nat} {v : Value} (hj : (s.locs i)[j]? = some v) : w.cell? ⟨bs i, j, none⟩ = some v := by
 obtain ⟨_, _, t, h3⟩ := r.loc i hi
 simp [World.cell?, h3, hj]
theorem run_loadCellsT {t : TypeId} {agg : Bool} {x : Operand} {b off : Nat} {l : List Value} (hop : o.op = .load t x) (hx : a.eval x = .pointer (some ⟨b, off, none⟩))
 (ha : isAggT P t = some agg) (hz : agg = true → sizeT P t = some l.length) (h1 : agg = false → l.length = 1)
 (hc : ∀ j v, l[j]? = some v → w.cell? ((⟨b, off, none⟩ : Addr).add j) = some v) : (execOp a.eval o).run P w = .ok (.value (packV agg l)) w := by
 cases agg with
 | true => simp [execOp, hop, hx, Instr.loadAt, Instr.sureAddr, run_loadAgg ha (hz rfl) hc, packV]
 | false =>
   match l, h1 rfl with
   | [v], _ =>
     have := hc 0 v rfl
     rw [addNone, Nat.add_zero] at this
     simp [execOp, hop, hx, Instr.loadAt, Instr.sureAddr, run_loadOne (v := v) ha this, packV]
theorem lowLoad {t : TypeId} {x : Operand} {esc : Nat → Bool} {so : SOp} (hop : o.op = .load t x) (hl : lowOp P esc o.dst o.op o.type = some so) :
 so = .bad ∨ ∃ agg k, so = .load agg k x ∧ isAggT P t = some agg ∧ (agg = true → sizeT P t = some k) ∧ (agg = false → k = 1) := by
 simp only [lowOp, hop] at hl
 split at hl
 · rename_i h1 h2; cases hl; exact .inr ⟨true, _, rfl, h1, fun _ => h2, fun e => by cases e⟩
 · rename_i h1 h2; cases hl; exact .inr ⟨false, 1, rfl, h1, (fun e => by cases e), fun _ => rfl⟩
 · cases hl; exact .inl rfl
theorem sound_load {t : TypeId} {x : Operand} {agg : Bool} {k : Nat} (hop : o.op = .load t x) (ha : isAggT P t = some agg) (hz : agg = true → sizeT P t = some k) (h1 : agg = false → k = 1)
 (r : Rel n w0 h0 s bs h a w) (hd : denOp P (.load agg k x) s h K) (hn : Nxt n w0 h0 s bs a K fun v => next (a.put o.dst v)) : o.wp P a w next Q := by
 simp only [denOp] at hd
 split at hd
 · rename_i i off hx
   obtain ⟨hx', hi⟩ := r.evloc hx
   split at hd
   · rename_i hle
     have hle := Nat.le_of_ble_eq_true hle
     have hlen : (((s.locs i).drop off).take k).length = k := by simp; omega
     have hrun := run_loadCellsT (w := w) (l := ((s.locs i).drop off).take k) hop hx' ha (fun e => by rw [hlen]; exact hz e) (fun e => by rw [hlen]; exact h1 e)
      (fun j v hj => by rw [addNone]; exact r.localCell hi (drop_take_get hj))
     exact wp_of_run hrun (hn _ s h bs _ w hd rfl r (Agree.refl bs) (Nat.le_refl _) (fun i off e => by cases e))
   · exact hd.elim
 · rename_i b off hx
   obtain ⟨l, hlen, hrow, hk⟩ := hd
   have hrun := run_loadCellsT (w := w) (l := l) hop (r.vv hx).1 ha (fun e => by rw [hlen]; exact hz e) (fun e => by rw [hlen]; exact h1 e) (fun j v hj => r.sub.row hrow j v hj)
   exact wp_of_run hrun (hn _ s h bs _ w hk rfl r (Agree.refl bs) (Nat.le_refl _) (fun i off e => by cases e))
 · exact hd.elim
theorem sound_store {t : TypeId} {x y : Operand} {k : Nat} (hop : o.op = .store t x y) (hz : sizeT P t = some k)
 (r : Rel n w0 h0 s bs h a w) (hd : denOp P (.store k x y) s h K) (hn : Nxt n w0 h0 s bs a K fun v => next (a.put o.dst v)) : o.wp P a w next Q := by
 simp only [denOp] at hd
 split at hd
 · rename_i v hv
   have hv' := (r.vv hv).1
   split at hd
   · rename_i hb
     simp only [Bool.and_eq_true] at hb
     obtain ⟨hlen, hone⟩ := hb
     have hlen : (cellsL v).length = k := Nat.eq_of_beq_eq_true hlen
     have hz' : sizeT P t = some (cellsL v).length := by rw [hlen]; exact hz
     split at hd
     · rename_i i off hx
       obtain ⟨hx', hi⟩ := r.evloc hx
       split at hd
       · rename_i hle
         have hle := Nat.le_of_ble_eq_true hle
         obtain ⟨_, _, e, h3⟩ := r.loc i hi
         have hst := run_storeAny (P := P) (o := off) hz' h3 (Nat.zero_le _) (by omega) hone
         have hrun : (execOp a.eval o).run P w = .ok .skip (w.setRow (bs i) ⟨splice (s.locs i) off (cellsL v)⟩) := by
          simp [execOp, hop, hx', hv', Instr.storeAt, Instr.sureAddr, hst]
         exact wp_of_skip hrun (hn _ _ h bs _ _ hd rfl (r.setLocal hi _) (Agree.refl bs) (Nat.le_refl _) (fun i off e => by cases e))
       · exact hd.elim
     · rename_i b off hx
       obtain ⟨l, e, fz, hb, ⟨hle, hfz⟩, hk⟩ := hd
       have hst := run_storeAny (P := P) (o := off) hz' (r.sub _ _ hb) hfz (by omega) hone
       have hrun : (execOp a.eval o).run P w = .ok .skip (w.setRow b ⟨splice l off (cellsL v)⟩) := by
        simp [execOp, hop, (r.vv hx).1, hv', Instr.storeAt, Instr.sureAddr, hst]
       exact wp_of_skip hrun (hn _ s _ bs _ _ hk rfl (r.setReal hb) (Agree.refl bs) (Nat.le_refl _) (fun i off e => by cases e))
     · exact hd.elim
   · exact hd.elim
 · exact hd.elim
end
end Go.Den
namespace Go.Den
open Go
section
variable {P : Program} {n : Nat} {w0 : World} {h0 : PHeap} {s : St} {bs : Nat → Nat} {h : PHeap} {a : Act} {w : World}
theorem splice_cons {l : List Value} {o : Nat} {v : Value} {vs : List Value} (hl : o < l.length) : splice (l.set o v) (o + 1) vs = splice l o (v :: vs) := by
 unfold splice
 have h1 : (l.set o v).take (o + 1) = l.take o ++ [v] := by
  apply List.ext_getElem?
  intro i
  rcases Nat.lt_trichotomy i o with hi | hi | hi
  · rw [List.getElem?_take, if_pos (by omega), List.getElem?_set_ne (by omega), List.getElem?_append, if_pos (by simp; omega), List.getElem?_take, if_pos hi]
  · subst hi
    rw [List.getElem?_take, if_pos (by omega), List.getElem?_set_self hl, List.getElem?_append, if_neg (by simp; omega)]
    simp [Nat.min_eq_left (Nat.le_of_lt hl)]
  · rw [List.getElem?_take, if_neg (by omega), List.getElem?_eq_none (by simp; omega)]
 have h2 : (l.set o v).drop (o + 1 + vs.length) = l.drop (o + (v :: vs).length) := by
  rw [List.drop_set_of_lt (by omega)]
  simp only [List.length_cons]
  congr 1
  omega
 rw [h1, h2]
 simp
theorem splice_nil {l : List Value} {o : Nat} : splice l o [] = l := by simp [splice]
theorem foldl_splice (off : Nat) : ∀ (vs : List Value) (k : Nat) (cs : Array Value), off + k + vs.length ≤ cs.size →
 (vs.zipIdx k).foldl (fun (cs : Array Value) (p : Value × Nat) => cs.setIfInBounds (off + p.2) p.1) cs = ⟨splice cs.toList (off + k) vs⟩
 | [], k, cs, _ => by simp [splice_nil]
 | v :: vs, k, cs, hl => by
   simp only [List.length_cons] at hl
   rw [List.zipIdx_cons, List.foldl_cons, foldl_splice off vs (k + 1) _ (by simp; omega)]
   congr 1
   simp only [Array.toList_setIfInBounds]
   rw [show off + (k + 1) = off + k + 1 by omega]
   exact splice_cons (by simp; omega)
theorem fill_step {place : Nat → Option (Nat × Nat)} {cells : List Value} {i off k : Nat} {v : Value} {rest : List (Nat × Value)} (hp : place i = some (off, k)) (hk : (cellsL v).length = k) (hl : off + k ≤ cells.length) :
 Instr.fill place ⟨cells⟩ ((i, v) :: rest) = Instr.fill place ⟨splice cells off (cellsL v)⟩ rest := by
 have hsz : v.cells.size = k := by rw [← hk]; simp [cellsL]
 have hfold : v.cells.zipIdx.foldl (fun cs (c, j) => cs.setIfInBounds (off + j) c) (⟨cells⟩ : Array Value) = ⟨splice cells off (cellsL v)⟩ := by
  have := foldl_splice off (cellsL v) 0 ⟨cells⟩ (by simp; omega)
  rw [Nat.add_zero] at this
  rw [← Array.foldl_toList, Array.toList_zipIdx]
  exact this
 simp only [Instr.fill, hp, hsz]
 rw [if_neg (by simp; omega), hfold]
def Placed (place : Nat → Option (Nat × Nat)) : List (Nat × Operand) → List (Nat × Nat × Operand) → Prop
 | [], [] => True
 | (i, x) :: l, (off, k, y) :: m => place i = some (off, k) ∧ x = y ∧ Placed place l m
 | _, _ => False
theorem fillL_sound (r : Rel n w0 h0 s bs h a w) {place : Nat → Option (Nat × Nat)} : ∀ {ps : List (Nat × Operand)} {ls : List (Nat × Nat × Operand)} {cells : List Value} {K : List Value → Prop}, Placed place ps ls → fillL s cells ls K →
 ∃ l, K l ∧ Instr.fill place ⟨cells⟩ (ps.map fun (p : Nat × Operand) => (p.1, a.eval p.2)) = some ⟨l⟩
 | [], [], cells, K, _, hd => ⟨cells, hd, rfl⟩
 | (i, x) :: ps, (off, k, y) :: ls, cells, K, hp, hd => by
   obtain ⟨hpl, rfl, hp⟩ := hp
   unfold fillL at hd
   split at hd
   · rename_i v hv
     split at hd
     · rename_i hb
       simp only [Bool.and_eq_true] at hb
       obtain ⟨l, hK, hf⟩ := fillL_sound r hp hd
       refine ⟨l, hK, ?_⟩
       rw [List.map_cons]
       simp only [(r.vv hv).1]
       rw [fill_step hpl (Nat.eq_of_beq_eq_true hb.1) (Nat.le_of_ble_eq_true hb.2)]
       exact hf
     · exact hd.elim
   · exact hd.elim
theorem partsE_placed (k : Nat) : ∀ (ps : List (Nat × Operand)), Placed (fun i => some (i * k, k)) ps (partsE k ps)
 | [] => trivial
 | (_, _) :: l => ⟨rfl, rfl, partsE_placed k l⟩
def placesOf (P : Program) (fs : List Field) (i : Nat) : Option (Nat × Nat) :=
 match fs[i]? with
 | some f => (sizeT P f.type).map fun k => (f.offset, k)
 | none => none
theorem partsS_placed {fs : List Field} : ∀ {ps : List (Nat × Operand)} {ls : List (Nat × Nat × Operand)}, partsS P fs ps = some ls → Placed (placesOf P fs) ps ls
 | [], ls, hp => by cases hp; trivial
 | (i, x) :: l, ls, hp => by
   unfold partsS at hp
   split at hp
   · rename_i nm ty off em tg pk bo r hn hr
     split at hp
     · rename_i k hk
       cases hp
       rw [nthL_eq] at hn
       exact ⟨by simp [placesOf, hn, hk], rfl, partsS_placed hr⟩
     · cases hp
   · cases hp
theorem run_places : ∀ {fs : List Field}, sizesOk P fs = true → (fs.mapM (fun f => do pure (f.offset, ← sizeOf f.type)) : Sem (List (Nat × Nat))).run P w = .ok (fs.map fun f => (f.offset, (sizeT P f.type).getD 0)) w
 | [], _ => by simp
 | f :: fs, hs => by
   simp only [sizesOk, Bool.and_eq_true, Option.isSome_iff_exists] at hs
   obtain ⟨⟨k, hk⟩, hs⟩ := hs
   rw [List.mapM_cons]
   simp only [Sem.run_bind, sizeT_run hk, Result.andThen_ok, Sem.run_pure, run_places hs, List.map_cons, hk, Option.getD_some]
theorem places_eq {fs : List Field} (hs : sizesOk P fs = true) : (fun i => (fs.map fun f => (f.offset, (sizeT P f.type).getD 0)).toArray[i]?) = placesOf P fs := by
 funext i
 simp only [List.getElem?_toArray, List.getElem?_map, placesOf]
 cases hi : fs[i]? with
 | none => rfl
 | some f =>
   have : ∀ {l : List Field}, sizesOk P l = true → f ∈ l → (sizeT P f.type).isSome = true := by
    intro l
    induction l with
    | nil => intro _ hf; cases hf
    | cons x l ih =>
      intro hs hf
      simp only [sizesOk, Bool.and_eq_true] at hs
      cases hf with
      | head => exact hs.1
      | tail _ ht => exact ih hs.2 ht
   obtain ⟨k, hk⟩ := Option.isSome_iff_exists.1 (this hs (List.mem_of_getElem? hi))
   simp [hk]
theorem run_zeroValue {t : TypeId} {z : Value} (hz : zeroT P t = some z) : (zeroValue t).run P w = .ok z w := by
 unfold zeroT at hz
 cases hi : P.info? t with
 | none => rw [hi] at hz; cases hz
 | some i =>
   rw [hi] at hz
   have hz' : i.zero = some z := hz
   simp [zeroValue, typeInfo, program, hi, hz', Sem.run]
theorem zeroL_mk (z : Value) : (⟨zeroL z⟩ : Array Value) = z.cells := by
 rw [zeroL_eq]
theorem run_buildS {t : TypeId} {fs : Array Field} {z : Value} {parts : Array (Nat × Operand)} {l : List Value} (hu : P.underlying t = some (.struct fs)) (hz : zeroT P t = some z) (hs : sizesOk P fs.toList = true)
 (hf : Instr.fill (placesOf P fs.toList) ⟨zeroL z⟩ (parts.toList.map fun (p : Nat × Operand) => (p.1, a.eval p.2)) = some ⟨l⟩) :
 (Instr.build t (parts.map fun (i, x) => (i, a.eval x))).run P w = .ok (.agg ⟨l⟩) w := by
 unfold Instr.build
 simp only [Sem.run_bind, run_zeroValue hz, Result.andThen_ok, run_underlying hu, Array.mapM_eq_mapM_toList, Sem.run_map, run_places hs, places_eq hs]
 rw [zeroL_mk] at hf
 have e : (parts.map fun (i, x) => (i, a.eval x)).toList = parts.toList.map fun (p : Nat × Operand) => (p.1, a.eval p.2) := by simp
 rw [e, hf]
 rfl
theorem run_buildE {t e : TypeId} {m k : Nat} {z : Value} {parts : Array (Nat × Operand)} {l : List Value} (hu : P.underlying t = some (.array m e)) (hz : zeroT P t = some z) (hk : sizeT P e = some k)
 (hf : Instr.fill (fun i => some (i * k, k)) ⟨zeroL z⟩ (parts.toList.map fun (p : Nat × Operand) => (p.1, a.eval p.2)) = some ⟨l⟩) :
 (Instr.build t (parts.map fun (i, x) => (i, a.eval x))).run P w = .ok (.agg ⟨l⟩) w := by
 unfold Instr.build
 simp only [Sem.run_bind, run_zeroValue hz, Result.andThen_ok, run_underlying hu, sizeT_run hk]
 rw [zeroL_mk] at hf
 have e : (parts.map fun (i, x) => (i, a.eval x)).toList = parts.toList.map fun (p : Nat × Operand) => (p.1, a.eval p.2) := by simp
 rw [e, hf]
 rfl
theorem zerosL_get (z : List Value) : ∀ (m i : Nat), i < m * z.length → (zerosL z m)[i]? = z[i % z.length]?
 | 0, i, hi => by simp at hi
 | m + 1, i, hi => by
   unfold zerosL
   by_cases hlt : i < z.length
   · rw [List.getElem?_append_left hlt, Nat.mod_eq_of_lt hlt]
   · rw [List.getElem?_append_right (by omega), zerosL_get z m (i - z.length) (by rw [Nat.add_mul] at hi; omega)]
     congr 1
     rw [Nat.mod_eq_sub_mod (Nat.le_of_not_lt hlt)]
theorem zerosL_length (z : List Value) : ∀ m, (zerosL z m).length = m * z.length
 | 0 => by simp [zerosL]
 | m + 1 => by simp [zerosL, zerosL_length z m, Nat.add_mul]; omega
theorem zeros_eq (z : Array Value) (m : Nat) (hz : 0 < z.size) : (Array.range (m * z.size)).map (z[· % z.size]!) = ⟨zerosL z.toList m⟩ := by
 apply Array.ext'
 apply List.ext_getElem?
 intro i
 simp only [Array.toList_map, Array.toList_range, List.getElem?_map]
 by_cases hi : i < m * z.size
 · rw [zerosL_get z.toList m i (by simpa using hi), List.getElem?_range hi]
   have : i % z.size < z.size := Nat.mod_lt _ hz
   simp [this]
 · rw [List.getElem?_eq_none (by simp; omega), List.getElem?_eq_none (by rw [zerosL_length]; simp; omega)]
   rfl
theorem run_buildSlice {t e : TypeId} {m k : Nat} {z : Value} {parts : Array (Nat × Operand)} {l : List Value} (hu : P.underlying t = some (.slice e)) (hz : zeroT P e = some z) (hk : sizeT P e = some (k + 1))
 (hm : m * (k + 1) ≤ 16777216) (hzl : (zeroL z).length = k + 1)
 (hf : Instr.fill (fun i => some (i * (k + 1), k + 1)) ⟨zerosL (zeroL z) m⟩ (parts.toList.map fun (p : Nat × Operand) => (p.1, a.eval p.2)) = some ⟨l⟩) :
 (Instr.buildSlice t m (parts.map fun (i, x) => (i, a.eval x))).run P w = .ok (.slice (some ⟨w.heap.size, 0, none⟩) m m) (w.alloc (.cells ⟨l⟩ e)) := by
 have hsz : z.cells.size = k + 1 := by rw [← zeroL_mk, ← hzl]; simp
 have e2 : (parts.map fun (i, x) => (i, a.eval x)).toList = parts.toList.map fun (p : Nat × Operand) => (p.1, a.eval p.2) := by simp
 unfold Instr.buildSlice
 simp only [Sem.run_bind, run_underlying hu, Result.andThen_ok, sizeT_run hk]
 rw [if_neg (by omega)]
 by_cases h0 : m * (k + 1) = 0
 · have hm0 : m = 0 := by
    rcases Nat.mul_eq_zero.1 h0 with h | h
    · exact h
    · omega
   subst hm0
   simp only [h0, if_true, Sem.run_pure, Result.andThen_ok, Sem.run_bind]
   have hr : (Array.range 0).map ((#[] : Array Value)[· % (#[] : Array Value).size]!) = ⟨zerosL (zeroL z) 0⟩ := by apply Array.ext'; simp [zerosL]
   rw [hr, e2, hf]
   simp [newRow, newObj, Sem.run]
 · have hr : (Array.range (m * (k + 1))).map (z.cells[· % z.cells.size]!) = ⟨zerosL (zeroL z) m⟩ := by
    have := zeros_eq z.cells m (by omega)
    rw [hsz] at this
    rw [hsz, this, zeroL_eq]
   simp only [h0, if_false, Sem.run_bind, run_zeroValue hz, Result.andThen_ok, Sem.run_pure]
   rw [hr, e2, hf]
   simp [newRow, newObj, Sem.run]
end
end Go.Den
namespace Go.Den
open Go
section
variable {P : Program} {n : Nat} {w0 : World} {h0 : PHeap} {s : St} {bs : Nat → Nat} {h : PHeap} {a : Act} {w : World} {o : Oper}
theorem run_idxS {t : TypeId} {x i : Operand} {l : List UInt8} {k : IntKind} {j : Int} {c : UInt8} (hop : o.op = .index t x i) (hu : P.underlying t = some .string) (hx : a.eval x = .string ⟨⟨l⟩⟩) (hi : a.eval i = .int k j)
 (h0 : 0 ≤ j) (hc : l[j.toNat]? = some c) : (execOp a.eval o).run P w = .ok (.value (byteV c)) w := by
 obtain ⟨hlt, hget⟩ := List.getElem?_eq_some_iff.1 hc
 have hsz : (ByteArray.mk ⟨l⟩).size = l.length := rfl
 have hr := run_index_string (P := P) w t ⟨⟨l⟩⟩ k j hu
 rw [dif_pos ⟨h0, by rw [hsz]; omega⟩] at hr
 have hb : (ByteArray.mk ⟨l⟩)[j.toNat]'(by rw [hsz]; omega) = c := hget
 rw [hb] at hr
 simp only [execOp, hop, hx, hi, Sem.run_bind, hr, Result.andThen_ok, Sem.run_pure, byteV]
theorem bnd_sound (r : Rel n w0 h0 s bs h a w) {oo : Option Operand} {d : Int} {K : Int → Prop} (hd : bnd s oo d K) : (oo = none ∧ K d) ∨ ∃ x k i, oo = some x ∧ a.eval x = .int k i ∧ K i := by
 unfold bnd at hd
 split at hd
 · exact .inl ⟨rfl, hd⟩
 · split at hd
   · rename_i x _ k i hx
     exact .inr ⟨x, k, i, rfl, (r.vv hx).1, hd⟩
   · exact hd.elim
theorem run_sliceS (r : Rel n w0 h0 s bs h a w) {t : TypeId} {x : Operand} {lo hi : Option Operand} {l : List UInt8} {K : Value → Prop} (hop : o.op = .slice t x lo hi none) (hu : P.underlying t = some .string) (hx : a.eval x = .string ⟨⟨l⟩⟩)
 (hd : bnd s lo 0 fun a => bnd s hi l.length fun b => (0 ≤ a ∧ a ≤ b ∧ b ≤ l.length) ∧ K (.string ⟨⟨(l.drop a.toNat).take (b.toNat - a.toNat)⟩⟩)) :
 ∃ v, K v ∧ ∀ w', (execOp a.eval o).run P w' = .ok (.value v) w' := by
 have hsz : (ByteArray.mk ⟨l⟩).size = l.length := rfl
 have hex : ∀ i j : Nat, (ByteArray.mk ⟨l⟩).extract i j = ⟨⟨(l.drop i).take (j - i)⟩⟩ := fun i j => ByteArray.extract_mk l i j
 rcases bnd_sound r hd with ⟨rfl, hd1⟩ | ⟨x1, k1, i1, rfl, he1, hd1⟩
 · rcases bnd_sound r hd1 with ⟨rfl, ⟨h1, h2, h3⟩, hk⟩ | ⟨x2, k2, i2, rfl, he2, ⟨h1, h2, h3⟩, hk⟩
   · refine ⟨_, hk, fun w' => ?_⟩
     simp [execOp, hop, hx, Instr.sliceAt, run_underlying hu, Instr.slice, Instr.sliceBounds]
   · refine ⟨_, hk, fun w' => ?_⟩
     have hb : 0 ≤ i2 ∧ i2 ≤ (l.length : Int) := ⟨by omega, h3⟩
     simp [execOp, hop, hx, he2, Instr.sliceAt, run_underlying hu, Instr.slice, Instr.sliceBounds, Instr.sliceBound, asIntOf, hex, hsz, hb]
 · rcases bnd_sound r hd1 with ⟨rfl, ⟨h1, h2, h3⟩, hk⟩ | ⟨x2, k2, i2, rfl, he2, ⟨h1, h2, h3⟩, hk⟩
   · refine ⟨_, hk, fun w' => ?_⟩
     have hb : 0 ≤ i1 ∧ i1 ≤ (l.length : Int) := ⟨h1, h2⟩
     simp [execOp, hop, hx, he1, Instr.sliceAt, run_underlying hu, Instr.slice, Instr.sliceBounds, Instr.sliceBound, asIntOf, hex, hsz, hb]
   · refine ⟨_, hk, fun w' => ?_⟩
     have := run_slice_string (P := P) w' t ⟨⟨l⟩⟩ k1 k2 i1 i2 hu h1 h2 (by rw [hsz]; exact h3)
     simp [execOp, hop, hx, he1, he2, Instr.sliceAt, run_underlying hu, this, hex]
theorem elem_of {t e : TypeId} (hu : P.underlying t = some (.slice e)) : P.elem t = e ∧ P.underlying t = some (.slice (P.elem t)) := by
 have : P.elem t = e := by simp [Program.elem, hu]
 exact ⟨this, by rw [this]; exact hu⟩
theorem sliced_some {b o k i j c : Nat} : ∃ o', ((i < c ∨ i = 0) → o' = o + i * k) ∧ sliced (some ⟨b, o, none⟩) i j c k = .slice (some ⟨b, o', none⟩) (j - i) (c - i) := by
 unfold sliced
 by_cases hc : c = i
 · refine ⟨o, fun h => ?_, by simp [hc]⟩
   rcases h with h | h
   · omega
   · simp [h]
 · exact ⟨o + i * k, fun _ => rfl, by simp [hc, addNone]⟩
theorem run_sliceL (r : Rel n w0 h0 s bs h a w) {t e : TypeId} {x : Operand} {lo hi : Option Operand} {b off k m c : Nat} {K : Value → Prop} (hop : o.op = .slice t x lo hi none) (hu : P.underlying t = some (.slice e)) (hk : sizeT P e = some k)
 (hx : a.eval x = .slice (some ⟨b, off, none⟩) m c)
 (hd : bnd s lo 0 fun i => bnd s hi m fun j => (0 ≤ i ∧ i ≤ j ∧ j ≤ c) ∧ ∀ o', ((i.toNat < c ∨ i.toNat = 0) → o' = off + i.toNat * k) → K (.slice (some ⟨b, o', none⟩) (j.toNat - i.toNat) (c - i.toNat))) :
 ∃ v, K v ∧ ∀ w', (execOp a.eval o).run P w' = .ok (.value v) w' := by
 obtain ⟨he, hu'⟩ := elem_of hu
 have hsz : ∀ w', (sizeOf (P.elem t)).run P w' = .ok k w' := fun w' => by rw [he]; exact sizeT_run hk
 have fin : ∀ i j : Nat, (∀ o', ((i < c ∨ i = 0) → o' = off + i * k) → K (.slice (some ⟨b, o', none⟩) (j - i) (c - i))) → (∀ w', (execOp a.eval o).run P w' = .ok (.value (sliced (some ⟨b, off, none⟩) i j c k)) w') →
  ∃ v, K v ∧ ∀ w', (execOp a.eval o).run P w' = .ok (.value v) w' := fun i j hK hr => by
  obtain ⟨o', h1, h2⟩ := sliced_some (b := b) (o := off) (k := k) (i := i) (j := j) (c := c)
  exact ⟨_, hK o' h1, fun w' => by rw [hr w', h2]⟩
 rcases bnd_sound r hd with ⟨rfl, hd1⟩ | ⟨x1, k1, i1, rfl, he1, hd1⟩
 · rcases bnd_sound r hd1 with ⟨rfl, ⟨h1, h2, h3⟩, hK⟩ | ⟨x2, k2, i2, rfl, he2, ⟨h1, h2, h3⟩, hK⟩
   · refine fin 0 m (by simpa using hK) fun w' => ?_
     simp [execOp, hop, hx, Instr.sliceAt, run_underlying hu, run_slice_all w' t _ m c hu', hsz]
   · refine fin 0 i2.toNat (by simpa using hK) fun w' => ?_
     simp [execOp, hop, hx, he2, Instr.sliceAt, run_underlying hu, run_slice_h w' t _ m c hu' k2 i2 (by omega) h3, hsz]
 · rcases bnd_sound r hd1 with ⟨rfl, ⟨h1, h2, h3⟩, hK⟩ | ⟨x2, k2, i2, rfl, he2, ⟨h1, h2, h3⟩, hK⟩
   · refine fin i1.toNat m (by simpa using hK) fun w' => ?_
     simp [execOp, hop, hx, he1, Instr.sliceAt, run_underlying hu, run_slice_l w' t _ m c hu' k1 i1 h1 h2, hsz]
   · refine fin i1.toNat i2.toNat (by simpa using hK) fun w' => ?_
     simp [execOp, hop, hx, he1, he2, Instr.sliceAt, run_underlying hu, run_slice_lh w' t _ m c hu' k1 k2 i1 i2 h1 h2 h3, hsz]
theorem run_sliceNil (r : Rel n w0 h0 s bs h a w) {t e : TypeId} {x : Operand} {lo hi : Option Operand} {k : Nat} {K : Value → Prop} (hop : o.op = .slice t x lo hi none) (hu : P.underlying t = some (.slice e)) (hk : sizeT P e = some k)
 (hx : a.eval x = .slice none 0 0) (hd : bnd s lo 0 fun i => bnd s hi 0 fun j => (i = 0 ∧ j = 0) ∧ K (.slice none 0 0)) :
 ∃ v, K v ∧ ∀ w', (execOp a.eval o).run P w' = .ok (.value v) w' := by
 obtain ⟨he, hu'⟩ := elem_of hu
 have hsz : ∀ w', (sizeOf (P.elem t)).run P w' = .ok k w' := fun w' => by rw [he]; exact sizeT_run hk
 rcases bnd_sound r hd with ⟨rfl, hd1⟩ | ⟨x1, k1, i1, rfl, he1, hd1⟩
 · rcases bnd_sound r hd1 with ⟨rfl, _, hK⟩ | ⟨x2, k2, i2, rfl, he2, ⟨h1, h2⟩, hK⟩
   · refine ⟨_, hK, fun w' => ?_⟩
     simp [execOp, hop, hx, Instr.sliceAt, run_underlying hu, run_slice_all w' t _ 0 0 hu', hsz, sliced]
   · subst h2
     refine ⟨_, hK, fun w' => ?_⟩
     simp [execOp, hop, hx, he2, Instr.sliceAt, run_underlying hu, run_slice_h w' t none 0 0 hu' k2 0 (by omega) (by omega), hsz, sliced]
 · rcases bnd_sound r hd1 with ⟨rfl, ⟨h1, _⟩, hK⟩ | ⟨x2, k2, i2, rfl, he2, ⟨h1, h2⟩, hK⟩
   · subst h1
     refine ⟨_, hK, fun w' => ?_⟩
     simp [execOp, hop, hx, he1, Instr.sliceAt, run_underlying hu, run_slice_l w' t none 0 0 hu' k1 0 (by omega) (by omega), hsz, sliced]
   · subst h1 h2
     refine ⟨_, hK, fun w' => ?_⟩
     simp [execOp, hop, hx, he1, he2, Instr.sliceAt, run_underlying hu, run_slice_lh w' t none 0 0 hu' k1 k2 0 0 (by omega) (by omega) (by omega), hsz, sliced]
theorem append_mk (l m : List UInt8) : (ByteArray.mk ⟨l⟩) ++ (ByteArray.mk ⟨m⟩) = ByteArray.mk ⟨l ++ m⟩ := by
 have : ((ByteArray.mk ⟨l⟩) ++ (ByteArray.mk ⟨m⟩)).data = ⟨l ++ m⟩ := by
  apply Array.ext'
  simp
 cases hx : (ByteArray.mk ⟨l⟩) ++ (ByteArray.mk ⟨m⟩) with
 | mk d => rw [hx] at this; simp only at this; rw [this]
theorem run_addS {t u : TypeId} {x y : Operand} {l m : List UInt8} (hop : o.op = .binOp .add t x y u) (hx : a.eval x = .string ⟨⟨l⟩⟩) (hy : a.eval y = .string ⟨⟨m⟩⟩) (hlen : l.length + m.length ≤ 9223372036854775807) :
 (execOp a.eval o).run P w = .ok (.value (.string ⟨⟨l ++ m⟩⟩)) w := by
 have h1 : (ByteArray.mk ⟨l⟩).size = l.length := rfl
 have h2 : (ByteArray.mk ⟨m⟩).size = m.length := rfl
 have hmax : IntKind.i64.max = 9223372036854775807 := rfl
 have h3 : ¬ ((((ByteArray.mk ⟨l⟩).size + (ByteArray.mk ⟨m⟩).size : Nat) : Int) > IntKind.i64.max) := by
  rw [h1, h2, hmax]; omega
 have hrun : (Op.stringOp .add ⟨⟨l⟩⟩ ⟨⟨m⟩⟩).run P w = .ok (.string ⟨⟨l ++ m⟩⟩) w := by
  show (if (((ByteArray.mk ⟨l⟩).size + (ByteArray.mk ⟨m⟩).size : Nat) : Int) > IntKind.i64.max then unsupported (.resourceLimit "string concatenation: a sum of the lengths that is no int") else pure (Value.string (ByteArray.mk ⟨l⟩ ++ ByteArray.mk ⟨m⟩)) : Sem Value).run P w = _
  rw [if_neg h3, append_mk]; rfl
 simp only [execOp, hop, hx, hy, binOp, eqGuard, Sem.run_bind, Bool.not_false, if_true, Sem.run_pure, Result.andThen_ok, hrun]
theorem run_eqS {t u : TypeId} {x y : Operand} {l m : List UInt8} (hop : o.op = .binOp .eql t x y u) (hx : a.eval x = .string ⟨⟨l⟩⟩) (hy : a.eval y = .string ⟨⟨m⟩⟩) :
 (execOp a.eval o).run P w = .ok (.value (.bool (l == m))) w := by
 simp [execOp, hop, hx, hy, eqGuard, binOp, Op.stringOp]
theorem run_neqS {t u : TypeId} {x y : Operand} {l m : List UInt8} (hop : o.op = .binOp .neq t x y u) (hx : a.eval x = .string ⟨⟨l⟩⟩) (hy : a.eval y = .string ⟨⟨m⟩⟩) :
 (execOp a.eval o).run P w = .ok (.value (.bool (!(l == m)))) w := by
 simp [execOp, hop, hx, hy, eqGuard, binOp, Op.stringOp]
theorem run_bytesS {src dst e : TypeId} {x : Operand} {b off c : Nat} {l : List UInt8} (hop : o.op = .convert src dst x) (hs : P.underlying src = some (.slice e)) (he : P.underlying e = some (.int .u8)) (hd : P.underlying dst = some .string)
 (hx : a.eval x = .slice (some ⟨b, off, none⟩) l.length c) (hsub : Sub w h) (hr : h.row b off (l.map byteV)) : (execOp a.eval o).run P w = .ok (.value (.string ⟨⟨l⟩⟩)) w := by
 have := run_convert_bytes_back (P := P) w src dst e ⟨b, off, none⟩ c l hs he hd (fun j hj => hsub.row hr j _ (by simp [List.getElem?_eq_getElem hj, byteV]))
 simp [execOp, hop, hx, this]
theorem run_bytesNil {src dst e : TypeId} {x : Operand} {m c : Nat} (hop : o.op = .convert src dst x) (hs : P.underlying src = some (.slice e)) (he : P.underlying e = some (.int .u8)) (hd : P.underlying dst = some .string)
 (hx : a.eval x = .slice none m c) : (execOp a.eval o).run P w = .ok (.value (.string ⟨⟨[]⟩⟩)) w := by
 simp [execOp, hop, hx, run_convert_bytes_string w src dst e none m c hs he hd, Conv.bytesToString]
 rfl
end
end Go.Den
namespace Go.Den
open Go
section
variable {P : Program} {n : Nat} {w0 : World} {h0 : PHeap} {s : St} {bs : Nat → Nat} {h : PHeap} {a : Act} {w : World}
variable {K : SV → St → PHeap → Prop} {next : Act → World → Prop} {Q : Exit → Act → World → Prop} {o : Oper}
theorem noLoc {v : Value} {m : Nat} : ∀ i off, SV.val v = .loc i off → i < m := fun _ _ e => by cases e
theorem sound_nilCheck {x : Operand} (hop : o.op = .nilCheck x) (r : Rel n w0 h0 s bs h a w) (hd : denOp P (.nilCheck x) s h K)
 (hn : Nxt n w0 h0 s bs a K fun v => next (a.put o.dst v)) : o.wp P a w next Q := by
 simp only [denOp] at hd
 split at hd
 · rename_i i off hx
   have hrun : (execOp a.eval o).run P w = .ok (.value (a.eval x)) w := by simp [execOp, hop, (r.evloc hx).1]
   exact wp_of_run hrun (hn _ s h bs _ w hd (by rw [(r.evloc hx).1]; rfl) r (Agree.refl bs) (Nat.le_refl _) (fun _ _ e => by cases e; exact (r.evloc hx).2))
 · rename_i ad hx
   have hrun : (execOp a.eval o).run P w = .ok (.value (.pointer (some ad))) w := by simp [execOp, hop, (r.vv hx).1]
   exact wp_of_run hrun (hn _ s h bs _ w hd rfl r (Agree.refl bs) (Nat.le_refl _) noLoc)
 · rename_i f u v hx
   have hrun : (execOp a.eval o).run P w = .ok (.value (.func (.func f) u v)) w := by simp [execOp, hop, (r.vv hx).1]
   exact wp_of_run hrun (hn _ s h bs _ w hd rfl r (Agree.refl bs) (Nat.le_refl _) noLoc)
 · exact hd.elim
theorem run_fieldAddr {t : TypeId} {x : Operand} {f k b off : Nat} (hop : o.op = .fieldAddr t x f) (hf : fieldOff P t f = some k) (hx : a.eval x = .pointer (some ⟨b, off, none⟩)) :
 (execOp a.eval o).run P w = .ok (.value (.pointer (some ⟨b, off + k, none⟩))) w := by
 unfold fieldOff at hf
 split at hf
 · rename_i fs hu
   rw [nthL_eq] at hf
   split at hf
   · rename_i nm ty fo em tg pk bo hfd
     split at hf
     · rename_i m hm
       cases hf
       have hsz := sizeT_run (w := w) hm
       have hfd' : fs[f]? = some ⟨nm, ty, k, em, tg, pk, bo⟩ := by simpa using hfd
       simp [execOp, hop, hx, Instr.fieldAt, run_underlying hu, hfd', Instr.sureAddr, fieldPlace, hsz, addNone]
     · cases hf
   · cases hf
 · cases hf
theorem sound_fieldAddr {t : TypeId} {x : Operand} {f k : Nat} (hop : o.op = .fieldAddr t x f) (hf : fieldOff P t f = some k) (r : Rel n w0 h0 s bs h a w) (hd : denOp P (.fieldAddr k x) s h K)
 (hn : Nxt n w0 h0 s bs a K fun v => next (a.put o.dst v)) : o.wp P a w next Q := by
 simp only [denOp] at hd
 split at hd
 · rename_i i off hx
   exact wp_of_run (run_fieldAddr hop hf (r.evloc hx).1) (hn _ s h bs _ w hd rfl r (Agree.refl bs) (Nat.le_refl _) (fun _ _ e => by cases e; exact (r.evloc hx).2))
 · rename_i b off hx
   exact wp_of_run (run_fieldAddr hop hf (r.vv hx).1) (hn _ s h bs _ w hd rfl r (Agree.refl bs) (Nat.le_refl _) noLoc)
 · exact hd.elim
theorem run_indexAddr {t : TypeId} {x ix : Operand} {k b off m c : Nat} {ik : IntKind} {i : Int} (hop : o.op = .indexAddr t x ix) (hf : elemSize P t = some k) (hx : a.eval x = .slice (some ⟨b, off, none⟩) m c)
 (hi : a.eval ix = .int ik i) (h0 : 0 ≤ i) (h1 : i < m) : (execOp a.eval o).run P w = .ok (.value (.pointer (some ⟨b, off + i.toNat * k, none⟩))) w := by
 unfold elemSize at hf
 split at hf
 · rename_i e hu
   have hsz := sizeT_run (w := w) hf
   simp [execOp, hop, hx, hi, Instr.indexAt, run_underlying hu, asIntOf, hsz, h0, h1, addNone]
 · cases hf
theorem sound_indexAddr {t : TypeId} {x ix : Operand} {k : Nat} (hop : o.op = .indexAddr t x ix) (hf : elemSize P t = some k) (r : Rel n w0 h0 s bs h a w) (hd : denOp P (.indexAddr k x ix) s h K)
 (hn : Nxt n w0 h0 s bs a K fun v => next (a.put o.dst v)) : o.wp P a w next Q := by
 simp only [denOp] at hd
 split at hd
 · rename_i b off m c ik i hx hi
   exact wp_of_run (run_indexAddr hop hf (r.vv hx).1 (r.vv hi).1 hd.1.1 hd.1.2) (hn _ s h bs _ w hd.2 rfl r (Agree.refl bs) (Nat.le_refl _) noLoc)
 · exact hd.elim
theorem run_indexArr {t : TypeId} {x ix : Operand} {m k b off : Nat} {ik : IntKind} {i : Int} (hop : o.op = .indexAddr t x ix) (hf : arrSize P t = some (m, k)) (hx : a.eval x = .pointer (some ⟨b, off, none⟩))
 (hi : a.eval ix = .int ik i) (h0 : 0 ≤ i) (h1 : i < m) : (execOp a.eval o).run P w = .ok (.value (.pointer (some ⟨b, off + i.toNat * k, none⟩))) w := by
 unfold arrSize at hf
 split at hf
 · rename_i m' e hu
   split at hf
   · rename_i k' hk
     cases hf
     have hsz := sizeT_run (w := w) hk
     simp [execOp, hop, hx, hi, Instr.indexAt, run_underlying hu, asIntOf, Instr.sureAddr, hsz, h0, h1, addNone]
   · cases hf
 · cases hf
theorem sound_indexArr {t : TypeId} {x ix : Operand} {m k : Nat} (hop : o.op = .indexAddr t x ix) (hf : arrSize P t = some (m, k)) (r : Rel n w0 h0 s bs h a w) (hd : denOp P (.indexArr m k x ix) s h K)
 (hn : Nxt n w0 h0 s bs a K fun v => next (a.put o.dst v)) : o.wp P a w next Q := by
 simp only [denOp] at hd
 split at hd
 · rename_i b off ik i hx hi
   exact wp_of_run (run_indexArr hop hf (r.vv hx).1 (r.vv hi).1 hd.1.1 hd.1.2) (hn _ s h bs _ w hd.2 rfl r (Agree.refl bs) (Nat.le_refl _) noLoc)
 · exact hd.elim
theorem sound_len {c : Call} {x : Operand} {t : TypeId} {str : Bool} (hop : o.op = .call c) (hb : c.callee = .builtin .len) (hargs : c.args.toList = [x]) (hts : c.argTypes.toList = [t]) (hl : lenable P t = some str)
 (r : Rel n w0 h0 s bs h a w) (hd : denOp P (.len str x) s h K)
 (hn : Nxt n w0 h0 s bs a K fun v => next (a.put o.dst v)) : o.wp P a w next Q := by
 have ha : c.args = #[x] := by rw [← hargs]
 have ht : c.argTypes = #[t] := by rw [← hts]
 unfold lenable at hl
 split at hl
 · rename_i e hu
   cases hl
   simp only [denOp] at hd
   split at hd
   · rename_i b m cp hx
     have hx' := (r.vv hx).1
     have hrun : (execOp a.eval o).run P w = .ok (.value (.int .i64 m)) w := by
      simp [execOp, hop, resolve, hb, ha, ht, invoke, builtin, Builtin.len_, run_underlying hu, hx', goInt]
     exact wp_of_run hrun (hn _ s h bs _ w hd rfl r (Agree.refl bs) (Nat.le_refl _) noLoc)
   · exact hd.elim
 · rename_i hu
   cases hl
   simp only [denOp] at hd
   split at hd
   · rename_i b hx
     have hx' := (r.vv hx).1
     have hrun : (execOp a.eval o).run P w = .ok (.value (.int .i64 b.length)) w := by
      simp [execOp, hop, resolve, hb, ha, ht, invoke, builtin, Builtin.len_, run_underlying hu, hx', goInt]
      rfl
     exact wp_of_run hrun (hn _ s h bs _ w hd rfl r (Agree.refl bs) (Nat.le_refl _) noLoc)
   · exact hd.elim
 · cases hl
theorem run_callOp {c : Call} {f : Operand} {g : FuncId} {first captured : Array Value} (hop : o.op = .call c) (hc : c.callee = .value f) (hf : a.eval f = .func (.func g) first captured) :
 (execOp a.eval o).run P w = (callFunc g (first ++ c.args.map a.eval ++ captured)).run P w := by
 simp [execOp, hop, resolve, hc, Deferred.ofValue, hf, invoke]
theorem upon_of_uponR {R : Value → World → Prop} {rr : Result Next} (hr : uponR P R rr) (hn : ∀ v w', R v w' → next (a.put o.dst v) w') : o.upon P a next Q rr := by
 unfold uponR at hr
 split at hr
 · exact hn _ _ hr
 · refine Calls.mono hr fun e w' he => ?_
   cases e with
   | returned v => exact hn _ _ he
   | panicked c => exact he.elim
   | outgrown => exact he.elim
 · exact hr.elim
theorem sound_call {c : Call} {f : Operand} (hop : o.op = .call c) (hc : c.callee = .value f) (r : Rel n w0 h0 s bs h a w) (hd : denOp P (.call f c.args.toList) s h K)
 (hn : Nxt n w0 h0 s bs a K fun v => next (a.put o.dst v)) : o.wp P a w next Q := by
 simp only [denOp] at hd
 split at hd
 · rename_i g first captured hx
   split at hd
   · rename_i hall
     have hargs : c.args.map a.eval = (vals s c.args.toList).toArray := by
      apply Array.ext'
      rw [Array.toList_map]; exact r.vals hall
     have hx' := (r.vv hx).1
     unfold Oper.wp
     rw [run_callOp hop hc hx', hargs]
     have := hd w r.sub
     unfold CallR at this
     have e : (first.toList ++ vals s c.args.toList ++ captured.toList).toArray = first ++ (vals s c.args.toList).toArray ++ captured := by
      apply Array.ext'
      simp
     rw [e] at this
     refine upon_of_uponR this fun v w' hw => ?_
     obtain ⟨h', hk, hs, hkeep⟩ := hw
     exact hn _ s h' bs _ w' hk rfl (r.step hs hkeep) (Agree.refl bs) (Nat.le_refl _) noLoc
   · exact hd.elim
 · exact hd.elim
theorem execOp_vv (r : Rel n w0 h0 s bs h a w) (hs : ∀ cs b, o.op ≠ .select cs b) (hall : allVal s o.op.operands.toList = true) : execOp a.eval o = execOp s.vv (mkO o.op o.type) :=
 (execOp_congr o hs fun x hx => r.allVal hall x (by simpa using hx)).trans rfl
theorem sound_puref (hs : ∀ cs b, o.op ≠ .select cs b) (r : Rel n w0 h0 s bs h a w) (hd : denOp P (.puref o.op o.type) s h K)
 (hn : Nxt n w0 h0 s bs a K fun v => next (a.put o.dst v)) : o.wp P a w next Q := by
 simp only [denOp] at hd
 split at hd
 · rename_i hall
   obtain ⟨v, hv, hk⟩ := hd
   have hrun := hv w
   rw [← execOp_vv r hs hall] at hrun
   exact wp_of_run hrun (hn _ s h bs _ w hk rfl r (Agree.refl bs) (Nat.le_refl _) noLoc)
 · exact hd.elim
theorem sound_pure (hs : ∀ cs b, o.op ≠ .select cs b) (r : Rel n w0 h0 s bs h a w) (hd : denOp P (.pure o.op o.type) s h K)
 (hn : Nxt n w0 h0 s bs a K fun v => next (a.put o.dst v)) : o.wp P a w next Q := by
 refine sound_puref hs r (K := K) ?_ hn
 simp only [denOp] at hd ⊢
 split at hd
 · split at hd
   · rename_i v hv
     exact ⟨v, pureVal_run _ hv, hd⟩
   · exact hd.elim
 · exact hd.elim
theorem sound_raw (hs : ∀ cs b, o.op ≠ .select cs b) (r : Rel n w0 h0 s bs h a w) (hd : denOp P (.raw o.op o.type) s h K)
 (hn : Nxt n w0 h0 s bs a K fun v => next (a.put o.dst v)) : o.wp P a w next Q := by
 simp only [denOp] at hd
 split at hd
 · rename_i hall
   obtain ⟨m, v, w', h', hrun, hm, hk, hsub, hkeep⟩ := hd w r.sub
   rw [← execOp_vv r hs hall] at hrun
   have hnext := hn _ s h' bs v w' hk rfl (r.step hsub hkeep) (Agree.refl bs) (Nat.le_refl _) noLoc
   rcases hm with rfl | ⟨rfl, rfl⟩
   · exact wp_of_run hrun hnext
   · exact wp_of_skip hrun hnext
 · exact hd.elim
theorem run_conv {src dst : TypeId} {x : Operand} {k1 k k2 : IntKind} {i : Int} (hop : o.op = .convert src dst x) (h1 : P.underlying src = some (.int k1)) (h2 : P.underlying dst = some (.int k)) (hx : a.eval x = .int k2 i) :
 (execOp a.eval o).run P w = .ok (.value (.int k (k.wrap i))) w := by
 simp [execOp, hop, convert, run_underlying h1, run_underlying h2, hx, Conv.intToInt]
theorem sound_conv {src dst : TypeId} {x : Operand} {k1 k : IntKind} (hop : o.op = .convert src dst x) (h1 : P.underlying src = some (.int k1)) (h2 : P.underlying dst = some (.int k)) (r : Rel n w0 h0 s bs h a w)
 (hd : denOp P (.conv k x) s h K) (hn : Nxt n w0 h0 s bs a K fun v => next (a.put o.dst v)) : o.wp P a w next Q := by
 simp only [denOp] at hd
 split at hd
 · rename_i k2 i hx
   exact wp_of_run (run_conv hop h1 h2 (r.vv hx).1) (hn _ s h bs _ w hd rfl r (Agree.refl bs) (Nat.le_refl _) noLoc)
 · exact hd.elim
theorem lowBuild {t : TypeId} {parts : Array (Nat × Operand)} {esc : Nat → Bool} {so : SOp} (hop : o.op = .build t parts) (hl : lowOp P esc o.dst o.op o.type = some so) (r : Rel n w0 h0 s bs h a w) :
 so = .bad ∨ ∃ z ps, so = .build z ps ∧ ∀ {K : List Value → Prop}, fillL s z ps K → ∃ l, K l ∧ ∀ w', (execOp a.eval o).run P w' = .ok (.value (.agg ⟨l⟩)) w' := by
 simp only [lowOp, hop] at hl
 split at hl
 · rename_i fs z hu hz
   split at hl
   · rename_i ps hs hps
     cases hl
     refine .inr ⟨_, _, rfl, fun hd => ?_⟩
     obtain ⟨l, hK, hf⟩ := fillL_sound r (partsS_placed hps) hd
     exact ⟨l, hK, fun w' => by simp [execOp, hop, run_buildS hu hz hs hf]⟩
   · cases hl; exact .inl rfl
 · rename_i m e z hu hz
   split at hl
   · rename_i k hk
     cases hl
     refine .inr ⟨_, _, rfl, fun hd => ?_⟩
     obtain ⟨l, hK, hf⟩ := fillL_sound r (partsE_placed k _) hd
     exact ⟨l, hK, fun w' => by simp [execOp, hop, run_buildE hu hz hk hf]⟩
   · cases hl; exact .inl rfl
 · cases hl; exact .inl rfl
theorem lowBuildSlice {t : TypeId} {m : Nat} {parts : Array (Nat × Operand)} {esc : Nat → Bool} {so : SOp} (hop : o.op = .buildSlice t m parts) (hl : lowOp P esc o.dst o.op o.type = some so) (r : Rel n w0 h0 s bs h a w) :
 so = .bad ∨ ∃ e z ps, so = .buildSlice e m z ps ∧ ∀ {K : List Value → Prop}, fillL s z ps K → ∃ l, K l ∧ (execOp a.eval o).run P w = .ok (.value (.slice (some ⟨w.heap.size, 0, none⟩) m m)) (w.alloc (.cells ⟨l⟩ e)) := by
 simp only [lowOp, hop] at hl
 split at hl
 · rename_i e hu
   split at hl
   · rename_i k z hk hz
     split at hl
     · rename_i hb
       simp only [Bool.and_eq_true] at hb
       cases hl
       refine .inr ⟨_, _, _, rfl, fun hd => ?_⟩
       obtain ⟨l, hK, hf⟩ := fillL_sound r (partsE_placed (k + 1) _) hd
       exact ⟨l, hK, by simp [execOp, hop, run_buildSlice hu hz hk (Nat.le_of_ble_eq_true hb.1) (Nat.eq_of_beq_eq_true hb.2) hf]⟩
     · cases hl; exact .inl rfl
   · cases hl; exact .inl rfl
 · cases hl; exact .inl rfl
theorem lowField {t : TypeId} {x : Operand} {f : Nat} {esc : Nat → Bool} {so : SOp} (hop : o.op = .field t x f) (hl : lowOp P esc o.dst o.op o.type = some so) :
 so = .bad ∨ ∃ agg off k, so = .field agg off k x ∧ ∀ l w', a.eval x = .agg ⟨l⟩ → off + k ≤ l.length → (execOp a.eval o).run P w' = .ok (.value (packV agg ((l.drop off).take k))) w' := by
 simp only [lowOp, hop] at hl
 split at hl
 · rename_i fs hu
   rw [nthL_eq] at hl
   split at hl
   · rename_i nm ft off em tg pk bo hfd
     have hfd' : fs[f]? = some ⟨nm, ft, off, em, tg, pk, bo⟩ := by simpa using hfd
     split at hl
     · rename_i k ha hz
       cases hl
       refine .inr ⟨_, _, _, rfl, fun l w' hx hle => ?_⟩
       simp only [execOp, hop, hx, Instr.field, part, asAgg, Sem.run_bind, run_underlying hu, Result.andThen_ok, hfd', Sem.run_pure, isAggT_true ha, sizeT_run hz, if_true, packV]
       congr 4
       simp [Nat.add_sub_cancel_left, List.take_drop]
     · rename_i k ha hz
       cases hl
       refine .inr ⟨_, _, _, rfl, fun l w' hx hle => ?_⟩
       have hlt : off < l.length := by omega
       have hdr : (l.drop off).take 1 = [l[off]] := by
        rw [List.drop_eq_getElem_cons hlt]; rfl
       rw [hdr]
       simp [execOp, hop, hx, Instr.field, part, asAgg, run_underlying hu, hfd', isAggT_false ha, packV, hlt]
     · cases hl; exact .inl rfl
   · cases hl; exact .inl rfl
 · cases hl; exact .inl rfl
theorem denOp_sound {esc : Nat → Bool} {so : SOp} (hl : lowOp P esc o.dst o.op o.type = some so) (r : Rel n w0 h0 s bs h a w) (hd : denOp P so s h K)
 (hn : Nxt n w0 h0 s bs a K fun v => next (a.put o.dst v)) : o.wp P a w next Q := by
 cases hop : o.op with
 | move x => simp only [lowOp, hop] at hl; cases hl; exact sound_mv (.inl hop) r hd hn
 | assign x => simp only [lowOp, hop] at hl; cases hl; exact sound_mv (.inr hop) r hd hn
 | pick c x y => simp only [lowOp, hop] at hl; cases hl; exact sound_pick hop r hd hn
 | alloc t =>
   simp only [lowOp, hop] at hl
   cases hz : (P.info? t).bind (·.zero) with
   | none => rw [hz] at hl; cases hl; exact hd.elim
   | some z =>
     rw [hz] at hl
     simp only [zeroL_eq] at hl
     cases hl; exact sound_alloc hop hz r hd hn
 | box t x => simp only [lowOp, hop] at hl; cases hl; exact sound_box hop r hd hn
 | load t x =>
   rcases lowLoad hop hl with rfl | ⟨agg, k, rfl, h1, h2, h3⟩
   · exact hd.elim
   exact sound_load hop h1 h2 h3 r hd hn
 | store t x y =>
   simp only [lowOp, hop] at hl
   cases hz : sizeT P t with
   | none => rw [hz] at hl; cases hl; exact hd.elim
   | some k => rw [hz] at hl; cases hl; exact sound_store hop hz r hd hn
 | nilCheck x => simp only [lowOp, hop] at hl; cases hl; exact sound_nilCheck hop r hd hn
 | fieldAddr t x f =>
   simp only [lowOp, hop] at hl
   cases hz : fieldOff P t f with
   | none => rw [hz] at hl; cases hl; exact hd.elim
   | some k => rw [hz] at hl; cases hl; exact sound_fieldAddr hop hz r hd hn
 | indexAddr t x i =>
   simp only [lowOp, hop] at hl
   cases hz : elemSize P t with
   | none =>
     rw [hz] at hl
     cases hz2 : arrSize P t with
     | none => rw [hz2] at hl; cases hl; exact sound_puref (by simp [hop]) r (by rw [hop]; exact hd) hn
     | some p => rw [hz2] at hl; cases hl; exact sound_indexArr hop hz2 r hd hn
   | some k => rw [hz] at hl; cases hl; exact sound_indexAddr hop hz r hd hn
 | call c =>
   simp only [lowOp, hop] at hl
   cases hc : c.callee with
   | value f => rw [hc] at hl; cases hl; exact sound_call hop hc r hd hn
   | invoke x y => rw [hc] at hl; cases hl; exact hd.elim
   | builtin b =>
     rw [hc] at hl
     have hraw : so = .raw (.call c) o.type → o.wp P a w next Q := fun e => by subst e; exact sound_raw (by simp [hop]) r (by rw [hop]; exact hd) hn
     have hpf : so = .puref (.call c) o.type → o.wp P a w next Q := fun e => by subst e; exact sound_puref (by simp [hop]) r (by rw [hop]; exact hd) hn
     by_cases hlen : b = .len
     · subst hlen
       simp only [lowBuiltin] at hl
       split at hl
       · rename_i x t hargs hts
         cases hz : lenable P t with
         | none => rw [hz] at hl; cases hl; exact hraw rfl
         | some str => rw [hz] at hl; cases hl; exact sound_len hop hc hargs hts hz r hd hn
       · cases hl; exact hd.elim
     · cases b <;> simp only [lowBuiltin] at hl <;> first | exact absurd rfl hlen | (cases hl; exact hraw rfl) | (cases hl; exact hpf rfl)
 | unOp => simp only [lowOp, hop] at hl; cases hl; exact sound_pure (by simp [hop]) r (by rw [hop]; exact hd) hn
 | extract => simp only [lowOp, hop] at hl; cases hl; exact sound_pure (by simp [hop]) r (by rw [hop]; exact hd) hn
 | makeFunc => simp only [lowOp, hop] at hl; cases hl; exact sound_pure (by simp [hop]) r (by rw [hop]; exact hd) hn
 | binOp op t x y u =>
   simp only [lowOp, hop] at hl
   split at hl
   · split at hl
     · cases hl
       simp only [denOp] at hd
       split at hd
       · rename_i l m hx hy
         exact wp_of_run (run_addS hop (r.vv hx).1 (r.vv hy).1 hd.1) (hn _ s h bs _ w hd.2 rfl r (Agree.refl bs) (Nat.le_refl _) noLoc)
       · exact hd.elim
     · cases hl; exact sound_pure (by simp [hop]) r (by rw [hop]; exact hd) hn
   · split at hl
     · cases hl
       simp only [denOp] at hd
       split at hd
       · rename_i l m hx hy
         exact wp_of_run (run_eqS hop (r.vv hx).1 (r.vv hy).1) (hn _ s h bs _ w hd rfl r (Agree.refl bs) (Nat.le_refl _) noLoc)
       · exact hd.elim
     · cases hl; exact sound_puref (by simp [hop]) r (by rw [hop]; exact hd) hn
     · cases hl; exact sound_puref (by simp [hop]) r (by rw [hop]; exact hd) hn
     · cases hl; exact sound_pure (by simp [hop]) r (by rw [hop]; exact hd) hn
   · split at hl
     · cases hl
       simp only [denOp] at hd
       split at hd
       · rename_i l m hx hy
         exact wp_of_run (run_neqS hop (r.vv hx).1 (r.vv hy).1) (hn _ s h bs _ w hd rfl r (Agree.refl bs) (Nat.le_refl _) noLoc)
       · exact hd.elim
     · cases hl; exact sound_puref (by simp [hop]) r (by rw [hop]; exact hd) hn
     · cases hl; exact sound_puref (by simp [hop]) r (by rw [hop]; exact hd) hn
     · cases hl; exact sound_pure (by simp [hop]) r (by rw [hop]; exact hd) hn
   all_goals try split at hl
   all_goals cases hl
   all_goals first | exact sound_puref (by simp [hop]) r (by rw [hop]; exact hd) hn | exact sound_pure (by simp [hop]) r (by rw [hop]; exact hd) hn
 | build t parts =>
   rcases lowBuild hop hl r with rfl | ⟨z, ps, rfl, hb⟩
   · exact hd.elim
   · obtain ⟨l, hk, hrun⟩ := hb hd
     exact wp_of_run (hrun w) (hn _ s h bs _ w hk rfl r (Agree.refl bs) (Nat.le_refl _) noLoc)
 | buildSlice t m parts =>
   rcases lowBuildSlice hop hl r with rfl | ⟨e, z, ps, rfl, hb⟩
   · exact hd.elim
   · obtain ⟨l, hk, hrun⟩ := hb hd
     exact wp_of_run hrun (hn _ s _ bs _ _ (hk _ r.sub.fresh) rfl (r.newReal _) (Agree.refl bs) (Nat.le_refl _) noLoc)
 | field t x f =>
   rcases lowField (a := a) hop hl with rfl | ⟨agg, off, k, rfl, hb⟩
   · exact hd.elim
   · simp only [denOp] at hd
     split at hd
     · rename_i l hx
       split at hd
       · rename_i hle
         exact wp_of_run (hb l w (r.vv hx).1 (Nat.le_of_ble_eq_true hle)) (hn _ s h bs _ w hd rfl r (Agree.refl bs) (Nat.le_refl _) noLoc)
       · exact hd.elim
     · exact hd.elim
 | convert src dst x =>
   simp only [lowOp, hop] at hl
   split at hl
   · rename_i k1 k h1 h2; cases hl; exact sound_conv hop h1 h2 r hd hn
   · rename_i e h1 h2
     split at hl
     · rename_i he
       cases hl
       simp only [denOp] at hd
       split at hd
       · rename_i b off m c hx
         obtain ⟨l, rfl, hrow, hk⟩ := hd
         exact wp_of_run (run_bytesS hop h1 he h2 (r.vv hx).1 r.sub hrow) (hn _ s h bs _ w hk rfl r (Agree.refl bs) (Nat.le_refl _) noLoc)
       · rename_i m c hx
         exact wp_of_run (run_bytesNil hop h1 he h2 (r.vv hx).1) (hn _ s h bs _ w hd rfl r (Agree.refl bs) (Nat.le_refl _) noLoc)
       · exact hd.elim
     · cases hl; exact sound_raw (by simp [hop]) r (by rw [hop]; exact hd) hn
   · cases hl; exact sound_raw (by simp [hop]) r (by rw [hop]; exact hd) hn
 | index t x i =>
   simp only [lowOp, hop] at hl
   split at hl
   · rename_i hu
     cases hl
     simp only [denOp] at hd
     split at hd
     · rename_i l k j hx hi
       obtain ⟨h0, c, hc, hk⟩ := hd
       exact wp_of_run (run_idxS hop hu (r.vv hx).1 (r.vv hi).1 h0 hc) (hn _ s h bs _ w hk rfl r (Agree.refl bs) (Nat.le_refl _) noLoc)
     · exact hd.elim
   · cases hl; exact sound_puref (by simp [hop]) r (by rw [hop]; exact hd) hn
 | slice t x lo hi mx =>
   simp only [lowOp, hop] at hl
   split at hl
   · rename_i hu
     cases hl
     simp only [denOp] at hd
     split at hd
     · rename_i l hx
       obtain ⟨v, hk, hrun⟩ := run_sliceS (K := fun v => K (.val v) s h) r hop hu (r.vv hx).1 hd
       exact wp_of_run (hrun w) (hn _ s h bs _ w hk rfl r (Agree.refl bs) (Nat.le_refl _) noLoc)
     · exact hd.elim
   · rename_i e hu
     split at hl
     · rename_i k hk
       cases hl
       simp only [denOp] at hd
       split at hd
       · rename_i b off m c hx
         obtain ⟨v, hk, hrun⟩ := run_sliceL (K := fun v => K (.val v) s h) r hop hu hk (r.vv hx).1 hd
         exact wp_of_run (hrun w) (hn _ s h bs _ w hk rfl r (Agree.refl bs) (Nat.le_refl _) noLoc)
       · rename_i hx
         obtain ⟨v, hk, hrun⟩ := run_sliceNil (K := fun v => K (.val v) s h) r hop hu hk (r.vv hx).1 hd
         exact wp_of_run (hrun w) (hn _ s h bs _ w hk rfl r (Agree.refl bs) (Nat.le_refl _) noLoc)
       · exact hd.elim
     · cases hl; exact hd.elim
   · cases hl; exact sound_puref (by simp [hop]) r (by rw [hop]; exact hd) hn
 | makeInterface => simp only [lowOp, hop] at hl; cases hl; exact sound_puref (by simp [hop]) r (by rw [hop]; exact hd) hn
 | makeMap | makeSlice | lookup | mapUpdate | insert | range | next | entry => simp only [lowOp, hop] at hl; cases hl; exact sound_raw (by simp [hop]) r (by rw [hop]; exact hd) hn
 | _ => simp only [lowOp, hop] at hl; cases hl; exact hd.elim
end
end Go.Den
namespace Go.Den
open Go
section
variable {P : Program} {n : Nat} {s : St} {h : PHeap}
theorem uponR_mono {R R' : Value → World → Prop} (hr : ∀ v w, R v w → R' v w) {x : Result Next} (hx : uponR P R x) : uponR P R' x := by
 unfold uponR at *
 split at hx
 · exact hr _ _ hx
 · exact Calls.mono hx fun e w he => by cases e <;> first | exact hr _ _ he | exact he
 · exact hx.elim
theorem Tri.mono {f : FuncId} {args : List Value} {Q Q' : Value → PHeap → Prop} (ht : Tri P f args h Q) (hq : ∀ v h', Q v h' → Q' v h') : Tri P f args h Q' :=
 fun w hw => uponR_mono (fun _ _ ⟨h', q, r⟩ => ⟨h', hq _ _ q, r⟩) (ht w hw)
theorem Raw.mono {x : Sem Next} {Q Q' : Value → PHeap → Prop} (ht : Raw P x h Q) (hq : ∀ v h', Q v h' → Q' v h') : Raw P x h Q' :=
 fun w hw => let ⟨m, v, w', h', a, b, c, d⟩ := ht w hw; ⟨m, v, w', h', a, b, hq _ _ c, d⟩
theorem br_mono {c : Bool} {X Y X' Y' : Prop} (hb : br c X Y) (hx : X → X') (hy : Y → Y') : br c X' Y' := by
 cases c
 · exact hy hb
 · exact hx hb
theorem bnd_mono {s : St} {oo : Option Operand} {d : Int} {K K' : Int → Prop} (hk : ∀ i, K i → K' i) (hd : bnd s oo d K) : bnd s oo d K' := by
 unfold bnd at *
 split at hd
 · exact hk _ hd
 · split at hd
   · exact hk _ hd
   · exact hd
theorem fillL_mono {s : St} : ∀ {ps : List (Nat × Nat × Operand)} {z : List Value} {K K' : List Value → Prop}, (∀ l, K l → K' l) → fillL s z ps K → fillL s z ps K'
 | [], z, K, K', hk, hd => hk _ hd
 | (off, n, x) :: l, z, K, K', hk, hd => by
   unfold fillL at hd ⊢
   split at hd
   · split at hd
     · exact fillL_mono hk hd
     · exact hd
   · exact hd
theorem denOp_frame {op : SOp} {K K' : SV → St → PHeap → Prop} (hd : denOp P op s h K)
 (hk : ∀ x s' h', K x s' h' → s'.regs = s.regs → s.nl ≤ s'.nl → K' x s' h') : denOp P op s h K' := by
 have hk0 : ∀ x h', K x s h' → K' x s h' := fun x h' hh => hk x s h' hh rfl (Nat.le_refl _)
 cases op with
 | mv x => exact hk0 _ _ hd
 | pick c x y =>
   simp only [denOp] at hd ⊢
   split at hd
   · exact br_mono hd (hk0 _ _) (hk0 _ _)
   · exact hd
 | alloc t z e =>
   cases e
   · exact hk _ _ _ hd rfl (Nat.le_succ _)
   · exact fun b hb => hk0 _ _ (hd b hb)
 | box t x e =>
   simp only [denOp] at hd ⊢
   split at hd
   · cases e
     · exact hk _ _ _ hd rfl (Nat.le_succ _)
     · exact fun b hb => hk0 _ _ (hd b hb)
   · exact hd
 | load agg k x =>
   simp only [denOp] at hd ⊢
   split at hd
   · split at hd
     · exact hk0 _ _ hd
     · exact hd
   · obtain ⟨l, a, b, c⟩ := hd; exact ⟨l, a, b, hk0 _ _ c⟩
   · exact hd
 | store k x y =>
   simp only [denOp] at hd ⊢
   split at hd
   · split at hd
     · split at hd
       · split at hd
         · exact hk _ _ _ hd rfl (Nat.le_refl _)
         · exact hd
       · obtain ⟨l, t, fz, a, b, c⟩ := hd; exact ⟨l, t, fz, a, b, hk0 _ _ c⟩
       · exact hd
     · exact hd
   · exact hd
 | nilCheck x =>
   simp only [denOp] at hd ⊢
   split at hd
   · exact hk0 _ _ hd
   · exact hk0 _ _ hd
   · exact hk0 _ _ hd
   · exact hd
 | fieldAddr f x =>
   simp only [denOp] at hd ⊢
   split at hd
   · exact hk0 _ _ hd
   · exact hk0 _ _ hd
   · exact hd
 | indexAddr f x y =>
   simp only [denOp] at hd ⊢
   split at hd
   · exact ⟨hd.1, hk0 _ _ hd.2⟩
   · exact hd
 | indexArr m k x y =>
   simp only [denOp] at hd ⊢
   split at hd
   · exact ⟨hd.1, hk0 _ _ hd.2⟩
   · exact hd
 | len str x =>
   cases str <;> simp only [denOp] at hd ⊢ <;> split at hd <;> first | exact hk0 _ _ hd | exact hd
 | call f args =>
   simp only [denOp] at hd ⊢
   split at hd
   · split at hd
     · exact hd.mono fun v h' => hk0 _ _
     · exact hd
   · exact hd
 | pure o t =>
   simp only [denOp] at hd ⊢
   split at hd
   · split at hd
     · exact hk0 _ _ hd
     · exact hd
   · exact hd
 | puref o t =>
   simp only [denOp] at hd ⊢
   split at hd
   · obtain ⟨v, a, b⟩ := hd; exact ⟨v, a, hk0 _ _ b⟩
   · exact hd
 | raw o t =>
   simp only [denOp] at hd ⊢
   split at hd
   · exact hd.mono fun v h' => hk0 _ _
   · exact hd
 | conv k x =>
   simp only [denOp] at hd ⊢
   split at hd
   · exact hk0 _ _ hd
   · exact hd
 | build z ps => exact fillL_mono (fun l => hk0 _ _) hd
 | buildSlice e m z ps => exact fillL_mono (fun l hd b hb => hk0 _ _ (hd b hb)) hd
 | field agg off k x =>
   simp only [denOp] at hd ⊢
   split at hd
   · split at hd
     · exact hk0 _ _ hd
     · exact hd
   · exact hd
 | idxS x i =>
   simp only [denOp] at hd ⊢
   split at hd
   · obtain ⟨a, c, b, d⟩ := hd; exact ⟨a, c, b, hk0 _ _ d⟩
   · exact hd
 | sliceS x lo hi =>
   simp only [denOp] at hd ⊢
   split at hd
   · exact bnd_mono (fun a ha => bnd_mono (fun b hb => ⟨hb.1, hk0 _ _ hb.2⟩) ha) hd
   · exact hd
 | sliceL k x lo hi =>
   simp only [denOp] at hd ⊢
   split at hd
   · exact bnd_mono (fun a ha => bnd_mono (fun b hb => ⟨hb.1, fun o' ho => hk0 _ _ (hb.2 o' ho)⟩) ha) hd
   · exact bnd_mono (fun a ha => bnd_mono (fun b hb => ⟨hb.1, hk0 _ _ hb.2⟩) ha) hd
   · exact hd
 | addS x y =>
   simp only [denOp] at hd ⊢
   split at hd
   · exact ⟨hd.1, hk0 _ _ hd.2⟩
   · exact hd
 | eqS neg x y =>
   simp only [denOp] at hd ⊢
   split at hd
   · cases neg <;> exact hk0 _ _ hd
   · exact hd
 | bytesS x =>
   simp only [denOp] at hd ⊢
   split at hd
   · obtain ⟨l, a, b, c⟩ := hd; exact ⟨l, a, b, hk0 _ _ c⟩
   · exact hk0 _ _ hd
   · exact hd
 | bad => exact hd
theorem lit_eq {s : St} {r : Nat} {b : Bool} (hr : s.regs r = .val (.bool b)) : s.lit r b = s := by
 unfold St.lit
 have : upd s.regs r (.val (.bool b)) = s.regs := by
  funext j
  by_cases e : j = r
  · subst e; rw [updSame, hr]
  · rw [updNe _ _ e]
 rw [this]
theorem litO_eq {s : St} {x : Operand} {b : Bool} (hr : s.ev x = .val (.bool b)) : s.litO x b = s := by
 cases x with
 | tmp t => exact lit_eq hr
 | _ => rfl
theorem denG_frame {o : SOper} {K K' : SV → St → PHeap → Prop} (hd : denG P o s h K)
 (hk : ∀ x s' h', K x s' h' → s'.regs = s.regs → s.nl ≤ s'.nl → K' x s' h') : denG P o s h K' := by
 have hk0 : ∀ x h', K x s h' → K' x s h' := fun x h' hh => hk x s h' hh rfl (Nat.le_refl _)
 unfold denG at *
 split at hd
 · exact denOp_frame hd hk
 · split at hd
   · rename_i c hc
     split at hd <;> cases c <;> simp only [br, lit_eq hc] at hd ⊢
     · exact hk0 _ _ hd
     · exact denOp_frame hd hk
     · exact denOp_frame hd hk
     · exact hk0 _ _ hd
   · exact hk0 _ _ hd
   · exact hd
theorem memN_cons_false {j d : Nat} {l : List Nat} (hm : memN j (d :: l) = false) : j ≠ d ∧ memN j l = false := by
 simp only [memN] at hm
 by_cases e : j = d
 · subst e; rw [beqSelf] at hm; cases hm
 · rw [beqNe e] at hm; exact ⟨e, hm⟩
theorem memN_append {j : Nat} : ∀ {l m : List Nat}, memN j (l ++ m) = (memN j l || memN j m)
 | [], m => by simp [memN]
 | x :: l, m => by
   simp only [List.cons_append, memN, memN_append (l := l)]
   cases Nat.beq j x <;> simp
theorem denL_frame : ∀ {l : List SOper} {s : St} {h : PHeap} {Q Q' : St → PHeap → Prop}, denL P n l Q s h →
 (∀ s' h', Q s' h' → (∀ j, memN j (writesOf l) = false → s'.regs j = s.regs j) → s.nl ≤ s'.nl → Q' s' h') → denL P n l Q' s h
 | [], s, h, Q, Q', hd, hq => hq s h hd (fun _ _ => rfl) (Nat.le_refl _)
 | o :: l, s, h, Q, Q', hd, hq => by
   unfold denL at hd ⊢
   refine denG_frame hd fun x s' h' hh hr hnl => ?_
   cases hdst : o.dst with
   | none =>
     rw [hdst] at hh
     refine denL_frame hh fun s'' h'' q hj hle => hq _ _ q (fun j hm => ?_) (Nat.le_trans hnl hle)
     simp only [writesOf, hdst] at hm
     rw [hj j hm, hr]
   | some d =>
     rw [hdst] at hh
     simp only at hh ⊢
     split at hh
     · refine denL_frame hh fun s'' h'' q hj hle => hq _ _ q (fun j hm => ?_) (Nat.le_trans hnl hle)
       simp only [writesOf, hdst] at hm
       obtain ⟨hne, hm⟩ := memN_cons_false hm
       rw [hj j hm, ← hr]; exact updNe _ _ hne
     · exact hh
theorem denTake_mono {op : SOp} {K K' : SV → Option (St → PHeap → Prop) → Prop} (hd : denTake P op s h K) (hk : ∀ x S, K x S → K' x S) : denTake P op s h K' := by
 unfold denTake at *
 split at hd
 · split at hd
   · split at hd
     · exact hk _ _ hd
     · exact hd
   · obtain ⟨l, a, b, c⟩ := hd; exact ⟨l, a, b, hk _ _ c⟩
   · exact hd
 · exact denOp_frame hd fun x _ _ hh _ _ => hk _ _ hh
theorem denTG_mono {o : SOper} {K K' : SV → St → Option (St → PHeap → Prop) → Prop} (hd : denTG P o s h K) (hk : ∀ x S, K x s S → K' x s S) : denTG P o s h K' := by
 unfold denTG at *
 split at hd
 · exact denTake_mono hd hk
 · split at hd
   · rename_i c hc
     split at hd <;> cases c <;> simp only [br, lit_eq hc] at hd ⊢
     · exact hk _ _ hd
     · exact denTake_mono hd hk
     · exact denTake_mono hd hk
     · exact hk _ _ hd
   · exact hk _ _ hd
   · exact hd
theorem putD_mono {d : Option Nat} {x : SV} {K K' : St → Prop} (hd : putD n d x s K) (hk : ∀ s', K s' → s'.nl = s.nl → (∀ j, d ≠ some j → s'.regs j = s.regs j) → K' s') : putD n d x s K' := by
 unfold putD at *
 split at hd
 · split at hd
   · exact hk _ hd rfl fun j hj => updNe _ _ (fun e => hj (by rw [e]))
   · exact hd
 · exact hk _ hd rfl fun _ _ => rfl
theorem penOk_mono {l : List (SOper × List Nat)} {i : Nat} : ∀ {pen : Pen} {R R' : Pen → Prop}, (∀ p, R p → R' p) → penOk l i s h pen R → penOk l i s h pen R'
 | [], R, R', hr, hp => hr _ hp
 | (k, S) :: pen, R, R', hr, hp => by
   unfold penOk at hp ⊢
   split at hp
   · exact penOk_mono hr hp
   · exact ⟨hp.1, penOk_mono (fun p => hr _) hp.2⟩
theorem allR_iff {α : Type} {p : α → Prop} : ∀ {l : List α}, allR l p ↔ ∀ x ∈ l, p x
 | [] => by simp [allR]
 | [x] => by simp [allR]
 | x :: y :: l => by simp [allR, allR_iff (l := y :: l)]
theorem memN_writes {o : SOper} {d j : Nat} (hd : o.dst = some d) : ∀ {l : List SOper}, o ∈ l → memN j (writesOf l) = false → j ≠ d
 | [], ho, _ => by cases ho
 | x :: l, ho, hm => by
   simp only [writesOf] at hm
   cases ho with
   | head =>
     rw [hd] at hm
     exact (memN_cons_false hm).1
   | tail _ ht =>
     split at hm
     · exact memN_writes hd ht (memN_cons_false hm).2
     · exact memN_writes hd ht hm
theorem readyL_mem {done : List Nat} : ∀ {l : List (SOper × List Nat)} {i : Nat} {p : Nat × SOper}, p ∈ readyL done i l → ∃ af, (p.2, af) ∈ l ∧ i ≤ p.1 ∧ l[p.1 - i]? = some (p.2, af) ∧ memN p.1 done = false ∧ subN af done = true
 | [], i, p, hp => by simp [readyL] at hp
 | (o, af) :: l, i, p, hp => by
   have rec' : p ∈ readyL done (i + 1) l → ∃ af', (p.2, af') ∈ (o, af) :: l ∧ i ≤ p.1 ∧ ((o, af) :: l)[p.1 - i]? = some (p.2, af') ∧ memN p.1 done = false ∧ subN af' done = true := fun hp => by
    obtain ⟨af', h1, h2, h3, h4⟩ := readyL_mem hp
    refine ⟨af', List.mem_cons_of_mem _ h1, by omega, ?_, h4⟩
    rw [show p.1 - i = (p.1 - (i + 1)) + 1 by omega]; simpa using h3
   unfold readyL at hp
   split at hp
   · rename_i hb
     simp only [Bool.and_eq_true, Bool.not_eq_true'] at hb
     cases hp with
     | head => exact ⟨af, List.mem_cons_self, Nat.le_refl _, by simp, hb.1, hb.2⟩
     | tail _ hp => exact rec' hp
   · exact rec' hp
theorem firstTake_mem : ∀ {l : List (Nat × SOper)} {p : Nat × SOper}, firstTake l = some p → p ∈ l ∧ takeable p.2.op = true
 | [], p, hp => by cases hp
 | (i, o) :: l, p, hp => by
   unfold firstTake at hp
   split at hp
   · rename_i ht; cases hp; exact ⟨List.mem_cons_self, ht⟩
   · obtain ⟨a, b⟩ := firstTake_mem hp; exact ⟨List.mem_cons_of_mem _ a, b⟩
theorem denA_frame {l : List (SOper × List Nat)} {Q Q' : St → PHeap → Prop} : ∀ {fuel : Nat} {done : List Nat} {pen : Pen} {s : St} {h : PHeap}, denA P n l Q fuel done pen s h →
 (∀ s' h', Q s' h' → (∀ j, memN j (writesOf (l.map (·.1))) = false → s'.regs j = s.regs j) → s.nl ≤ s'.nl → Q' s' h') → denA P n l Q' fuel done pen s h
 | 0, done, pen, s, h, hd, hq => by
   unfold denA at hd ⊢
   split at hd
   · exact hq _ _ hd (fun _ _ => rfl) (Nat.le_refl _)
   · exact hd
 | fuel + 1, done, pen, s, h, hd, hq => by
   unfold denA at hd ⊢
   split at hd
   · exact hq _ _ hd (fun _ _ => rfl) (Nat.le_refl _)
   · split at hd
     · rename_i i o ho
       have hmem := readyL_mem (firstTake_mem ho).1
       obtain ⟨af, hin, _⟩ := hmem
       refine denTG_mono hd fun x S hh => putD_mono hh fun s' hs hnl hj => denA_frame hs fun s'' h'' q hj' hle => hq _ _ q (fun j hm => ?_) (by omega)
       rw [hj' j hm]
       exact hj j fun e => memN_writes e (List.mem_map_of_mem (f := Prod.fst) hin) hm rfl
     · rw [allR_iff] at hd ⊢
       intro p hp
       obtain ⟨af, hin, _⟩ := readyL_mem hp
       refine denG_frame (hd p hp) fun x s' h' hh hr hnl => penOk_mono (fun pen' hh => putD_mono hh fun s'' hs hnl' hj => denA_frame hs fun s3 h3 q hj' hle => hq _ _ q (fun j hm => ?_) (by omega)) hh
       rw [hj' j hm, ← hr]
       exact hj j fun e => memN_writes e (List.mem_map_of_mem (f := Prod.fst) hin) hm rfl
theorem vOk_look {k : Nat} {ws : List Nat} {j : Nat} {x : SV} : ∀ {l : List (Nat × SV)}, vOk k ws l → lookN j l = some x → memN j ws = true ∧ ∀ i o, x = .loc i o → i < k
 | [], _, hx => by cases hx
 | (i, y) :: l, hv, hx => by
   unfold vOk at hv
   split at hv
   · rename_i hb
     simp only [Bool.and_eq_true] at hb
     simp only [lookN] at hx
     by_cases e : j = i
     · subst e
       rw [beqSelf] at hx
       simp only [cond_true, Option.some.injEq] at hx
       subst hx
       refine ⟨hb.1, fun a o e => ?_⟩
       subst e
       exact Nat.blt_eq.mp hb.2
     · rw [beqNe e] at hx
       exact vOk_look hv hx
   · exact hv.elim
theorem mkSt_regs {s : St} {ws : List Nat} {V : List (Nat × SV)} {L : List (Nat × List Value)} {k j : Nat} (hv : vOk k ws V) (hj : memN j ws = false) : (mkSt s ws V L).regs j = s.regs j := by
 simp only [mkSt]
 cases hl : lookN j V with
 | none => simp [hj]
 | some x => have := (vOk_look hv hl).1; rw [hj] at this; cases this
theorem den_frame : ∀ {c : SCode} {s : St} {h : PHeap} {Q Q' : Ex → St → PHeap → Prop}, den P n c Q s h →
 (∀ e s' h', Q e s' h' → (∀ j, memN j (swrites c) = false → s'.regs j = s.regs j) → s.nl ≤ s'.nl → Q' e s' h') → den P n c Q' s h
 | .skip, s, h, Q, Q', hd, hq => hq _ _ _ hd (fun _ _ => rfl) (Nat.le_refl _)
 | .ops l, s, h, Q, Q', hd, hq => denL_frame hd fun s' h' q => hq _ _ _ q
 | .draw l, s, h, Q, Q', hd, hq => denA_frame hd fun s' h' q => hq _ _ _ q
 | .seq a b, s, h, Q, Q', hd, hq => by
   unfold den at hd ⊢
   refine den_frame hd fun e s' h' q hj hnl => ?_
   have hm1 : ∀ j, memN j (swrites (.seq a b)) = false → memN j (swrites a) = false ∧ memN j (swrites b) = false := fun j hm => by
    simpa [swrites, memN_append] using hm
   cases e with
   | normal =>
     refine den_frame q fun e s'' h'' q' hj' hnl' => hq _ _ _ q' (fun j hm => ?_) (Nat.le_trans hnl hnl')
     rw [hj' j (hm1 j hm).2, hj j (hm1 j hm).1]
   | exit k => exact hq _ _ _ q (fun j hm => hj j (hm1 j hm).1) hnl
   | ret => exact hq _ _ _ q (fun j hm => hj j (hm1 j hm).1) hnl
 | .cond c a b, s, h, Q, Q', hd, hq => by
   unfold den at hd ⊢
   have hm1 : ∀ j, memN j (swrites (.cond c a b)) = false → memN j (swrites a) = false ∧ memN j (swrites b) = false := fun j hm => by
    simpa [swrites, memN_append] using hm
   split at hd
   · rename_i b' hb
     cases b' <;> simp only [br, litO_eq hb] at hd ⊢
     · exact den_frame hd fun e s' h' q hj => hq _ _ _ q fun j hm => hj j (hm1 j hm).2
     · exact den_frame hd fun e s' h' q hj => hq _ _ _ q fun j hm => hj j (hm1 j hm).1
   · exact hd
 | .block id c, s, h, Q, Q', hd, hq => by
   unfold den at hd ⊢
   refine den_frame hd fun e s' h' q hj hnl => ?_
   cases e with
   | normal => exact hq _ _ _ q hj hnl
   | exit k =>
     simp only at q ⊢
     split at q
     · exact hq _ _ _ q hj hnl
     · exact hq _ _ _ q hj hnl
   | ret => exact hq _ _ _ q hj hnl
 | .loop ws c, s, h, Q, Q', hd, hq => by
   unfold den at hd ⊢
   obtain ⟨α, I, V, L, μ, hx, ho, hround⟩ := hd
   have hm1 : ∀ j, memN j (swrites (.loop ws c)) = false → memN j ws = false ∧ memN j (swrites c) = false := fun j hm => by
    simpa [swrites, memN_append] using hm
   refine ⟨α, I, V, L, μ, hx, ho, fun x h1 hI => den_frame (hround x h1 hI) fun e s' h' q hj hnl => ?_⟩
   cases e with
   | normal => exact q
   | exit k => exact hq _ _ _ q (fun j hm => by rw [hj j (hm1 j hm).2]; exact mkSt_regs (ho x) (hm1 j hm).1) hnl
   | ret => exact hq _ _ _ q (fun j hm => by rw [hj j (hm1 j hm).2]; exact mkSt_regs (ho x) (hm1 j hm).1) hnl
 | .bad, s, h, Q, Q', hd, hq => hd.elim
 | .exit k, s, h, Q, Q', hd, hq => hq _ _ _ hd (fun _ _ => rfl) (Nat.le_refl _)
 | .ret, s, h, Q, Q', hd, hq => hq _ _ _ hd (fun _ _ => rfl) (Nat.le_refl _)
end
end Go.Den
namespace Go.Den
open Go
section
variable {P : Program} {n : Nat} {w0 : World} {h0 : PHeap} {s : St} {bs : Nat → Nat} {h : PHeap} {a : Act} {w : World}
def QR (n : Nat) (w0 : World) (h0 : PHeap) (Q : Ex → St → PHeap → Prop) : Exit → Act → World → Prop
 | .normal, a, w => ∃ s bs h, Q .normal s h ∧ Rel n w0 h0 s bs h a w
 | .exit k, a, w => ∃ s bs h, Q (.exit k) s h ∧ Rel n w0 h0 s bs h a w
 | .ret, a, w => ∃ s bs h, Q .ret s h ∧ Rel n w0 h0 s bs h a w
 | _, _, _ => False
theorem wanted_none {o : Oper} {y : Nat → Option Bool} (hg : o.guard = none) : Region.wanted o y = true := by simp [Region.wanted, hg]
theorem yielded_bool (r : Rel n w0 h0 s bs h a w) {ops : Array Oper} {j d : Nat} {c : Bool} (hd : (ops[j]?).bind (·.dst) = some d) (hr : s.regs d = .val (.bool c)) : yielded ops a.tmps j = some c := by
 have hdn : d < n := by
  rcases Nat.lt_or_ge d n with h1 | h1
  · exact h1
  · have := (r.big d 0 0 h1).2 _ hr; simp [undef] at this
 have hv := r.regs d hdn
 rw [hr] at hv
 simp only [SV.sat] at hv
 have hsz : d < a.tmps.size := by rw [r.size]; exact hdn
 have : a.tmps[d]? = some (.bool c) := by
  rw [Array.getD_eq_getD_getElem?] at hv
  cases hx : a.tmps[d]? with
  | none => rw [Array.getElem?_eq_none_iff] at hx; omega
  | some v => rw [hx] at hv; simp at hv; rw [hv]
 unfold yielded
 rw [hd]
 simp [this]
theorem yielded_tuple (r : Rel n w0 h0 s bs h a w) {ops : Array Oper} {j d : Nat} {c : Array Value} (hd : (ops[j]?).bind (·.dst) = some d) (hr : s.regs d = .val (.tuple c)) : yielded ops a.tmps j = none := by
 unfold yielded
 rw [hd]
 simp only [Option.bind_some]
 rcases Nat.lt_or_ge d n with h1 | h1
 · have hv := r.regs d h1
   rw [hr] at hv
   simp only [SV.sat] at hv
   rw [Array.getD_eq_getD_getElem?] at hv
   cases hx : a.tmps[d]? with
   | none => rfl
   | some v => rw [hx] at hv; simp at hv; rw [hv]
 · rw [Array.getElem?_eq_none (by rw [r.size]; exact h1)]
theorem denG_sound {ops : Array Oper} {esc : Nat → Bool} {o : Oper} {so : SOper} {K : SV → St → PHeap → Prop} {next : Act → World → Prop} {Q : Exit → Act → World → Prop}
 (hl : lowOper P esc ops o = some so) (r : Rel n w0 h0 s bs h a w) (hd : denG P so s h K) (hn : Nxt n w0 h0 s bs a K fun v => next (a.put o.dst v)) :
 if Region.wanted o (yielded ops a.tmps) then o.wp P a w next Q else next (a.put o.dst undef) w := by
 rw [lowOper_eq] at hl
 split at hl
 · rename_i op g hop hg
   cases hl
   have hskip : K (.val undef) s h → next (a.put o.dst undef) w := fun hk => hn _ s h bs _ w hk rfl r (Agree.refl bs) (Nat.le_refl _) noLoc
   unfold lowGuard at hg
   split at hg
   · rename_i hgu
     cases hg
     rw [if_pos (wanted_none hgu)]
     exact denOp_sound hop r hd hn
   · rename_i j b hgu
     split at hg
     · rename_i d _ _ _ _ _ hnth
       have hdst : (ops[j]?).bind (·.dst) = some d := by
        rw [nthL_eq, Array.getElem?_toList] at hnth
        rw [hnth]; rfl
       cases hg
       simp only [denG] at hd
       split at hd
       · rename_i c hc
         have hy := yielded_bool r hdst hc
         have hw : Region.wanted o (yielded ops a.tmps) = (c == b) := by
          simp only [Region.wanted, hgu, hy]; cases c <;> cases b <;> rfl
         rw [hw]
         cases b <;> cases c <;> simp only [br, lit_eq hc] at hd
         · rw [if_pos (by decide)]; exact denOp_sound hop r hd hn
         · rw [if_neg (by decide)]; exact hskip hd
         · rw [if_neg (by decide)]; exact hskip hd
         · rw [if_pos (by decide)]; exact denOp_sound hop r hd hn
       · rename_i c hc
         have hy := yielded_tuple r hdst hc
         have hw : Region.wanted o (yielded ops a.tmps) = false := by
          simp only [Region.wanted, hgu, hy]; rfl
         rw [hw, if_neg (by decide)]
         exact hskip hd
       · exact hd.elim
     · cases hg
 · cases hl
theorem lowOper_dst {ops : Array Oper} {esc : Nat → Bool} {o : Oper} {so : SOper} (hl : lowOper P esc ops o = some so) : so.dst = o.dst := by
 rw [lowOper_eq] at hl
 split at hl
 · cases hl; rfl
 · cases hl
theorem denL_sound {ops : Array Oper} {esc : Nat → Bool} {Q : Ex → St → PHeap → Prop} : ∀ {l : List Oper} {sl : List SOper} {s : St} {bs : Nat → Nat} {h : PHeap} {a : Act} {w : World},
 lowOpers P esc ops l = some sl → Rel n w0 h0 s bs h a w → denL P n sl (Q .normal) s h → wpList P ops (QR n w0 h0 Q) l a w
 | [], sl, s, bs, h, a, w, hl, r, hd => by
   cases hl
   exact ⟨s, bs, h, hd, r⟩
 | o :: l, sl, s, bs, h, a, w, hl, r, hd => by
   unfold lowOpers at hl
   split at hl
   · rename_i x xs hx hxs
     cases hl
     unfold denL at hd
     have hdst := lowOper_dst hx
     have key := denG_sound (P := P) (Q := QR n w0 h0 Q) (next := wpList P ops (QR n w0 h0 Q) l) hx r hd ?_
     · unfold wpList
       split
       · rename_i hw; rw [if_pos hw] at key; exact .inl key
       · rename_i hw; rw [if_neg hw] at key; exact key
     · intro y s' h' bs' v w' hk hs r' _ _ hlt
       rw [hdst] at hk
       cases hd : o.dst with
       | none =>
         rw [hd] at hk
         exact denL_sound hxs r' hk
       | some d =>
         rw [hd] at hk
         simp only at hk
         split at hk
         · rename_i hb
           exact denL_sound hxs (r'.put (Nat.blt_eq.mp hb) hs hlt) hk
         · exact hk.elim
   · cases hl
theorem wp_loopM {c : Code} {Q : Exit → Act → World → Prop} (I : Nat → Act → World → Prop)
 (round : ∀ m a w, I m a w → c.wp P (Exit.then (fun a' w' => ∃ m', m' < m ∧ I m' a' w') Q) a w) {m : Nat} {a : Act} {w : World} (hI : I m a w) : (Code.loop c).wp P Q a w := by
 intro b k cs
 have key : ∀ m a w, I m a w →
  ∃ e a' w', Q e a' w' ∧ Arrives P (lone (b.at a (.code c :: .inLoop c :: k)) cs w) b k cs e a' w' := by
  intro m
  induction m using Nat.strongRecOn with
  | _ m ih =>
    intro a w hI
    obtain ⟨e, a₁, w₁, hq, harr⟩ := round m a w hI b (.inLoop c :: k) cs
    cases e with
    | normal =>
      obtain ⟨m', hlt, hI₁⟩ := hq
      obtain ⟨e₂, a₂, w₂, hq₂, harr₂⟩ := ih m' hlt a₁ w₁ hI₁
      exact ⟨e₂, a₂, w₂, hq₂, .of_steps (Steps.trans harr (.one step_inLoop)) harr₂⟩
    | exit id => exact ⟨_, a₁, w₁, hq, .pass (x := .inLoop c) rfl (fun _ _ => .inl (by simp)) harr⟩
    | goto l => exact ⟨_, a₁, w₁, hq, .pass (x := .inLoop c) rfl (fun _ _ => .inl (by simp)) harr⟩
    | ret => exact ⟨_, a₁, w₁, hq, .pass (x := .inLoop c) rfl (fun _ _ => .inl (by simp)) harr⟩
    | panic ch => exact ⟨_, a₁, w₁, hq, .pass (x := .inLoop c) rfl (fun _ _ => .inl (by simp)) harr⟩
    | outgrown => exact ⟨_, a₁, w₁, hq, .pass (x := .inLoop c) rfl (fun _ _ => .inl (by simp)) harr⟩
 obtain ⟨e, a', w', hq, harr⟩ := key m a w hI
 exact ⟨e, a', w', hq, .of_steps (.one step_loop) harr⟩
theorem fitR_look {f : Nat → SV} {j : Nat} {x : SV} : ∀ {l : List (Nat × SV)}, fitR f l → lookN j l = some x → f j = x
 | [], _, hx => by cases hx
 | [(i, y)], hf, hx => by
   simp only [lookN] at hx
   by_cases e : j = i
   · subst e; rw [beqSelf] at hx; cases hx; exact hf
   · rw [beqNe e] at hx; cases hx
 | (i, y) :: z :: l, hf, hx => by
   simp only [lookN] at hx
   by_cases e : j = i
   · subst e; rw [beqSelf] at hx; cases hx; exact hf.1
   · rw [beqNe e] at hx; exact fitR_look hf.2 hx
theorem fitL_get {f g : Nat → List Value} : ∀ {k i : Nat}, fitL f g k → i < k → f i = g i
 | 0, i, _, hi => by omega
 | 1, i, hf, hi => by
   have : i = 0 := by omega
   subst this; exact hf
 | k + 2, i, hf, hi => by
   by_cases e : i = k + 1
   · subst e; exact hf.1
   · exact fitL_get hf.2 (by omega)
theorem dedupN_mem {j : Nat} : ∀ {l : List Nat}, memN j (dedupN l) = memN j l
 | [] => rfl
 | x :: l => by
   simp only [dedupN]
   cases hm : memN x (dedupN l) with
   | true =>
     simp only [cond_true, memN, dedupN_mem (l := l)]
     by_cases e : j = x
     · subst e; rw [beqSelf]; rw [dedupN_mem] at hm; simp [hm]
     · rw [beqNe e]; simp
   | false => simp only [cond_false, memN, dedupN_mem (l := l)]
theorem Rel.toLoop {s' : St} {bs' : Nat → Nat} {h' : PHeap} {a' : Act} {w' : World} {ws : List Nat} {V : List (Nat × SV)} {L : List (Nat × List Value)}
 (r0 : Rel n w0 h0 s bs h a w) (r : Rel n w0 h0 s' bs' h' a' w') (hv : vOk s.nl ws V) (hfR : fitR s'.regs V) (hfL : fitL s'.locs (mkSt s ws V L).locs s.nl) (hnl : s.nl ≤ s'.nl)
 (hout : ∀ j, memN j ws = false → s'.regs j = s.regs j) : Rel n w0 h0 (mkSt s ws V L) bs' h' a' w' where
 size := r.size
 defers := r.defers
 regs := fun j hj => by
  have hr := r.regs j hj
  simp only [mkSt]
  cases hl : lookN j V with
  | some x => rw [fitR_look hfR hl] at hr; exact hr
  | none =>
    cases hm : memN j ws with
    | true => trivial
    | false => rw [hout j hm] at hr; exact hr
 big := fun j i o hj => by
  have hb := r.big j i o hj
  simp only [mkSt]
  cases hl : lookN j V with
  | some x => rw [fitR_look hfR hl] at hb; exact hb
  | none =>
    cases hm : memN j ws with
    | true => exact ⟨(fun e => by cases e), fun v e => by cases e⟩
    | false => rw [hout j hm] at hb; exact hb
 sub := r.sub
 keep := r.keep
 loc := fun i hi => by
  have hi' : i < s.nl := hi
  rw [← fitL_get hfL hi']
  exact r.loc i (Nat.lt_of_lt_of_le hi' hnl)
 inj := fun i j hi hj => r.inj i j (Nat.lt_of_lt_of_le (show i < s.nl from hi) hnl) (Nat.lt_of_lt_of_le (show j < s.nl from hj) hnl)
 lt := fun j i o hj he => by
  simp only [mkSt] at he ⊢
  cases hl : lookN j V with
  | some x => rw [hl] at he; exact (vOk_look hv hl).2 i o he
  | none =>
    rw [hl] at he
    cases hm : memN j ws with
    | true => rw [hm] at he; cases he
    | false => rw [hm] at he; exact r0.lt j i o hj he
end
end Go.Den
namespace Go.Den
open Go
section
variable {P : Program} {ops : Array Oper} {Q : Exit → Act → World → Prop}
inductive Waits (ops : Array Oper) : Nat → Nat → Prop
 | one {i k : Nat} {o : Oper} (ho : ops[i]? = some o) (hk : k ∈ edges o) : Waits ops i k
 | more {i j k : Nat} {o : Oper} (ho : ops[i]? = some o) (hj : j ∈ edges o) (hw : Waits ops j k) : Waits ops i k
def Closed (ops : Array Oper) (listed : Array Bool) : Prop :=
 ∀ i o, ops[i]? = some o → listed.getD i false = true → ∀ k ∈ edges o, listed.getD k false = true
theorem mem_edgesL {k : Nat} : ∀ {l : List Edge}, k ∈ edgesL l ↔ ∃ e ∈ l, Region.binds .any e = true ∧ e.on = k
 | [] => by simp [edgesL]
 | ⟨j, g⟩ :: l => by
   unfold edgesL
   split
   · rename_i hb
     simp only [List.mem_cons, mem_edgesL (l := l)]
     constructor
     · rintro (rfl | ⟨e, he, h1, h2⟩)
       · exact ⟨_, .inl rfl, hb, rfl⟩
       · exact ⟨e, .inr he, h1, h2⟩
     · rintro ⟨e, (rfl | he), h1, h2⟩
       · exact .inl h2.symm
       · exact .inr ⟨e, he, h1, h2⟩
   · rename_i hb
     rw [mem_edgesL (l := l)]
     constructor
     · rintro ⟨e, he, h1, h2⟩; exact ⟨e, List.mem_cons_of_mem _ he, h1, h2⟩
     · rintro ⟨e, he, h1, h2⟩
       cases he with
       | head => rw [hb] at h1; cases h1
       | tail _ ht => exact ⟨e, ht, h1, h2⟩
theorem mem_edges {o : Oper} {k : Nat} : k ∈ edges o ↔ ∃ e ∈ o.after, Region.binds .any e = true ∧ e.on = k := by
 obtain ⟨d, op, ty, p, af, g⟩ := o
 simp only [edges, mem_edgesL, Array.mem_toList_iff]
theorem Waits.listed {listed : Array Bool} (hc : Closed ops listed) {i k : Nat} (hw : Waits ops i k) : (∀ o, ops[i]? = some o → ∀ j ∈ edges o, listed.getD j false = true) → listed.getD k false = true := by
 induction hw with
 | one ho hk => exact fun h => h _ ho _ hk
 | more ho hj hw ih => exact fun h => ih fun o' ho' => hc _ _ ho' (h _ ho _ hj)
abbrev PenW := List (Nat × (World → Prop))
def wpAnyT (P : Program) (ops : Array Oper) (W : Nat → Nat → Bool) (Q : Exit → Act → World → Prop) : Nat → Array Bool → PenW → Act → World → Prop
 | 0, listed, _, a, w => Region.ready .any ops listed = [] ∧ Q .normal a w
 | fuel + 1, listed, pen, a, w =>
   (Region.ready .any ops listed = [] → Q .normal a w) ∧
   ∀ i ∈ Region.ready .any ops listed, wpOp P ops Q i (fun a' w' => (∀ p ∈ pen, W i p.1 = false → p.2 w') ∧ wpAnyT P ops W Q fuel (listed.setIfInBounds i true) (pen.filter fun p => !W i p.1) a' w') a w
theorem wpAny_of_T {W : Nat → Nat → Bool} : ∀ (fuel : Nat) (listed : Array Bool) (pen : PenW) (a : Act) (w : World), wpAnyT P ops W Q fuel listed pen a w → wpAny P .any ops Q fuel listed a w
 | 0, _, _, _, _, h => h
 | fuel + 1, _, _, _, _, h => ⟨h.1, fun i hi => wpOp_mono (fun a' w' h' => wpAny_of_T fuel _ _ a' w' h'.2) (h.2 i hi)⟩
theorem wpAnyT_drop' {W : Nat → Nat → Bool} : ∀ (fuel : Nat) (listed : Array Bool) (pen pen' : PenW) (a : Act) (w : World), (∀ p ∈ pen', p ∈ pen ∨ ∀ w, p.2 w) → wpAnyT P ops W Q fuel listed pen a w → wpAnyT P ops W Q fuel listed pen' a w
 | 0, _, _, _, _, _, _, h => h
 | fuel + 1, _, pen, pen', _, _, hs, h => ⟨h.1, fun i hi => wpOp_mono (fun a' w' h' => ⟨fun p hp hw => (hs p hp).elim (fun hm => h'.1 p hm hw) (fun ht => ht w'), wpAnyT_drop' fuel _ _ _ a' w' (fun p hp => by
  rw [List.mem_filter] at hp
  rcases hs p hp.1 with hm | ht
  · exact .inl (List.mem_filter.2 ⟨hm, hp.2⟩)
  · exact .inr ht) h'.2⟩) (h.2 i hi)⟩
theorem wpAnyT_drop {W : Nat → Nat → Bool} (fuel : Nat) (listed : Array Bool) (pen pen' : PenW) (a : Act) (w : World) (hs : ∀ p ∈ pen', p ∈ pen) (h : wpAnyT P ops W Q fuel listed pen a w) : wpAnyT P ops W Q fuel listed pen' a w :=
 wpAnyT_drop' fuel listed pen pen' a w (fun p hp => .inl (hs p hp)) h
theorem ready_edges {listed : Array Bool} {i : Nat} (hi : i ∈ Region.ready .any ops listed) : ∀ o, ops[i]? = some o → ∀ k ∈ edges o, listed.getD k false = true := by
 intro o ho k hk
 obtain ⟨_, o', ho', hall⟩ := mem_ready.1 hi
 rw [ho] at ho'
 cases ho'
 obtain ⟨e, he, hb, rfl⟩ := mem_edges.1 hk
 exact hall e he hb
theorem Closed.set {listed : Array Bool} (hc : Closed ops listed) {i : Nat} (hi : i ∈ Region.ready .any ops listed) : Closed ops (listed.setIfInBounds i true) := by
 intro j o ho hj k hk
 by_cases e : j = i
 · subst e
   exact getD_set_true (ready_edges hi o ho k hk)
 · rw [getD_set_ne false (Ne.symm e)] at hj
   exact getD_set_true (hc j o ho hj k hk)
theorem wpAnyT_first {W : Nat → Nat → Bool} (hW : ∀ i k, W i k = true → Waits ops i k) {i : Nat} {oi : Oper} {v : Value} {S : World → Prop} (hi : ops[i]? = some oi) (hsel : ∀ (j : Nat) (o : Oper) cs b, ops[j]? = some o → o.op ≠ .select cs b)
 (hQ : ∀ c a w, Q (.panic c) (a.put oi.dst v) w → Q (.panic c) a w) :
 ∀ (fuel : Nat) (listed : Array Bool) (pen : PenW) (a : Act) (w : World),
   Closed ops listed →
   (∀ j oj, ops[j]? = some oj → j ≠ i → listed.getD j true = false → (∀ e ∈ oj.after, Region.binds .any e = true → e.on ≠ i) → oi.apart ops oj = true) →
   i ∈ Region.ready .any ops listed → YieldsIf P ops S oi v a → S w → (∀ p ∈ pen, p.2 w) →
   wpAnyT P ops W Q fuel (listed.setIfInBounds i true) ((i, S) :: pen) (a.put oi.dst v) w → wpAnyT P ops W Q (fuel + 1) listed pen a w := by
 have hself : ∀ (fuel : Nat) (listed : Array Bool) (pen : PenW) (a : Act) (w : World), YieldsIf P ops S oi v a → S w → (∀ p ∈ pen, p.2 w) → wpAnyT P ops W Q fuel (listed.setIfInBounds i true) ((i, S) :: pen) (a.put oi.dst v) w →
  wpOp P ops Q i (fun a' w' => (∀ p ∈ pen, W i p.1 = false → p.2 w') ∧ wpAnyT P ops W Q fuel (listed.setIfInBounds i true) (pen.filter fun p => !W i p.1) a' w') a w := by
  intro fuel listed pen a w hy hS hpen H
  refine hy.wpOp hi hS ⟨fun p hp _ => hpen p hp, wpAnyT_drop fuel _ _ _ _ _ (fun p hp => ?_) H⟩
  exact List.mem_cons_of_mem _ (List.mem_filter.1 hp).1
 intro fuel
 induction fuel with
 | zero =>
   intro listed pen a w _ _ hr hy hS hpen H
   refine ⟨fun h => (by rw [h] at hr; cases hr), fun j hj => ?_⟩
   by_cases hji : j = i
   · subst hji; exact hself 0 listed pen a w hy hS hpen H
   · have := ready_mono hj hji
     rw [H.1] at this
     cases this
 | succ fuel ih =>
   intro listed pen a w hcl hfree hr hy hS hpen H
   refine ⟨fun h => (by rw [h] at hr; cases hr), fun j hj => ?_⟩
   by_cases hji : j = i
   · subst hji; exact hself (fuel + 1) listed pen a w hy hS hpen H
   · have h1 := H.2 j (ready_mono hj hji)
     obtain ⟨hjun, oj, hoj, hall⟩ := mem_ready.1 hj
     have hun : listed.getD i false ≠ true := fun h1 => by
      have h0 := (mem_ready.1 hr).1
      rcases Nat.lt_or_ge i listed.size with h' | h'
      · simp [h'] at h0 h1; rw [h0] at h1; cases h1
      · simp [Array.getElem?_eq_none h'] at h1
     have hnot : ∀ e ∈ oj.after, Region.binds .any e = true → e.on ≠ i := fun e he hb heq => hun (heq ▸ hall e he hb)
     have hWji : W j i = false := by
      cases hx : W j i with
      | false => rfl
      | true => exact absurd ((hW j i hx).listed hcl (ready_edges hj)) hun
     have h2 := wpOp_putIf hoj (hfree j oj hoj hji hjun hnot) (fun cs b => hsel i oi cs b hi) (fun cs b => hsel j oj cs b hoj) hQ hy h1
     have hfree' : ∀ k ok, ops[k]? = some ok → k ≠ i → (listed.setIfInBounds j true).getD k true = false →
      (∀ e ∈ ok.after, Region.binds .any e = true → e.on ≠ i) → oi.apart ops ok = true := fun k ok hk hki hun hno => by
      refine hfree k ok hk hki ?_ hno
      by_cases hjk : j = k
      · subst hjk; exact hjun
      · rw [getD_set_ne true hjk] at hun; exact hun
     refine wpOp_mono (fun a' w' h3 => ?_) h2
     obtain ⟨hy', hp', h3⟩ := h3
     have hS' : S w' := hp' (i, S) List.mem_cons_self hWji
     have hpen' : ∀ p ∈ pen, W j p.1 = false → p.2 w' := fun p hp => hp' p (List.mem_cons_of_mem _ hp)
     refine ⟨hpen', ih (listed.setIfInBounds j true) _ a' w' (hcl.set hj) hfree' (ready_mono hr (Ne.symm hji)) hy' hS' (fun p hp => ?_) ?_⟩
     · obtain ⟨h4, h5⟩ := List.mem_filter.1 hp
       exact hpen' p h4 (by simpa using h5)
     · rw [Array.setIfInBounds_comm _ _ hji]
       have : (((i, S) :: pen).filter fun p => !W j p.1) = (i, S) :: (pen.filter fun p => !W j p.1) := by
        rw [List.filter_cons]; simp [hWji]
       rw [this] at h3
       exact h3
end
end Go.Den
namespace Go.Den
open Go
section
variable {P : Program} {n : Nat} {w0 : World} {h0 : PHeap} {s : St} {bs : Nat → Nat} {h : PHeap} {a : Act} {w : World} {o : Oper}
def Stays (n : Nat) (w0 : World) (h0 : PHeap) (s : St) (bs : Nat → Nat) (h : PHeap) (Sw : World → Prop) : Option (St → PHeap → Prop) → Prop
 | none => ∀ w', Sw w'
 | some S => S s h ∧ ∀ s' bs' h' a' w', Rel n w0 h0 s' bs' h' a' w' → Agree s.nl bs bs' → s.nl ≤ s'.nl → S s' h' → Sw w'
def Gives (P : Program) (n : Nat) (w0 : World) (h0 : PHeap) (s : St) (bs : Nat → Nat) (h : PHeap) (a : Act) (w : World) (o : Oper) (K : SV → Option (St → PHeap → Prop) → Prop) : Prop :=
 ∃ (x : SV) (v : Value) (S : Option (St → PHeap → Prop)) (Sw : World → Prop), K x S ∧ x.sat bs v ∧ (∀ i off, x = .loc i off → i < s.nl) ∧ Stays n w0 h0 s bs h Sw S ∧ Sw w ∧
   (∀ w', Sw w' → (execOp a.eval o).run P w' = .ok (.value v) w')
theorem Gives.plain {K : SV → Option (St → PHeap → Prop) → Prop} {x : SV} {v : Value} (hk : K x none) (hx : x.sat bs v) (hl : ∀ i off, x = .loc i off → i < s.nl)
 (hr : ∀ w', (execOp a.eval o).run P w' = .ok (.value v) w') : Gives P n w0 h0 s bs h a w o K :=
 ⟨x, v, none, fun _ => True, hk, hx, hl, fun _ => trivial, trivial, fun w' _ => hr w'⟩
theorem take_sound {esc : Nat → Bool} {so : SOp} {K : SV → Option (St → PHeap → Prop) → Prop} (ht : takeable so = true) (hl : lowOp P esc o.dst o.op o.type = some so) (r : Rel n w0 h0 s bs h a w)
 (hd : denTake P so s h K) : Gives P n w0 h0 s bs h a w o K := by
 have hpf : (∀ cs b, o.op ≠ .select cs b) → so = .puref o.op o.type → Gives P n w0 h0 s bs h a w o K := fun hs e => by
  subst e
  simp only [denTake, denOp] at hd
  split at hd
  · rename_i hall
    obtain ⟨v, hv, hk⟩ := hd
    exact .plain hk rfl noLoc fun w' => by rw [execOp_vv r hs hall]; exact hv w'
  · exact hd.elim
 have hpu : (∀ cs b, o.op ≠ .select cs b) → so = .pure o.op o.type → Gives P n w0 h0 s bs h a w o K := fun hs e => by
  subst e
  simp only [denTake, denOp] at hd
  split at hd
  · rename_i hall
    split at hd
    · rename_i v hv
      exact .plain hd rfl noLoc fun w' => by rw [execOp_vv r hs hall]; exact pureVal_run _ hv w'
    · exact hd.elim
  · exact hd.elim
 have hmv : ∀ x, (o.op = .move x ∨ o.op = .assign x) → so = .mv x → Gives P n w0 h0 s bs h a w o K := fun x hop e => by
  subst e
  simp only [denTake, denOp] at hd
  exact .plain hd (r.ev x) (St.ev_loc_lt r x) fun w' => by rcases hop with e | e <;> simp [execOp, e]
 cases hop : o.op with
 | move x => simp only [lowOp, hop] at hl; cases hl; exact hmv x (.inl hop) rfl
 | assign x => simp only [lowOp, hop] at hl; cases hl; exact hmv x (.inr hop) rfl
 | pick c x y =>
   simp only [lowOp, hop] at hl; cases hl
   simp only [denTake, denOp] at hd
   split at hd
   · rename_i b hb
     have hc := (r.vv hb).1
     cases b
     · exact .plain (v := a.eval y) hd (r.ev y) (St.ev_loc_lt r y) fun w' => by simp [execOp, hop, hc, asBool]
     · exact .plain (v := a.eval x) hd (r.ev x) (St.ev_loc_lt r x) fun w' => by simp [execOp, hop, hc, asBool]
   · exact hd.elim
 | alloc t =>
   simp only [lowOp, hop] at hl
   split at hl <;> cases hl <;> cases ht
 | box t x => simp only [lowOp, hop] at hl; cases hl; cases ht
 | load t x =>
   rcases lowLoad hop hl with rfl | ⟨agg, k, rfl, h1, h2, h3⟩
   · exact hd.elim
   simp only [denTake] at hd
   split at hd
   · rename_i i off hx
     obtain ⟨hx', hi⟩ := r.evloc hx
     split at hd
     · rename_i hle
       have hle := Nat.le_of_ble_eq_true hle
       have hlen : (((s.locs i).drop off).take k).length = k := by simp; omega
       refine ⟨_, _, _, fun w' => ∀ j v, (((s.locs i).drop off).take k)[j]? = some v → w'.cell? ((⟨bs i, off, none⟩ : Addr).add j) = some v, hd, rfl, noLoc,
        ⟨rfl, fun s' bs' h' a' w' r' hag hnl hS j v hj => ?_⟩, fun j v hj => by rw [addNone]; exact r.localCell hi (drop_take_get hj), fun w' hS => ?_⟩
       · rw [← hS] at hj
         rw [addNone, ← hag i hi]
         exact r'.localCell (Nat.lt_of_lt_of_le hi hnl) (drop_take_get hj)
       · exact run_loadCellsT (w := w') (l := ((s.locs i).drop off).take k) hop hx' h1 (fun e => by rw [hlen]; exact h2 e) (fun e => by rw [hlen]; exact h3 e) hS
     · exact hd.elim
   · rename_i b off hx
     obtain ⟨l, hlen, hrow, hk⟩ := hd
     refine ⟨_, _, _, fun w' => ∀ j v, l[j]? = some v → w'.cell? ((⟨b, off, none⟩ : Addr).add j) = some v, hk, rfl, noLoc, ⟨hrow, fun s' bs' h' a' w' r' _ _ hS j v hj => r'.sub.row hS j v hj⟩, fun j v hj => r.sub.row hrow j v hj, fun w' hS => ?_⟩
     exact run_loadCellsT (w := w') (l := l) hop (r.vv hx).1 h1 (fun e => by rw [hlen]; exact h2 e) (fun e => by rw [hlen]; exact h3 e) hS
   · exact hd.elim
 | store t x y =>
   simp only [lowOp, hop] at hl
   split at hl <;> cases hl <;> cases ht
 | nilCheck x =>
   simp only [lowOp, hop] at hl; cases hl
   simp only [denTake, denOp] at hd
   split at hd
   · rename_i i off hx
     exact .plain (v := a.eval x) hd (by rw [(r.evloc hx).1]; rfl) (fun _ _ e => by cases e; exact (r.evloc hx).2) fun w' => by simp [execOp, hop, (r.evloc hx).1]
   · rename_i ad hx
     exact .plain hd rfl noLoc fun w' => by simp [execOp, hop, (r.vv hx).1]
   · rename_i f u v hx
     exact .plain hd rfl noLoc fun w' => by simp [execOp, hop, (r.vv hx).1]
   · exact hd.elim
 | fieldAddr t x f =>
   simp only [lowOp, hop] at hl
   cases hz : fieldOff P t f with
   | none => rw [hz] at hl; cases hl; exact hd.elim
   | some k =>
     rw [hz] at hl; cases hl
     simp only [denTake, denOp] at hd
     split at hd
     · rename_i i off hx
       exact .plain hd rfl (fun _ _ e => by cases e; exact (r.evloc hx).2) fun w' => run_fieldAddr hop hz (r.evloc hx).1
     · rename_i b off hx
       exact .plain hd rfl noLoc fun w' => run_fieldAddr hop hz (r.vv hx).1
     · exact hd.elim
 | indexAddr t x i =>
   simp only [lowOp, hop] at hl
   cases hz : elemSize P t with
   | none =>
     rw [hz] at hl
     cases hz2 : arrSize P t with
     | none => rw [hz2] at hl; cases hl; exact hpf (by simp [hop]) (by rw [hop])
     | some p =>
       rw [hz2] at hl; cases hl
       simp only [denTake, denOp] at hd
       split at hd
       · rename_i b off ik i hx hi
         exact .plain hd.2 rfl noLoc fun w' => run_indexArr hop hz2 (r.vv hx).1 (r.vv hi).1 hd.1.1 hd.1.2
       · exact hd.elim
   | some k =>
     rw [hz] at hl; cases hl
     simp only [denTake, denOp] at hd
     split at hd
     · rename_i b off m c ik i hx hi
       exact .plain hd.2 rfl noLoc fun w' => run_indexAddr hop hz (r.vv hx).1 (r.vv hi).1 hd.1.1 hd.1.2
     · exact hd.elim
 | call c =>
   simp only [lowOp, hop] at hl
   cases hc : c.callee with
   | value f => rw [hc] at hl; cases hl; cases ht
   | invoke x y => rw [hc] at hl; cases hl; exact hd.elim
   | builtin b =>
     rw [hc] at hl
     by_cases hlen : b = .len
     · subst hlen
       simp only [lowBuiltin] at hl
       split at hl
       · rename_i x t hargs hts
         cases hz : lenable P t with
         | none => rw [hz] at hl; cases hl; cases ht
         | some str =>
           rw [hz] at hl; cases hl
           have ha : c.args = #[x] := by rw [← hargs]
           have htt : c.argTypes = #[t] := by rw [← hts]
           simp only [denTake] at hd
           unfold lenable at hz
           split at hz
           · rename_i e hu
             cases hz
             simp only [denOp] at hd
             split at hd
             · rename_i b m cp hx
               exact .plain hd rfl noLoc fun w' => by simp [execOp, hop, resolve, hc, ha, htt, invoke, builtin, Builtin.len_, run_underlying hu, (r.vv hx).1, goInt]
             · exact hd.elim
           · rename_i hu
             cases hz
             simp only [denOp] at hd
             split at hd
             · rename_i b hx
               exact .plain hd rfl noLoc fun w' => by
                simp [execOp, hop, resolve, hc, ha, htt, invoke, builtin, Builtin.len_, run_underlying hu, (r.vv hx).1, goInt]
                rfl
             · exact hd.elim
           · cases hz
       · cases hl; exact hd.elim
     · cases b <;> simp only [lowBuiltin] at hl <;> first | exact absurd rfl hlen | (cases hl; refine hpf (by simp [hop]) ?_; rw [hop]; done) | (cases hl; cases ht)
 | unOp => simp only [lowOp, hop] at hl; cases hl; exact hpu (by simp [hop]) (by rw [hop])
 | extract => simp only [lowOp, hop] at hl; cases hl; exact hpu (by simp [hop]) (by rw [hop])
 | makeFunc => simp only [lowOp, hop] at hl; cases hl; exact hpu (by simp [hop]) (by rw [hop])
 | binOp op t x y u =>
   simp only [lowOp, hop] at hl
   split at hl
   · split at hl
     · cases hl
       simp only [denTake, denOp] at hd
       split at hd
       · rename_i l m hx hy
         exact .plain hd.2 rfl noLoc fun w' => run_addS hop (r.vv hx).1 (r.vv hy).1 hd.1
       · exact hd.elim
     · cases hl; exact hpu (by simp [hop]) (by rw [hop])
   · split at hl
     · cases hl
       simp only [denTake, denOp] at hd
       split at hd
       · rename_i l m hx hy
         exact .plain hd rfl noLoc fun w' => run_eqS hop (r.vv hx).1 (r.vv hy).1
       · exact hd.elim
     · cases hl; exact hpf (by simp [hop]) (by rw [hop])
     · cases hl; exact hpf (by simp [hop]) (by rw [hop])
     · cases hl; exact hpu (by simp [hop]) (by rw [hop])
   · split at hl
     · cases hl
       simp only [denTake, denOp] at hd
       split at hd
       · rename_i l m hx hy
         exact .plain hd rfl noLoc fun w' => run_neqS hop (r.vv hx).1 (r.vv hy).1
       · exact hd.elim
     · cases hl; exact hpf (by simp [hop]) (by rw [hop])
     · cases hl; exact hpf (by simp [hop]) (by rw [hop])
     · cases hl; exact hpu (by simp [hop]) (by rw [hop])
   all_goals try split at hl
   all_goals cases hl
   all_goals first | (refine hpf (by simp [hop]) ?_; rw [hop]; done) | (refine hpu (by simp [hop]) ?_; rw [hop])
 | build t parts =>
   rcases lowBuild hop hl r with rfl | ⟨z, ps, rfl, hb⟩
   · exact hd.elim
   · simp only [denTake, denOp] at hd
     obtain ⟨l, hk, hrun⟩ := hb hd
     exact .plain hk rfl noLoc hrun
 | buildSlice t m parts =>
   rcases lowBuildSlice hop hl r with rfl | ⟨e, z, ps, rfl, hb⟩ <;> cases ht
 | field t x f =>
   rcases lowField (a := a) hop hl with rfl | ⟨agg, off, k, rfl, hb⟩
   · exact hd.elim
   · simp only [denTake, denOp] at hd
     split at hd
     · rename_i l hx
       split at hd
       · rename_i hle
         exact .plain hd rfl noLoc fun w' => hb l w' (r.vv hx).1 (Nat.le_of_ble_eq_true hle)
       · exact hd.elim
     · exact hd.elim
 | convert src dst x =>
   simp only [lowOp, hop] at hl
   split at hl
   · rename_i k1 k h1 h2
     cases hl
     simp only [denTake, denOp] at hd
     split at hd
     · rename_i k2 i hx
       exact .plain hd rfl noLoc fun w' => run_conv hop h1 h2 (r.vv hx).1
     · exact hd.elim
   · split at hl <;> cases hl <;> cases ht
   · cases hl; cases ht
 | index t x i =>
   simp only [lowOp, hop] at hl
   split at hl
   · rename_i hu
     cases hl
     simp only [denTake, denOp] at hd
     split at hd
     · rename_i l k j hx hi
       obtain ⟨h0, c, hc, hk⟩ := hd
       exact .plain hk rfl noLoc fun w' => run_idxS hop hu (r.vv hx).1 (r.vv hi).1 h0 hc
     · exact hd.elim
   · cases hl; exact hpf (by simp [hop]) (by rw [hop])
 | slice t x lo hi mx =>
   simp only [lowOp, hop] at hl
   split at hl
   · rename_i hu
     cases hl
     simp only [denTake, denOp] at hd
     split at hd
     · rename_i l hx
       obtain ⟨v, hk, hrun⟩ := run_sliceS (K := fun v => K (.val v) none) r hop hu (r.vv hx).1 hd
       exact .plain hk rfl noLoc hrun
     · exact hd.elim
   · rename_i e hu
     split at hl
     · rename_i k hk
       cases hl
       simp only [denTake, denOp] at hd
       split at hd
       · rename_i b off m c hx
         obtain ⟨v, hk, hrun⟩ := run_sliceL (K := fun v => K (.val v) none) r hop hu hk (r.vv hx).1 hd
         exact .plain hk rfl noLoc hrun
       · rename_i hx
         obtain ⟨v, hk, hrun⟩ := run_sliceNil (K := fun v => K (.val v) none) r hop hu hk (r.vv hx).1 hd
         exact .plain hk rfl noLoc hrun
       · exact hd.elim
     · cases hl; exact hd.elim
   · cases hl; exact hpf (by simp [hop]) (by rw [hop])
 | makeInterface => simp only [lowOp, hop] at hl; cases hl; exact hpf (by simp [hop]) (by rw [hop])
 | makeMap | makeSlice | lookup | mapUpdate | insert | range | next | entry => simp only [lowOp, hop] at hl; cases hl; cases ht
 | _ => simp only [lowOp, hop] at hl; cases hl; exact hd.elim
end
end Go.Den
namespace Go.Den
open Go
section
variable {P : Program} {n : Nat} {w0 : World} {h0 : PHeap} {esc : Nat → Bool} {ops : Array Oper}
theorem lowDraw_get : ∀ {l : List Oper} {sl : List (SOper × List Nat)}, lowDraw P esc ops l = some sl → ∀ i : Nat,
 (∀ o, l[i]? = some o → ∃ so, lowOper P esc ops o = some so ∧ sl[i]? = some (so, edges o)) ∧ (∀ so af, sl[i]? = some (so, af) → ∃ o, l[i]? = some o ∧ lowOper P esc ops o = some so ∧ af = edges o)
 | [], sl, hl, i => by cases hl; exact ⟨by simp, by simp⟩
 | x :: l, sl, hl, i => by
   unfold lowDraw at hl
   split at hl
   · rename_i y ys hy hys
     cases hl
     cases i with
     | zero =>
       refine ⟨fun o ho => ?_, fun so af hs => ?_⟩
       · simp at ho; subst ho; exact ⟨y, hy, by simp⟩
       · simp at hs; obtain ⟨rfl, rfl⟩ := hs; exact ⟨x, by simp, hy, rfl⟩
     | succ i => simpa using lowDraw_get hys i
   · cases hl
theorem memN_iff {k : Nat} : ∀ {l : List Nat}, memN k l = true ↔ k ∈ l
 | [] => by simp [memN]
 | x :: l => by
   simp only [memN]
   by_cases e : k = x
   · subst e; simp
   · simp [beqNe e, memN_iff (l := l), e]
theorem subN_iff {m : List Nat} : ∀ {l : List Nat}, subN l m = true ↔ ∀ k ∈ l, memN k m = true
 | [] => by simp [subN]
 | x :: l => by simp [subN, subN_iff (l := l)]
theorem readyL_iff {done : List Nat} : ∀ {l : List (SOper × List Nat)} {i : Nat} {p : Nat × SOper}, i ≤ p.1 → (∃ af, l[p.1 - i]? = some (p.2, af) ∧ memN p.1 done = false ∧ subN af done = true) → p ∈ readyL done i l
 | [], i, p, _, hp => by simp at hp
 | (o, af) :: l, i, p, hi, ⟨af', h1, h2, h3⟩ => by
   unfold readyL
   by_cases e : p.1 = i
   · subst e
     simp at h1
     obtain ⟨rfl, rfl⟩ := h1
     rw [h2, h3]
     simp
   · have hrec : p ∈ readyL done (i + 1) l := readyL_iff (by omega) ⟨af', by
      rw [show p.1 - i = (p.1 - (i + 1)) + 1 by omega] at h1; simpa using h1, h2, h3⟩
     split
     · exact List.mem_cons_of_mem _ hrec
     · exact hrec
theorem waitsN_sound {sl : List (SOper × List Nat)} (hl : lowDraw P esc ops ops.toList = some sl) {k i : Nat} (hw : waitsN sl k i = true) : Waits ops i k := by
 unfold waitsN at hw
 rw [nthL_eq] at hw
 split at hw
 · rename_i so af hs
   obtain ⟨o, ho, _, rfl⟩ := (lowDraw_get hl i).2 so af hs
   have ho' : ops[i]? = some o := by simpa using ho
   exact .one ho' (memN_iff.1 hw)
 · cases hw
structure Lst (ops : Array Oper) (done : List Nat) (listed : Array Bool) : Prop where
 size : listed.size = ops.size
 eq : ∀ i, i < ops.size → listed.getD i false = memN i done
 lt : ∀ i, memN i done = true → i < ops.size
theorem Lst.set {done : List Nat} {listed : Array Bool} (hl : Lst ops done listed) {i : Nat} (hi : i < ops.size) : Lst ops (i :: done) (listed.setIfInBounds i true) where
 size := by simp [hl.size]
 eq := fun j hj => by
  simp only [memN]
  by_cases e : j = i
  · subst e
    simp [hl.size, hj]
  · rw [beqNe e, getD_set_ne false (Ne.symm e)]; exact hl.eq j hj
 lt := fun j hj => by
  simp only [memN] at hj
  by_cases e : j = i
  · subst e; exact hi
  · rw [beqNe e] at hj; exact hl.lt j hj
theorem Lst.not {done : List Nat} {listed : Array Bool} (hl : Lst ops done listed) {i : Nat} (hi : i < ops.size) : listed.getD i true = memN i done := by
 have := hl.eq i hi
 rw [Array.getD_eq_getD_getElem?] at this ⊢
 have hsz : i < listed.size := by rw [hl.size]; exact hi
 rw [Array.getElem?_eq_getElem hsz] at this ⊢
 exact this
theorem Lst.edge {done : List Nat} {listed : Array Bool} (hl : Lst ops done listed) {k : Nat} : (listed.getD k false = true) ↔ memN k done = true := by
 rcases Nat.lt_or_ge k ops.size with h1 | h1
 · rw [hl.eq k h1]
 · constructor
   · intro h2
     rw [Array.getD_eq_getD_getElem?, Array.getElem?_eq_none (by rw [hl.size]; exact h1)] at h2
     cases h2
   · intro h2; have := hl.lt k h2; omega
theorem ready_iff {sl : List (SOper × List Nat)} (hlow : lowDraw P esc ops ops.toList = some sl) {done : List Nat} {listed : Array Bool} (hl : Lst ops done listed) {i : Nat} :
 i ∈ Region.ready .any ops listed ↔ ∃ so, (i, so) ∈ readyL done 0 sl := by
 rw [mem_ready]
 constructor
 · rintro ⟨hun, o, ho, hall⟩
   have hi : i < ops.size := (Array.getElem?_eq_some_iff.1 ho).1
   obtain ⟨so, hso, hs⟩ := (lowDraw_get hlow i).1 o (by simpa using ho)
   refine ⟨so, readyL_iff (Nat.zero_le _) ⟨edges o, by simpa using hs, ?_, ?_⟩⟩
   · rw [← hl.not hi]; exact hun
   · rw [subN_iff]
     intro k hk
     obtain ⟨e, he, hb, rfl⟩ := mem_edges.1 hk
     exact hl.edge.1 (hall e he hb)
 · rintro ⟨so, hso⟩
   obtain ⟨af, _, _, hget, hnot, hsub⟩ := readyL_mem hso
   obtain ⟨o, ho, _, rfl⟩ := (lowDraw_get hlow i).2 so af (by simpa using hget)
   have ho' : ops[i]? = some o := by simpa using ho
   have hi : i < ops.size := (Array.getElem?_eq_some_iff.1 ho').1
   refine ⟨by rw [hl.not hi]; exact hnot, o, ho', fun e he hb => ?_⟩
   exact hl.edge.2 (subN_iff.1 hsub e.on (mem_edges.2 ⟨e, he, hb, rfl⟩))
def PenRel (n : Nat) (w0 : World) (h0 : PHeap) (k : Nat) (bs : Nat → Nat) (p : Nat × (St → PHeap → Prop)) (q : Nat × (World → Prop)) : Prop :=
 p.1 = q.1 ∧ ∀ s' bs' h' a' w', Rel n w0 h0 s' bs' h' a' w' → Agree k bs bs' → k ≤ s'.nl → p.2 s' h' → q.2 w'
theorem PenRel.agree {k k' : Nat} {bs bs' : Nat → Nat} (hag : Agree k bs bs') (hk : k ≤ k') {p : Nat × (St → PHeap → Prop)} {q : Nat × (World → Prop)} (hp : PenRel n w0 h0 k bs p q) : PenRel n w0 h0 k' bs' p q :=
 ⟨hp.1, fun s' bs'' h' a' w' r hag' hk' hs => hp.2 s' bs'' h' a' w' r (fun i hi => (hag' i (Nat.lt_of_lt_of_le hi hk)).trans (hag i hi)) (Nat.le_trans hk hk') hs⟩
def Pens (n : Nat) (w0 : World) (h0 : PHeap) (k : Nat) (bs : Nat → Nat) : Pen → PenW → Prop
 | [], [] => True
 | p :: ps, q :: qs => PenRel n w0 h0 k bs p q ∧ Pens n w0 h0 k bs ps qs
 | _, _ => False
theorem Pens.agree {k k' : Nat} {bs bs' : Nat → Nat} (hag : Agree k bs bs') (hk : k ≤ k') : ∀ {ps : Pen} {qs : PenW}, Pens n w0 h0 k bs ps qs → Pens n w0 h0 k' bs' ps qs
 | [], [], _ => trivial
 | _ :: _, _ :: _, h => ⟨h.1.agree hag hk, Pens.agree hag hk h.2⟩
theorem penOk_sound {sl : List (SOper × List Nat)} {i k : Nat} {bs bs' : Nat → Nat} {s' : St} {h' : PHeap} {a' : Act} {w' : World} (r : Rel n w0 h0 s' bs' h' a' w') (hag : Agree k bs bs') (hk : k ≤ s'.nl) :
 ∀ {ps : Pen} {qs : PenW} {R : Pen → Prop}, Pens n w0 h0 k bs ps qs → penOk sl i s' h' ps R →
   ∃ ps', R ps' ∧ (∀ q ∈ qs, waitsN sl q.1 i = false → q.2 w') ∧ Pens n w0 h0 k bs ps' (qs.filter fun q => !waitsN sl q.1 i) ∧ (∀ p ∈ ps', p.2 s' h')
 | [], [], R, _, hp => ⟨[], hp, by simp, trivial, by simp⟩
 | p :: ps, q :: qs, R, hpen, hp => by
   obtain ⟨⟨hpq, hpq2⟩, hrest⟩ := hpen
   unfold penOk at hp
   split at hp
   · rename_i hw
     obtain ⟨ps', h1, h2, h3, h4⟩ := penOk_sound r hag hk hrest hp
     refine ⟨ps', h1, fun q' hq' hn => ?_, ?_, h4⟩
     · cases hq' with
       | head => rw [← hpq] at hn; rw [hw] at hn; cases hn
       | tail _ ht => exact h2 q' ht hn
     · rw [List.filter_cons, if_neg]
       · exact h3
       · rw [← hpq, hw]; decide
   · rename_i hw
     obtain ⟨ps', h1, h2, h3, h4⟩ := penOk_sound r hag hk hrest hp.2
     have hS := hpq2 s' bs' h' a' w' r hag hk hp.1
     refine ⟨_, h1, fun q' hq' hn => ?_, ?_, ?_⟩
     · cases hq' with
       | head => exact hS
       | tail _ ht => exact h2 q' ht hn
     · rw [List.filter_cons, if_pos (by rw [← hpq, hw]; decide)]
       exact ⟨⟨hpq, hpq2⟩, h3⟩
     · intro p' hp'
       cases hp' with
       | head => exact hp.1
       | tail _ ht => exact h4 p' ht
end
end Go.Den
namespace Go.Den
open Go
section
variable {P : Program} {n : Nat} {w0 : World} {h0 : PHeap} {esc : Nat → Bool} {ops : Array Oper}
def Takes (P : Program) (n : Nat) (w0 : World) (h0 : PHeap) (ops : Array Oper) (s : St) (bs : Nat → Nat) (h : PHeap) (a : Act) (w : World) (o : Oper) (K : SV → Option (St → PHeap → Prop) → Prop) : Prop :=
 ∃ (x : SV) (v : Value) (S : Option (St → PHeap → Prop)) (Sw : World → Prop), K x S ∧ x.sat bs v ∧ (∀ i off, x = .loc i off → i < s.nl) ∧ Stays n w0 h0 s bs h Sw S ∧ Sw w ∧ YieldsIf P ops Sw o v a
theorem Gives.yields {s : St} {bs : Nat → Nat} {h : PHeap} {a : Act} {w : World} {o : Oper} {K : SV → Option (St → PHeap → Prop) → Prop} (hw : Region.wanted o (yielded ops a.tmps) = true) (hg : Gives P n w0 h0 s bs h a w o K) :
 Takes P n w0 h0 ops s bs h a w o K := by
 obtain ⟨x, v, S, Sw, h1, h2, h3, h4, h5, h6⟩ := hg
 exact ⟨x, v, S, Sw, h1, h2, h3, h4, h5, .inl ⟨hw, h6⟩⟩
theorem denTG_sound {s : St} {bs : Nat → Nat} {h : PHeap} {a : Act} {w : World} {o : Oper} {so : SOper} {K : SV → St → Option (St → PHeap → Prop) → Prop} (ht : takeable so.op = true) (hl : lowOper P esc ops o = some so)
 (r : Rel n w0 h0 s bs h a w) (hd : denTG P so s h K) : Takes P n w0 h0 ops s bs h a w o fun x => K x s := by
 rw [lowOper_eq] at hl
 split at hl
 · rename_i op g hop hg
   cases hl
   have hskip : Region.wanted o (yielded ops a.tmps) = false → K (.val undef) s none → Takes P n w0 h0 ops s bs h a w o fun x => K x s := fun hw hk =>
    ⟨.val undef, undef, none, fun _ => True, hk, rfl, noLoc, fun _ => trivial, trivial, .inr ⟨hw, rfl⟩⟩
   unfold lowGuard at hg
   split at hg
   · rename_i hgu
     cases hg
     exact (take_sound (K := fun x => K x s) ht hop r hd).yields (wanted_none hgu)
   · rename_i j b hgu
     split at hg
     · rename_i d _ _ _ _ _ hnth
       have hdst : (ops[j]?).bind (·.dst) = some d := by
        rw [nthL_eq, Array.getElem?_toList] at hnth
        rw [hnth]; rfl
       cases hg
       simp only [denTG] at hd
       split at hd
       · rename_i c hc
         have hy := yielded_bool r hdst hc
         have hw : Region.wanted o (yielded ops a.tmps) = (c == b) := by
          simp only [Region.wanted, hgu, hy]; cases c <;> cases b <;> rfl
         cases b <;> cases c <;> simp only [br, lit_eq hc] at hd
         · exact (take_sound (K := fun x => K x s) ht hop r hd).yields (by rw [hw]; rfl)
         · exact hskip (by rw [hw]; rfl) hd
         · exact hskip (by rw [hw]; rfl) hd
         · exact (take_sound (K := fun x => K x s) ht hop r hd).yields (by rw [hw]; rfl)
       · rename_i c hc
         have hy := yielded_tuple r hdst hc
         exact hskip (by simp only [Region.wanted, hgu, hy]; rfl) hd
       · exact hd.elim
     · cases hg
 · cases hl
theorem putD_sound {s : St} {bs : Nat → Nat} {h : PHeap} {a : Act} {w : World} {d : Option Nat} {x : SV} {v : Value} {K : St → Prop} (r : Rel n w0 h0 s bs h a w) (hx : x.sat bs v) (hl : ∀ i o, x = .loc i o → i < s.nl)
 (hd : putD n d x s K) : ∃ s', K s' ∧ s'.nl = s.nl ∧ s'.locs = s.locs ∧ Rel n w0 h0 s' bs h (a.put d v) w := by
 unfold putD at hd
 split at hd
 · split at hd
   · rename_i hb
     exact ⟨_, hd, rfl, rfl, r.put (Nat.blt_eq.mp hb) hx hl⟩
   · exact hd.elim
 · exact ⟨_, hd, rfl, rfl, r⟩
theorem apart_of {i j : Nat} {oi oj : Oper} (hap : apartOk ops ops.toList = true) (hi : ops[i]? = some oi) (hj : ops[j]? = some oj) (hne : i ≠ j) (h1 : i ∉ edges oj) (h2 : j ∉ edges oi) : oi.apart ops oj = true := by
 unfold apartOk at hap
 rw [List.all_eq_true] at hap
 have h3 := hap (oi, i) (by rw [List.mem_zipIdx_iff_getElem?]; simpa using hi)
 simp only [Bool.and_eq_true, List.all_eq_true] at h3
 have h4 := h3.2 (oj, j) (by rw [List.mem_zipIdx_iff_getElem?]; simpa using hj)
 simp only [Bool.or_eq_true] at h4
 rcases h4 with ((h4 | h4) | h4) | h4
 · exact absurd (Nat.eq_of_beq_eq_true h4) hne
 · exact absurd (memN_iff.1 h4) h1
 · exact absurd (memN_iff.1 h4) h2
 · exact h4
theorem noSel_of (hap : apartOk ops ops.toList = true) : ∀ (j : Nat) (o : Oper) cs b, ops[j]? = some o → o.op ≠ .select cs b := by
 intro j o cs b hj e
 unfold apartOk at hap
 rw [List.all_eq_true] at hap
 have h3 := hap (o, j) (by rw [List.mem_zipIdx_iff_getElem?]; simpa using hj)
 simp [isSelect, e] at h3
theorem denA_sound {sl : List (SOper × List Nat)} (hlow : lowDraw P esc ops ops.toList = some sl) (hap : apartOk ops ops.toList = true) {Q : Ex → St → PHeap → Prop} :
 ∀ {fuel : Nat} {done : List Nat} {ps : Pen} {qs : PenW} {s : St} {bs : Nat → Nat} {h : PHeap} {a : Act} {w : World} {listed : Array Bool}, Lst ops done listed → Closed ops listed → Rel n w0 h0 s bs h a w →
   Pens n w0 h0 s.nl bs ps qs → (∀ q ∈ qs, q.2 w) → denA P n sl (Q .normal) fuel done ps s h → wpAnyT P ops (fun i k => waitsN sl k i) (QR n w0 h0 Q) fuel listed qs a w
 | 0, done, ps, qs, s, bs, h, a, w, listed, hls, hcl, r, hpen, hq, hd => by
   unfold denA at hd
   split at hd
   · rename_i hr
     refine ⟨?_, s, bs, h, hd, r⟩
     rw [List.eq_nil_iff_forall_not_mem]
     intro i hi
     obtain ⟨so, hso⟩ := (ready_iff hlow hls).1 hi
     rw [hr] at hso; cases hso
   · exact hd.elim
 | fuel + 1, done, ps, qs, s, bs, h, a, w, listed, hls, hcl, r, hpen, hq, hd => by
   unfold denA at hd
   split at hd
   · rename_i hr
     refine ⟨fun _ => ⟨s, bs, h, hd, r⟩, fun i hi => ?_⟩
     obtain ⟨so, hso⟩ := (ready_iff hlow hls).1 hi
     rw [hr] at hso; cases hso
   · split at hd
     · rename_i i so hft
       obtain ⟨hmem, htk⟩ := firstTake_mem hft
       have hready := (ready_iff hlow hls).2 ⟨so, hmem⟩
       obtain ⟨af, _, _, hget, hnot, hsub⟩ := readyL_mem hmem
       obtain ⟨o, ho, hlo, rfl⟩ := (lowDraw_get hlow i).2 so af (by simpa using hget)
       have ho' : ops[i]? = some o := by simpa using ho
       obtain ⟨x, v, S, Sw, hk, hx, hxl, hst, hSw, hy⟩ := denTG_sound htk hlo r hd
       obtain ⟨s', hs', hnl, hlocs, r'⟩ := putD_sound r hx hxl hk
       have hdst := lowOper_dst hlo
       rw [hdst] at r'
       refine wpAnyT_first (S := Sw) (fun i k => waitsN_sound hlow) ho' (noSel_of hap) (fun _ _ _ hf => hf.elim) fuel listed qs a w hcl (fun j oj hj hji hun hno => ?_) hready hy hSw hq ?_
       · refine apart_of hap ho' hj (Ne.symm hji) (fun hm => ?_) (fun hm => ?_)
         · obtain ⟨e, he, hb, heq⟩ := mem_edges.1 hm
           exact hno e he hb heq
         · have := ready_edges hready o ho' j hm
           have hj' : j < ops.size := (Array.getElem?_eq_some_iff.1 hj).1
           rw [hls.not hj'] at hun
           rw [hls.eq j hj', hun] at this
           cases this
       · have hi : i < ops.size := (Array.getElem?_eq_some_iff.1 ho').1
         cases S with
         | none =>
           have hpens : Pens n w0 h0 s'.nl bs ps qs := by rw [hnl]; exact hpen
           refine wpAnyT_drop' fuel _ qs _ _ _ (fun p hp => ?_) (denA_sound hlow hap (hls.set hi) (hcl.set hready) r' hpens hq hs')
           cases hp with
           | head => exact .inr hst
           | tail _ ht => exact .inl ht
         | some S =>
           have hpens : Pens n w0 h0 s'.nl bs ((i, S) :: ps) ((i, Sw) :: qs) := by
            rw [hnl]
            exact ⟨⟨rfl, fun s2 bs2 h2 a2 w2 r2 hag hk2 => hst.2 s2 bs2 h2 a2 w2 r2 hag hk2⟩, hpen⟩
           refine denA_sound hlow hap (hls.set hi) (hcl.set hready) r' hpens (fun q hq' => ?_) hs'
           cases hq' with
           | head => exact hSw
           | tail _ ht => exact hq q ht
     · rw [allR_iff] at hd
       refine ⟨fun hr => ?_, fun i hi => ?_⟩
       · exfalso
         cases hrs : readyL done 0 sl with
         | nil => rename_i hne _ _; exact hne hrs
         | cons p l =>
           have := (ready_iff hlow hls (i := p.1)).2 ⟨p.2, by rw [hrs]; exact List.mem_cons_self⟩
           rw [hr] at this; cases this
       · obtain ⟨so, hso⟩ := (ready_iff hlow hls).1 hi
         obtain ⟨af, _, _, hget, hnot, hsub⟩ := readyL_mem hso
         obtain ⟨o, ho, hlo, rfl⟩ := (lowDraw_get hlow i).2 so af (by simpa using hget)
         have ho' : ops[i]? = some o := by simpa using ho
         have hii : i < ops.size := (Array.getElem?_eq_some_iff.1 ho').1
         have key := denG_sound (P := P) (Q := QR n w0 h0 Q) (next := fun a' w' => (∀ p ∈ qs, waitsN sl p.1 i = false → p.2 w') ∧
          wpAnyT P ops (fun i k => waitsN sl k i) (QR n w0 h0 Q) fuel (listed.setIfInBounds i true) (qs.filter fun p => !waitsN sl p.1 i) a' w') hlo r (hd _ hso) ?_
         · unfold wpOp
           simp only [ho']
           split
           · rename_i hw; rw [if_pos hw] at key; exact .inl key
           · rename_i hw; rw [if_neg hw] at key; exact key
         · intro x s' h' bs' v w' hk hx r' hag hnl hxl
           obtain ⟨ps', h1, h2, h3, h4⟩ := penOk_sound r' hag hnl hpen hk
           obtain ⟨s'', hs'', hnl'', hlocs, r''⟩ := putD_sound r' hx hxl h1
           rw [lowOper_dst hlo] at r''
           refine ⟨h2, denA_sound hlow hap (hls.set hii) (hcl.set hi) r'' ?_ ?_ hs''⟩
           · rw [hnl'']; exact h3.agree hag hnl
           · intro q hq'
             obtain ⟨h5, h6⟩ := List.mem_filter.1 hq'
             exact h2 q h5 (by simpa using h6)
end
end Go.Den
namespace Go.Den
open Go
section
variable {P : Program} {n : Nat} {w0 : World} {h0 : PHeap} {esc : Nat → Bool}
theorem Rel.draw {s : St} {bs : Nat → Nat} {h : PHeap} {a : Act} {w : World} (r : Rel n w0 h0 s bs h a w) : Rel n w0 h0 s bs h a { w with drawn := w.drawn + 1 } :=
 ⟨r.size, r.defers, r.regs, r.big, r.sub, ⟨r.keep.os, r.keep.tape, r.keep.output, r.keep.size, r.keep.out⟩, r.loc, r.inj, r.lt⟩
theorem low_sound (hm : P.follows .mixedOrders = true) : ∀ {c : Code} {sc : SCode} {s : St} {bs : Nat → Nat} {h : PHeap} {a : Act} {w : World} {Q : Ex → St → PHeap → Prop},
 low P esc c = some sc → den P n sc Q s h → Rel n w0 h0 s bs h a w → c.wp P (QR n w0 h0 Q) a w
 | .skip, sc, s, bs, h, a, w, Q, hl, hd, r => by cases hl; exact wp_skip ⟨s, bs, h, hd, r⟩
 | .region id ops false, sc, s, bs, h, a, w, Q, hl, hd, r => by
   simp only [low] at hl
   cases hx : lowOpers P esc ops ops.toList with
   | none => rw [hx] at hl; cases hl
   | some l =>
     rw [hx] at hl; cases hl
     exact wp_region_list (denL_sound hx r hd)
 | .region id ops true, sc, s, bs, h, a, w, Q, hl, hd, r => by
   simp only [low] at hl
   split at hl
   · rename_i l hap hx
     cases hl
     have hlen : l.length = ops.size := by
      have h1 : ∀ (xs : List Oper) (ys : List (SOper × List Nat)), lowDraw P esc ops xs = some ys → ys.length = xs.length := by
       intro xs
       induction xs with
       | nil => intro ys hy; cases hy; rfl
       | cons x xs ih =>
         intro ys hy
         unfold lowDraw at hy
         split at hy
         · rename_i _ _ _ hys; cases hy; simp [ih _ hys]
         · cases hy
      have := h1 _ _ hx
      simpa using this
     refine wp_region_any hm (wpAny_of_T (W := fun i k => waitsN l k i) _ _ [] _ _ ?_)
     have hd' : denA P n l (Q .normal) ops.size [] [] s h := by rw [← hlen]; exact hd
     refine denA_sound hx hap (done := []) ⟨by simp, fun i hi => by simp [memN, hi], fun i hi => by cases hi⟩ ?_ r.draw (ps := []) (qs := []) trivial (fun q hq => by cases hq) hd'
     intro i o ho hli
     have : (Array.replicate ops.size false).getD i false = false := by
      rw [Array.getD_eq_getD_getElem?, Array.getElem?_replicate]; split <;> rfl
     rw [this] at hli; cases hli
   · cases hl
 | .seq x y, sc, s, bs, h, a, w, Q, hl, hd, r => by
   simp only [low] at hl
   split at hl
   · rename_i x' y' hx hy
     cases hl
     refine wp_seq (wp_mono (low_sound hm hx hd r) fun e a' w' hq => ?_)
     cases e with
     | normal => obtain ⟨s', bs', h', hq, r'⟩ := hq; exact low_sound hm hy hq r'
     | exit k => exact hq
     | ret => exact hq
     | goto l => exact hq.elim
     | panic ch => exact hq.elim
     | outgrown => exact hq.elim
   · cases hl
 | .cond c x y, sc, s, bs, h, a, w, Q, hl, hd, r => by
   simp only [low] at hl
   split at hl
   · rename_i x' y' hx hy
     cases hl
     simp only [den] at hd
     split at hd
     · rename_i b hb
       have hc := (r.vv hb).1
       cases b <;> simp only [br, litO_eq hb] at hd
       · exact wp_cond hc (low_sound hm hy hd r)
       · exact wp_cond hc (low_sound hm hx hd r)
     · exact hd.elim
   · cases hl
 | .block id c, sc, s, bs, h, a, w, Q, hl, hd, r => by
   simp only [low] at hl
   cases hx : low P esc c with
   | none => rw [hx] at hl; cases hl
   | some x =>
     rw [hx] at hl; cases hl
     refine wp_block (wp_mono (low_sound hm hx hd r) fun e a' w' hq => ?_)
     cases e with
     | normal => exact hq
     | exit k =>
       obtain ⟨s', bs', h', hq, r'⟩ := hq
       simp only [Exit.inBlock]
       simp only at hq
       split at hq
       · rename_i hb
         rw [if_pos (Nat.eq_of_beq_eq_true hb)]
         exact ⟨s', bs', h', hq, r'⟩
       · rename_i hb
         rw [if_neg (fun e => by rw [e, beqSelf] at hb; cases hb)]
         exact ⟨s', bs', h', hq, r'⟩
     | ret => exact hq
     | goto l => exact hq.elim
     | panic ch => exact hq.elim
     | outgrown => exact hq.elim
 | .loop c, sc, s, bs, h, a, w, Q, hl, hd, r => by
   simp only [low] at hl
   cases hx : low P esc c with
   | none => rw [hx] at hl; cases hl
   | some x =>
     rw [hx] at hl
     simp only [Option.map_some, Option.some.injEq] at hl
     subst hl
     simp only [den] at hd
     obtain ⟨α, I, V, L, μ, ⟨x0, hI0, hfR, hfL⟩, hv, hround⟩ := hd
     refine wp_loopM (P := P) (fun m a' w' => ∃ y h' bs', I y h' ∧ μ y h' = m ∧ Rel n w0 h0 (mkSt s (dedupN (swrites x)) (V y) (L y)) bs' h' a' w')
      (fun m a' w' hI => ?_) ⟨x0, h, bs, hI0, rfl, r.toLoop r (hv x0) hfR hfL (Nat.le_refl _) (fun _ _ => rfl)⟩
     obtain ⟨y, h', bs', hIy, hm', r'⟩ := hI
     refine wp_mono (low_sound hm hx (den_frame (hround y h' hIy) (Q' := fun e s2 h2 => (match e with
      | .normal => ∃ x', I x' h2 ∧ μ x' h2 < μ y h' ∧ fitR s2.regs (V x') ∧ fitL s2.locs (mkSt s (dedupN (swrites x)) (V x') (L x')).locs s.nl
      | .exit k => Q (.exit k) s2 h2
      | .ret => Q .ret s2 h2) ∧ (∀ j, memN j (swrites x) = false → s2.regs j = (mkSt s (dedupN (swrites x)) (V y) (L y)).regs j) ∧ s.nl ≤ s2.nl)
      fun e s2 h2 q hj hnl => ⟨q, hj, hnl⟩) r') fun e a2 w2 hq => ?_
     cases e with
     | normal =>
       obtain ⟨s2, bs2, h2, ⟨⟨x', hI', hlt, h1, h2'⟩, hj, hnl⟩, r2⟩ := hq
       refine ⟨μ x' h2, by omega, x', h2, bs2, hI', rfl, r.toLoop r2 (hv x') h1 h2' hnl fun j hjm => ?_⟩
       rw [hj j (by rw [← dedupN_mem]; exact hjm)]
       exact mkSt_regs (hv y) hjm
     | exit k => obtain ⟨s2, bs2, h2, ⟨q, _⟩, r2⟩ := hq; exact ⟨s2, bs2, h2, q, r2⟩
     | ret => obtain ⟨s2, bs2, h2, ⟨q, _⟩, r2⟩ := hq; exact ⟨s2, bs2, h2, q, r2⟩
     | goto l => exact hq.elim
     | panic ch => exact hq.elim
     | outgrown => exact hq.elim
 | .scope _, sc, s, bs, h, a, w, Q, hl, hd, r | .label _, sc, s, bs, h, a, w, Q, hl, hd, r | .goto _, sc, s, bs, h, a, w, Q, hl, hd, r | .refuse _, sc, s, bs, h, a, w, Q, hl, hd, r | .rangeFunc .., sc, s, bs, h, a, w, Q, hl, hd, r => by cases hl; exact hd.elim
 | .exit id, sc, s, bs, h, a, w, Q, hl, hd, r => by cases hl; exact wp_exit ⟨s, bs, h, hd, r⟩
 | .ret, sc, s, bs, h, a, w, Q, hl, hd, r => by cases hl; exact wp_ret ⟨s, bs, h, hd, r⟩
theorem br_split {c : Bool} {X Y : Prop} (ht : c = true → X) (hf : c = false → Y) : br c X Y := by
 cases c
 · exact hf rfl
 · exact ht rfl
inductive SRes where
 | tmp (t : Nat)
 | cell (t : Nat) (agg : Bool) (k : Nat)
def lowRes (P : Program) : List ResultVar → Option (List SRes)
 | [] => some []
 | .tmp t :: l => (lowRes P l).map (.tmp t :: ·)
 | .cell x t :: l => match isAggT P t, sizeT P t, lowRes P l with
   | some true, some k, some l => some (.cell x true k :: l)
   | some false, some _, some l => some (.cell x false 1 :: l)
   | _, _, _ => none
def denRes (s : St) (h : PHeap) : List SRes → (List Value → Prop) → Prop
 | [], K => K []
 | .tmp t :: l, K => match s.regs t with
   | .val v => denRes s h l fun vs => K (v :: vs)
   | _ => False
 | .cell x agg k :: l, K => match s.regs x with
   | .loc i off => match Nat.ble (off + k) (s.locs i).length with
     | true => denRes s h l fun vs => K (packV agg (((s.locs i).drop off).take k) :: vs)
     | false => False
   | .val (.pointer (some ⟨b, off, none⟩)) => ∃ vs : List Value, vs.length = k ∧ h.row b off vs ∧ denRes s h l fun us => K (packV agg vs :: us)
   | _ => False
def retV : List Value → Value
 | [v] => v
 | l => .tuple ⟨l⟩
def st0 (args : List Value) : St where
 regs := fun j => match args[j]? with
  | some v => .val v
  | none => .val undef
 nl := 0
 locs := fun _ => []
def denF (P : Program) (n : Nat) (c : SCode) (rs : List SRes) (args : List Value) (h : PHeap) (Q : Value → PHeap → Prop) : Prop :=
 den P n c (fun e s h => match e with
  | .exit _ => False
  | .normal => denRes s h rs fun vs => Q (retV vs) h
  | .ret => denRes s h rs fun vs => Q (retV vs) h) (st0 args) h
def resF (tmps : Array Value) : ResultVar → Sem Value
 | .tmp t => pure (tmps.getD t undef)
 | .cell a t => do loadVar t (← asAddr (tmps.getD a undef))
theorem results_eq (fn : Func) (tmps : Array Value) : results fn tmps = (do
 let vs ← fn.results.mapM (resF tmps)
 pure (if h : vs.size = 1 then vs[0] else .tuple vs)) := by
 have : (fun x : ResultVar => (match x with
  | .tmp t => pure (tmps.getD t undef)
  | .cell a t => do loadVar t (← asAddr (tmps.getD a undef)) : Sem Value)) = resF tmps := by
  funext x; cases x <;> rfl
 rw [← this]
 rfl
theorem retV_run {fn : Func} {tmps : Array Value} {w : World} {vs : List Value} (hr : (fn.results.toList.mapM (resF tmps)).run P w = .ok vs w) : (results fn tmps).run P w = .ok (retV vs) w := by
 rw [results_eq, Array.mapM_eq_mapM_toList]
 simp only [Sem.run_bind, Sem.run_map, hr, Result.andThen_ok, Sem.run_pure]
 match vs with
 | [] => rfl
 | [v] => rfl
 | v :: u :: l => rfl
theorem denRes_sound {s : St} {bs : Nat → Nat} {h : PHeap} {a : Act} {w : World} (r : Rel n w0 h0 s bs h a w) : ∀ {l : List ResultVar} {rs : List SRes} {K : List Value → Prop}, lowRes P l = some rs → denRes s h rs K →
 ∃ vs, K vs ∧ (l.mapM (resF a.tmps)).run P w = .ok vs w
 | [], rs, K, hl, hd => by cases hl; exact ⟨[], hd, by simp⟩
 | .tmp t :: l, rs, K, hl, hd => by
   simp only [lowRes] at hl
   cases hx : lowRes P l with
   | none => rw [hx] at hl; cases hl
   | some rs' =>
     rw [hx] at hl; cases hl
     simp only [denRes] at hd
     split at hd
     · rename_i v hv
       obtain ⟨vs, hk, hrun⟩ := denRes_sound r hx hd
       have he : a.eval (.tmp t) = v := (r.vv (x := .tmp t) hv).1
       have he : a.tmps.getD t undef = v := he
       exact ⟨v :: vs, hk, by rw [List.mapM_cons]; simp only [resF, Sem.run_bind, he, Sem.run_pure, Result.andThen_ok, hrun]⟩
     · exact hd.elim
 | .cell x t :: l, rs, K, hl, hd => by
   have key : ∀ (agg : Bool) (k : Nat) (rs' : List SRes), isAggT P t = some agg → (agg = true → sizeT P t = some k) → (agg = false → k = 1) → lowRes P l = some rs' → denRes s h (.cell x agg k :: rs') K →
    ∃ vs, K vs ∧ ((.cell x t :: l : List ResultVar).mapM (resF a.tmps)).run P w = .ok vs w := by
    intro agg k rs' h1 h2 h3 hx hd
    have fin : ∀ (b off : Nat) (us : List Value), a.tmps.getD x undef = .pointer (some ⟨b, off, none⟩) → us.length = k → (∀ j v, us[j]? = some v → w.cell? ((⟨b, off, none⟩ : Addr).add j) = some v) →
     (denRes s h rs' fun vs => K (packV agg us :: vs)) → ∃ vs, K vs ∧ ((.cell x t :: l : List ResultVar).mapM (resF a.tmps)).run P w = .ok vs w := by
     intro b off us he hlen hc hd
     obtain ⟨vs, hk, hrun⟩ := denRes_sound r hx hd
     refine ⟨packV agg us :: vs, hk, ?_⟩
     have hload : (loadVar t ⟨b, off, none⟩).run P w = .ok (packV agg us) w := by
      cases agg with
      | true => exact run_loadAgg h1 (by rw [hlen]; exact h2 rfl) hc
      | false =>
        match us, hlen.trans (h3 rfl) with
        | [v], _ =>
          have := hc 0 v rfl
          rw [addNone, Nat.add_zero] at this
          exact run_loadOne h1 this
     rw [List.mapM_cons]
     simp only [resF, Sem.run_bind, he, asAddr, Sem.run_pure, Result.andThen_ok, hload, hrun]
    simp only [denRes] at hd
    split at hd
    · rename_i i off hv
      obtain ⟨he, hi⟩ := r.evloc (x := .tmp x) hv
      split at hd
      · rename_i hle
        have hle := Nat.le_of_ble_eq_true hle
        exact fin _ _ _ he (by simp; omega) (fun j v hj => by rw [addNone]; exact r.localCell hi (drop_take_get hj)) hd
      · exact hd.elim
    · rename_i b off hv
      obtain ⟨us, hlen, hrow, hd⟩ := hd
      exact fin _ _ us (r.vv (x := .tmp x) hv).1 hlen (fun j v hj => r.sub.row hrow j v hj) hd
    · exact hd.elim
   simp only [lowRes] at hl
   split at hl
   · rename_i h1 h2 h3; cases hl; exact key true _ _ h1 (fun _ => h2) (fun e => by cases e) h3 hd
   · rename_i h1 h2 h3; cases hl; exact key false 1 _ h1 (fun e => by cases e) (fun _ => rfl) h3 hd
   · cases hl
theorem st0_rel {args : List Value} {h : PHeap} {w : World} (hn : args.length ≤ n) (hs : Sub w h) (bs : Nat → Nat) :
 Rel n w h (st0 args) bs h { tmps := args.toArray ++ Array.replicate (n - args.toArray.size) undef, defers := [] } w where
 size := by simp; omega
 defers := rfl
 regs := fun j hj => by
  have hget : (args.toArray ++ Array.replicate (n - args.toArray.size) undef).getD j undef = args.getD j undef := by
   rw [Array.getD_eq_getD_getElem?, Array.getElem?_append, List.getD_eq_getElem?_getD]
   simp only [List.size_toArray, List.getElem?_toArray]
   split
   · rfl
   · rw [List.getElem?_eq_none (by omega), Array.getElem?_replicate]
     split <;> rfl
  rw [hget, List.getD_eq_getElem?_getD]
  simp only [st0]
  cases args[j]? <;> rfl
 big := fun j i o hj => by
  simp only [st0]
  rw [List.getElem?_eq_none (by omega)]
  exact ⟨(fun e => by cases e), fun v e => by cases e; rfl⟩
 sub := hs
 keep := Keep.refl w h
 loc := fun i hi => by simp [st0] at hi
 inj := fun i j hi => by simp [st0] at hi
 lt := fun j i o _ e => by
  simp only [st0] at e
  split at e <;> cases e
theorem tri_of_den (hm : P.follows .mixedOrders = true) {f : FuncId} {fn : Func} {c : Code} {sc : SCode} {rs : List SRes} {args : List Value} {h : PHeap} {Q : Value → PHeap → Prop}
 (hf : P.funcs[f]? = some fn) (hb : fn.body = some c) (hname : (fn.name == "runtime.NumGoroutine") = false) (hl : low P esc c = some sc) (hr : lowRes P fn.results.toList = some rs) (hn : Nat.ble args.length fn.ntmps = true)
 (hd : denF P fn.ntmps sc rs args h Q) : Tri P f args h Q := by
 intro w hs
 unfold CallR
 have hcall : (callFunc f args.toArray).run P w = .ok (.enter f args.toArray) w := by
  unfold callFunc
  have hname' : ¬ fn.name = "runtime.NumGoroutine" := fun e => by rw [e] at hname; simp at hname
  simp [program, Sem.run, hf, hname', hb]
 rw [hcall]
 refine calls_of_wp hf hb (wp_mono (low_sound hm hl hd (st0_rel (Nat.le_of_ble_eq_true hn) hs (fun _ => 0))) fun e a w' hq => ?_)
 have fin : ∀ (s : St) (bs : Nat → Nat) (h' : PHeap), (denRes s h' rs fun vs => Q (retV vs) h') → Rel fn.ntmps w h s bs h' a w' → a.defers = [] ∧ ∃ v, (results fn a.tmps).run P w' = .ok v w' ∧
  retR (fun v w' => ∃ h', Q v h' ∧ Sub w' h' ∧ Keep w h w' h') (.returned v) w' := fun s bs h' hq r => by
  obtain ⟨vs, hk, hrun⟩ := denRes_sound r hr hq
  exact ⟨r.defers, retV vs, retV_run hrun, h', hk, r.sub, r.keep⟩
 cases e with
 | normal => obtain ⟨s, bs, h', hq, r⟩ := hq; exact fin s bs h' hq r
 | ret => obtain ⟨s, bs, h', hq, r⟩ := hq; exact fin s bs h' hq r
 | exit k => obtain ⟨s, bs, h', hq, r⟩ := hq; exact hq.elim
 | goto l => exact hq.elim
 | panic ch => exact hq.elim
 | outgrown => exact hq.elim
end
end Go.Den
namespace Go.Den
open Go
section
variable {P : Program} {h : PHeap} {ρ : Operand → Value}
def Own (h : PHeap) (e : TypeId) (k : Nat) (v : Value) (n : Nat) (xs : List Value) : Prop :=
 xs.length = n * k ∧ ((v = .slice none 0 0 ∧ n = 0) ∨
  ∃ b cap rest, v = .slice (some ⟨b, 0, none⟩) n cap ∧ h b = some (.cells ⟨xs ++ rest⟩ e (0, 0)) ∧ rest.length = (cap - n) * k ∧ n ≤ cap)
theorem growBy_le (m : Nat) : ∀ (r c : Nat), Builtin.growBy m r c ≤ (c + 1024) * 2 ^ r
 | 0, c => by simp [Builtin.growBy]
 | r + 1, c => by
   unfold Builtin.growBy
   have hp : 1 ≤ 2 ^ (r + 1) := Nat.one_le_two_pow
   split
   · have := Nat.mul_le_mul_left (c + 1024) hp
     rw [Nat.mul_one] at this
     exact Nat.le_trans (Nat.le_add_right _ _) this
   · refine Nat.le_trans (growBy_le m r _) ?_
     rw [Nat.pow_succ, Nat.mul_comm (2 ^ r) 2, ← Nat.mul_assoc]
     exact Nat.mul_le_mul_right _ (by omega)
theorem nextcap_le {need cap : Nat} (hc : cap < need) : Builtin.nextslicecap need cap ≤ 16 * need + 16384 := by
 unfold Builtin.nextslicecap
 split
 · omega
 · split
   · omega
   · have := growBy_le need 4 cap
     generalize Builtin.growBy need 4 cap = g at *
     have e : (cap + 1024) * 2 ^ 4 = 16 * cap + 16384 := by simp; omega
     rw [e] at this
     omega
def SrcH (P : Program) (h : PHeap) (k : Nat) (t : TypeId) (v : Value) (m : Nat) (ys : List Value) : Prop := ∀ w, Sub w h → Go.Src P k t v m ys w
theorem row_of {b : Nat} : ∀ (ys : List Value) (o : Nat), (∀ j v, ys[j]? = some v → h.cell b (o + j) = some v) → h.row b o ys
 | [], o, _ => trivial
 | [y], o, hc => hc 0 y rfl
 | y :: z :: ys, o, hc => ⟨hc 0 y rfl, row_of (z :: ys) (o + 1) fun j v hj => by
     have := hc (j + 1) v (by simpa using hj); rw [show o + 1 + j = o + (j + 1) by omega]; exact this⟩
theorem allOne_mem : ∀ {l : List Value}, allOne l = true → ∀ x ∈ l, x.oneCell' = true
 | [], _, x, hx => by cases hx
 | y :: l, hl, x, hx => by
   simp only [allOne, Bool.and_eq_true] at hl
   cases hx with
   | head => exact hl.1
   | tail _ hm => exact allOne_mem hl.2 x hm
theorem SrcH.row {k m c b o : Nat} {t e : TypeId} {ys : List Value} (hk : P.underlying t = some (.slice e)) (hl : ys.length = m * k) (hr : h.row b o ys) (h1 : allOne ys = true) : SrcH P h k t (.slice (some ⟨b, o, none⟩) m c) m ys :=
 fun w hs => Go.Src.ofSlice w hk _ m c ys hl (fun j u hj => hs.row hr j u hj) (allOne_mem h1)
theorem SrcH.nil {k c : Nat} {t e : TypeId} (hk : P.underlying t = some (.slice e)) : SrcH P h k t (.slice none 0 c) 0 [] := fun w _ => Go.Src.ofNil w hk c
theorem SrcH.string {t : TypeId} (hk : P.underlying t = some .string) (s : ByteArray) : SrcH P h 1 t (.string s) s.size (byteCells s) := fun w _ => Go.Src.ofString w hk s
theorem Own.row {e : TypeId} {k n cap b : Nat} {xs : List Value} (ho : Own h e k (.slice (some ⟨b, 0, none⟩) n cap) n xs) : h.row b 0 xs := by
 obtain ⟨hl, ho⟩ := ho
 rcases ho with ⟨ho, _⟩ | ⟨b', cap', rest, hv, hb, _, _⟩
 · cases ho
 · cases hv
   refine row_of xs 0 fun j v hj => ?_
   have hlt : j < xs.length := (List.getElem?_eq_some_iff.1 hj).1
   simp [PHeap.cell, hb, List.getElem?_append_left hlt, hj]
theorem raw_append {c : Call} {x y : Operand} {t t2 e : TypeId} {i : TypeInfo} {n m : Nat} {z vx vy : Value} {xs ys : List Value} {ty : TypeId}
 (hc : c.callee = .builtin .append) (ha : c.args = #[x, y]) (hts : c.argTypes = #[t, t2]) (hu : P.underlying t = some (.slice e)) (hi : P.info? e = some i) (hz : i.zero = some z)
 (hx : ρ x = vx) (hy : ρ y = vy) (ho : Own h e i.size vx n xs) (hsrc : SrcH P h i.size t2 vy m ys) (hzc : z.cells.size = i.size) (hm : 0 < m) (hbig : (16 * (n + m) + 16384) * i.bytes ≤ 281474976710656) (h63 : n + m ≤ 1000000000) :
 Raw P (execOp ρ (mkO (.call c) ty)) h fun v h' => ∃ b cap rest, v = .slice (some ⟨b, 0, none⟩) (n + m) cap ∧ h' = h.put b (.cells ⟨xs ++ ys ++ rest⟩ e (0, 0)) ∧ rest.length = (cap - (n + m)) * i.size ∧ n + m ≤ cap ∧
  (h b = none ∨ ∃ c, vx = .slice (some ⟨b, 0, none⟩) n c) := by
 intro w hs
 have hsr := hsrc w hs
 have hexec : (execOp ρ (mkO (.call c) ty)).run P w = ((Builtin.append_ #[t, t2] ty #[vx, vy]).run P w).andThen fun v w' => .ok (.value v) w' := by
  simp [execOp, mkO, resolve, hc, ha, hts, hx, hy, invoke, builtin]
 have grow : ∀ cap (base : Option Addr), vx = .slice base n cap → (Builtin.firstCells i.size n (.slice base n cap)).run P w.drew = .ok xs.toArray w.drew → cap < n + m → ∃ nn v w' h', (execOp ρ (mkO (.call c) ty)).run P w = .ok nn w' ∧ ((nn = .value v) ∨ (nn = .skip ∧ v = undef)) ∧
  (∃ b cap rest, v = .slice (some ⟨b, 0, none⟩) (n + m) cap ∧ h' = h.put b (.cells ⟨xs ++ ys ++ rest⟩ e (0, 0)) ∧ rest.length = (cap - (n + m)) * i.size ∧ n + m ≤ cap ∧
  (h b = none ∨ ∃ c, vx = .slice (some ⟨b, 0, none⟩) n c)) ∧ Sub w' h' ∧ Keep w h w' h' := by
  intro cap base hvx hold hlt
  have hnc := nextcap_le hlt
  have hle : Builtin.nextslicecap (n + m) cap * i.bytes ≤ 281474976710656 := Nat.le_trans (Nat.mul_le_mul_right _ hnc) hbig
  have hrun := run_append_grow_src w t t2 ty e i z hu hi hz base n cap xs hold vy m ys hsr hlt (by omega) hle
  have hcap : n + m ≤ grownCap w (n + m) cap e := by
   unfold grownCap; simp only [Question.cut]; omega
  rw [hexec, hvx, hrun]
  have hobj : (Obj.cells ((xs ++ ys).toArray ++ Builtin.zeroCells z.cells (grownCap w (n + m) cap e - (n + m))) e) =
   .cells ⟨xs ++ ys ++ (Builtin.zeroCells z.cells (grownCap w (n + m) cap e - (n + m))).toList⟩ e (0, 0) := by
   congr 1
   apply Array.ext'; simp
  rw [hobj]
  have hs' : Sub w.drew h := hs
  refine ⟨_, _, _, h.put w.heap.size _, rfl, .inl rfl, ⟨w.heap.size, _, _, rfl, rfl, ?_, hcap, .inl hs.fresh⟩, hs'.allocReal _, ?_⟩
  · simp [Builtin.zeroCells, hzc]
  · have := Keep.allocReal w.drew h (.cells ⟨xs ++ ys ++ (Builtin.zeroCells z.cells (grownCap w (n + m) cap e - (n + m))).toList⟩ e (0, 0))
    exact ⟨this.os, this.tape, this.output, this.size, this.out⟩
 have ho' := ho
 obtain ⟨hl, hov⟩ := ho
 rcases hov with ⟨hvx, hn⟩ | ⟨b, cap, rest, hvx, hb, hrest, hle⟩
 · subst hn
   have : xs = [] := List.eq_nil_of_length_eq_zero (by simpa using hl)
   subst this
   exact grow 0 none hvx (by rfl) (by omega)
 · by_cases hfit : n + m ≤ cap
   · have hst := Go.run_storeCells_atF P b (n * i.size) e (0, 0) ys 0 ⟨xs ++ rest⟩ w (hs _ _ hb) (Nat.zero_le _)
      (by
       have h2 := hsr.newsLen
       simp only [Nat.add_zero, List.size_toArray, List.length_append, hl, hrest, h2]
       rw [← Nat.add_mul, ← Nat.add_mul]
       exact Nat.mul_le_mul_right _ (by omega)) hsr.one
     have hrun : (Builtin.append_ #[t, t2] ty #[.slice (some ⟨b, 0, none⟩) n cap, vy]).run P w = .ok (.slice (some ⟨b, 0, none⟩) (n + m) cap) (w.setRow b ⟨splice (xs ++ rest) (n * i.size) ys⟩) := by
      have hst' : (storeCells ⟨b, n * i.size, none⟩ ys).run P w = .ok () (w.setRow b ⟨splice (xs ++ rest) (n * i.size) ys⟩) := by
       rw [hst]; simp [splice]
      rcases hsr.kind with ⟨e', hk⟩ | hk <;> simp [Builtin.append_, run_underlying hu, run_underlying hk, sizeOf, typeInfo, hi, hsr.len, hfit, hsr.cells, addNone, hst']
     rw [hexec, hvx, hrun]
     have hsp : splice (xs ++ rest) (n * i.size) ys = xs ++ ys ++ rest.drop (m * i.size) := by
      unfold splice
      rw [← hl, List.take_left, List.drop_append, hsr.newsLen]
      simp [Nat.add_sub_cancel_left]
     rw [hsp]
     refine ⟨_, _, _, h.put b (.cells ⟨xs ++ ys ++ rest.drop (m * i.size)⟩ e (0, 0)), rfl, .inl rfl, ⟨b, cap, _, rfl, rfl, ?_, hfit, .inr ⟨cap, rfl⟩⟩, ?_, ?_⟩
     · rw [List.length_drop, hrest, ← Nat.sub_mul, Nat.sub_sub]
     · intro k o hk
       simp only [PHeap.put] at hk
       split at hk
       · rename_i e1; subst e1; cases hk
         exact setRow_heap _ _ _ _ _ _ (hs _ _ hb)
       · rename_i e1
         rw [setRow_other _ _ _ _ e1]; exact hs _ _ hk
     · refine ⟨rfl, rfl, rfl, by rw [size_setRow]; exact Nat.le_refl _, fun k hk hn => ?_⟩
       have : k ≠ b := fun e => by subst e; rw [hb] at hn; cases hn
       exact ⟨by simp only [PHeap.put]; rw [if_neg this]; exact hn, setRow_other _ _ _ _ this⟩
   · refine grow cap _ hvx ?_ (by omega)
     subst hvx
     have hs' : Sub w.drew h := hs
     have hrow := ho'.row
     show (loadCells ⟨b, 0, none⟩ (n * i.size)).run P w.drew = _
     rw [← hl]
     exact run_loadCells_list w.drew _ xs fun j v hj => hs'.row hrow j v hj
end
end Go.Den
