import Derived.OrdersHeld
import Derived.Tactics
import Derived.KernelRfl
import Derived.Lib.FrozenHead
import Derived.Laws.Cells
namespace Go.Den
open Go

abbrev PHeap := Nat → Option Obj

def PHeap.put (h : PHeap) (b : Nat) (o : Obj) : PHeap := fun k => if k = b then some o else h k

/-- The cell of a partial heap. -/
def PHeap.cell (h : PHeap) (b off : Nat) : Option Value :=
  match h b with
  | some (.cells c _ _) => c[off]?
  | _ => none

/-- What is known of the world: these blocks are there. -/
def Sub (w : World) (h : PHeap) : Prop := ∀ k o, h k = some o → w.heap[k]? = some o

structure Keep (w : World) (h : PHeap) (w' : World) (h' : PHeap) : Prop where
  os : w'.os = w.os
  tape : w'.tape = w.tape
  output : w'.output = w.output
  size : w.heap.size ≤ w'.heap.size
  out : ∀ k, k < w.heap.size → h k = none → h' k = none ∧ w'.heap[k]? = w.heap[k]?

/-- The end of a call that returns. -/
def retR (R : Value → World → Prop) : Ending → World → Prop
  | .returned v, w => R v w
  | _, _ => False

def uponR (P : Program) (R : Value → World → Prop) : Result Next → Prop
  | .ok (.value v) w => R v w
  | .ok (.enter f args) w => Calls P f args w (retR R)
  | _ => False

/-- A call, as the operation makes it. -/
def CallR (P : Program) (f : FuncId) (args : Array Value) (w : World) (R : Value → World → Prop) : Prop :=
  uponR P R ((callFunc f args).run P w)

def Tri (P : Program) (f : FuncId) (args : List Value) (h : PHeap) (Q : Value → PHeap → Prop) : Prop :=
  ∀ w, Sub w h → CallR P f args.toArray w fun v w' => ∃ h', Q v h' ∧ Sub w' h' ∧ Keep w h w' h'

/-- One operation that is no call: what it does to what is known. -/
def Raw (P : Program) (s : Sem Next) (h : PHeap) (Q : Value → PHeap → Prop) : Prop :=
  ∀ w, Sub w h → ∃ n v w' h', s.run P w = .ok n w' ∧ ((n = .value v) ∨ (n = .skip ∧ v = undef)) ∧ Q v h' ∧ Sub w' h' ∧ Keep w h w' h'

def PureRun (P : Program) (s : Sem Next) (v : Value) : Prop := ∀ w, s.run P w = .ok (.value v) w

/-- The value of a program without effects. -/
def pureVal (P : Program) : Sem Next → Option Value
  | .pure (.value v) => some v
  | .program k => pureVal P (k P)
  | _ => none

theorem pureVal_run {P : Program} {v : Value} : ∀ (s : Sem Next), pureVal P s = some v → PureRun P s v
  | .pure (.value v'), h => by
    simp only [pureVal, Option.some.injEq] at h; subst h; intro w; rfl
  | .program k, h => by
    intro w; exact pureVal_run (k P) h w

inductive SV where
  | val (v : Value)
  | loc (i off : Nat)
  | junk

structure St where
  regs : Nat → SV
  nl : Nat
  locs : Nat → List Value

def upd {α : Type} (f : Nat → α) (i : Nat) (x : α) : Nat → α := fun j => bif Nat.beq j i then x else f j

def St.ev (s : St) : Operand → SV
  | .tmp t => s.regs t
  | .const v => .val v
  | .global g => .val (.pointer (some ⟨g, 0, none⟩))
  | .func f => .val (.func (.func f) #[] #[])

def SV.isVal : SV → Bool
  | .val _ => true
  | _ => false

def St.vv (s : St) (x : Operand) : Value :=
  match s.ev x with
  | .val v => v
  | _ => undef

def St.putR (s : St) (d : Option Nat) (x : SV) : St :=
  match d with
  | some d => { s with regs := upd s.regs d x }
  | none => s

/-- A register that is known to be a bool. -/
def St.lit (s : St) (r : Nat) (b : Bool) : St := { s with regs := upd s.regs r (.val (.bool b)) }

def St.litO (s : St) (x : Operand) (b : Bool) : St :=
  match x with
  | .tmp r => s.lit r b
  | _ => s

def St.newL (s : St) (l : List Value) : St := { s with nl := s.nl + 1, locs := upd s.locs s.nl l }
def St.setL (s : St) (i : Nat) (l : List Value) : St := { s with locs := upd s.locs i l }

def splice (l : List Value) (o : Nat) (vs : List Value) : List Value := l.take o ++ vs ++ l.drop (o + vs.length)

inductive SOp where
  | mv (x : Operand)
  | pick (c a b : Operand)
  | alloc (t : TypeId) (zero : List Value) (esc : Bool)
  | box (t : TypeId) (x : Operand) (esc : Bool)
  | load (agg : Bool) (n : Nat) (x : Operand)
  | store (n : Nat) (x v : Operand)
  | nilCheck (x : Operand)
  | fieldAddr (off : Nat) (x : Operand)
  | indexAddr (size : Nat) (x i : Operand)
  | indexArr (len size : Nat) (x i : Operand)
  | len (str : Bool) (x : Operand)
  | call (f : Operand) (args : List Operand)
  | pure (op : Op) (t : TypeId)
  | puref (op : Op) (t : TypeId)
  | raw (op : Op) (t : TypeId)
  | conv (k : IntKind) (x : Operand)
  | build (zero : List Value) (parts : List (Nat × Nat × Operand))
  | buildSlice (e : TypeId) (len : Nat) (zeros : List Value) (parts : List (Nat × Nat × Operand))
  | field (agg : Bool) (off n : Nat) (x : Operand)
  | idxS (x i : Operand)
  | sliceS (x : Operand) (lo hi : Option Operand)
  | sliceL (k : Nat) (x : Operand) (lo hi : Option Operand)
  | addS (x y : Operand)
  | eqS (neg : Bool) (x y : Operand)
  | bytesS (x : Operand)
  | bad

/-- An operation without its place in the text. -/
def mkO (op : Op) (t : TypeId) : Oper := ⟨none, op, t, "", #[], none⟩

structure SOper where
  dst : Option Nat
  op : SOp
  guard : Option (Nat × Bool)

inductive SCode where
  | skip
  | bad
  | ops (l : List SOper)
  | draw (l : List (SOper × List Nat))
  | seq (a b : SCode)
  | cond (c : Operand) (a b : SCode)
  | block (id : Nat) (c : SCode)
  | loop (ws : List Nat) (c : SCode)
  | exit (id : Nat)
  | ret

inductive Ex where
  | normal
  | exit (id : Nat)
  | ret

/-- Two ways at a test. -/
def br (c : Bool) (X Y : Prop) : Prop :=
  match c with
  | true => X
  | false => Y

def allVal (s : St) : List Operand → Bool
  | [] => true
  | x :: xs => match s.ev x with
    | .val _ => allVal s xs
    | _ => false

def vals (s : St) : List Operand → List Value
  | [] => []
  | x :: xs => s.vv x :: vals s xs

def PHeap.row (h : PHeap) (b off : Nat) : List Value → Prop
  | [] => True
  | [v] => h.cell b off = some v
  | v :: vs => h.cell b off = some v ∧ h.row b (off + 1) vs

def packV (agg : Bool) (l : List Value) : Value :=
  match agg with
  | true => .agg ⟨l⟩
  | false => match l with
    | [v] => v
    | _ => undef

def cellsL (v : Value) : List Value := v.cells.toList

def allOne : List Value → Bool
  | [] => true
  | v :: l => v.oneCell' && allOne l

/-- The parts of a literal laid into its zero. -/
def fillL (s : St) (cells : List Value) : List (Nat × Nat × Operand) → (List Value → Prop) → Prop
  | [], K => K cells
  | (off, n, x) :: l, K => match s.ev x with
    | .val v => match Nat.beq (cellsL v).length n && Nat.ble (off + n) cells.length with
      | true => fillL s (splice cells off (cellsL v)) l K
      | false => False
    | _ => False

/-- A bound of a slice expression. -/
def bnd (s : St) (o : Option Operand) (d : Int) (K : Int → Prop) : Prop :=
  match o with
  | none => K d
  | some x => match s.ev x with
    | .val (.int _ i) => K i
    | _ => False

def byteV (c : UInt8) : Value := .int .u8 c.toNat

def denOp (P : Program) (op : SOp) (s : St) (h : PHeap) (K : SV → St → PHeap → Prop) : Prop :=
  match op with
  | .mv x => K (s.ev x) s h
  | .pick c a b => match s.ev c with
    | .val (.bool c) => br c (K (s.ev a) s h) (K (s.ev b) s h)
    | _ => False
  | .alloc t z esc => match esc with
    | false => K (.loc s.nl 0) (s.newL z) h
    | true => ∀ b, h b = none → K (.val (.pointer (some ⟨b, 0, none⟩))) s (h.put b (.cells ⟨z⟩ t))
  | .box t x esc => match s.ev x with
    | .val v => match esc with
      | false => K (.loc s.nl 0) (s.newL (cellsL v)) h
      | true => ∀ b, h b = none → K (.val (.pointer (some ⟨b, 0, none⟩))) s (h.put b (.cells ⟨cellsL v⟩ t))
    | _ => False
  | .load agg n x => match s.ev x with
    | .loc i off => match Nat.ble (off + n) (s.locs i).length with
      | true => K (.val (packV agg (((s.locs i).drop off).take n))) s h
      | false => False
    | .val (.pointer (some ⟨b, off, none⟩)) => ∃ l : List Value, l.length = n ∧ h.row b off l ∧ K (.val (packV agg l)) s h
    | _ => False
  | .store n x v => match s.ev v with
    | .val v => match Nat.beq (cellsL v).length n && allOne (cellsL v) with
      | true => match s.ev x with
        | .loc i off => match Nat.ble (off + n) (s.locs i).length with
          | true => K (.val undef) (s.setL i (splice (s.locs i) off (cellsL v))) h
          | false => False
        | .val (.pointer (some ⟨b, off, none⟩)) => ∃ (l : List Value) (t : TypeId) (fz : Nat × Nat), h b = some (.cells ⟨l⟩ t fz) ∧
            (off + n ≤ l.length ∧ fz.2 ≤ off) ∧ K (.val undef) s (h.put b (.cells ⟨splice l off (cellsL v)⟩ t fz))
        | _ => False
      | false => False
    | _ => False
  | .nilCheck x => match s.ev x with
    | .loc i off => K (.loc i off) s h
    | .val (.pointer (some a)) => K (.val (.pointer (some a))) s h
    | .val (.func (.func f) x y) => K (.val (.func (.func f) x y)) s h
    | _ => False
  | .fieldAddr f x => match s.ev x with
    | .loc i off => K (.loc i (off + f)) s h
    | .val (.pointer (some ⟨b, off, none⟩)) => K (.val (.pointer (some ⟨b, off + f, none⟩))) s h
    | _ => False
  | .indexAddr size x i => match s.ev x, s.ev i with
    | .val (.slice (some ⟨b, off, none⟩) n _), .val (.int _ i) => (0 ≤ i ∧ i < n) ∧ K (.val (.pointer (some ⟨b, off + i.toNat * size, none⟩))) s h
    | _, _ => False
  | .indexArr len size x i => match s.ev x, s.ev i with
    | .val (.pointer (some ⟨b, off, none⟩)), .val (.int _ i) => (0 ≤ i ∧ i < len) ∧ K (.val (.pointer (some ⟨b, off + i.toNat * size, none⟩))) s h
    | _, _ => False
  | .len str x => match str with
    | false => match s.ev x with
      | .val (.slice _ n _) => K (.val (.int .i64 n)) s h
      | _ => False
    | true => match s.ev x with
      | .val (.string ⟨⟨l⟩⟩) => K (.val (.int .i64 l.length)) s h
      | _ => False
  | .call f args => match s.ev f with
    | .val (.func (.func g) first captured) => match allVal s args with
      | true => Tri P g (first.toList ++ vals s args ++ captured.toList) h fun v h' => K (.val v) s h'
      | false => False
    | _ => False
  | .pure op t => match allVal s op.operands.toList with
    | true => match pureVal P (execOp s.vv (mkO op t)) with
      | some v => K (.val v) s h
      | none => False
    | false => False
  | .puref op t => match allVal s op.operands.toList with
    | true => ∃ v, PureRun P (execOp s.vv (mkO op t)) v ∧ K (.val v) s h
    | false => False
  | .raw op t => match allVal s op.operands.toList with
    | true => Raw P (execOp s.vv (mkO op t)) h fun v h' => K (.val v) s h'
    | false => False
  | .conv k x => match s.ev x with
    | .val (.int _ i) => K (.val (.int k (k.wrap i))) s h
    | _ => False
  | .build z parts => fillL s z parts fun l => K (.val (.agg ⟨l⟩)) s h
  | .buildSlice e len z parts => fillL s z parts fun l => ∀ b, h b = none → K (.val (.slice (some ⟨b, 0, none⟩) len len)) s (h.put b (.cells ⟨l⟩ e))
  | .field agg off n x => match s.ev x with
    | .val (.agg ⟨l⟩) => match Nat.ble (off + n) l.length with
      | true => K (.val (packV agg ((l.drop off).take n))) s h
      | false => False
    | _ => False
  | .idxS x i => match s.ev x, s.ev i with
    | .val (.string ⟨⟨l⟩⟩), .val (.int _ i) => 0 ≤ i ∧ ∃ c, l[i.toNat]? = some c ∧ K (.val (byteV c)) s h
    | _, _ => False
  | .sliceS x lo hi => match s.ev x with
    | .val (.string ⟨⟨l⟩⟩) => bnd s lo 0 fun a => bnd s hi l.length fun b => (0 ≤ a ∧ a ≤ b ∧ b ≤ l.length) ∧ K (.val (.string ⟨⟨(l.drop a.toNat).take (b.toNat - a.toNat)⟩⟩)) s h
    | _ => False
  | .sliceL k x lo hi => match s.ev x with
    | .val (.slice (some ⟨b, o, none⟩) n c) => bnd s lo 0 fun i => bnd s hi n fun j => (0 ≤ i ∧ i ≤ j ∧ j ≤ c) ∧
        ∀ o', ((i.toNat < c ∨ i.toNat = 0) → o' = o + i.toNat * k) → K (.val (.slice (some ⟨b, o', none⟩) (j.toNat - i.toNat) (c - i.toNat))) s h
    | .val (.slice none 0 0) => bnd s lo 0 fun i => bnd s hi 0 fun j => (i = 0 ∧ j = 0) ∧ K (.val (.slice none 0 0)) s h
    | _ => False
  | .addS x y => match s.ev x, s.ev y with
    | .val (.string ⟨⟨l⟩⟩), .val (.string ⟨⟨m⟩⟩) => l.length + m.length ≤ 9223372036854775807 ∧ K (.val (.string ⟨⟨l ++ m⟩⟩)) s h
    | _, _ => False
  | .eqS neg x y => match s.ev x, s.ev y with
    | .val (.string ⟨⟨l⟩⟩), .val (.string ⟨⟨m⟩⟩) => match neg with
      | false => K (.val (.bool (l == m))) s h
      | true => K (.val (.bool (!(l == m)))) s h
    | _, _ => False
  | .bytesS x => match s.ev x with
    | .val (.slice (some ⟨b, o, none⟩) n _) => ∃ l : List UInt8, l.length = n ∧ h.row b o (l.map byteV) ∧ K (.val (.string ⟨⟨l⟩⟩)) s h
    | .val (.slice none _ _) => K (.val (.string ⟨⟨[]⟩⟩)) s h
    | _ => False
  | .bad => False

def denG (P : Program) (o : SOper) (s : St) (h : PHeap) (K : SV → St → PHeap → Prop) : Prop :=
  match o.guard with
  | none => denOp P o.op s h K
  | some (r, want) => match s.regs r with
    | .val (.bool c) => match want with
      | true => br c (denOp P o.op (s.lit r true) h K) (K (.val undef) (s.lit r false) h)
      | false => br c (K (.val undef) (s.lit r true) h) (denOp P o.op (s.lit r false) h K)
    | .val (.tuple _) => K (.val undef) s h
    | _ => False

def denL (P : Program) (n : Nat) : List SOper → (St → PHeap → Prop) → St → PHeap → Prop
  | [], Q, s, h => Q s h
  | o :: l, Q, s, h => denG P o s h fun x s' h' => match o.dst with
    | some d => match Nat.blt d n with
      | true => denL P n l Q { s' with regs := upd s'.regs d x } h'
      | false => False
    | none => denL P n l Q s' h'
end Go.Den
namespace Go.Den
open Go

def isAggT (P : Program) (t : TypeId) : Option Bool :=
  match P.underlying t with
  | some (.struct _) | some (.array _ _) => some true
  | some _ => some false
  | none => none

def sizeT (P : Program) (t : TypeId) : Option Nat :=
  match P.info? t with
  | some ⟨_, _, k, _, _, _, _, _, _, _⟩ => some k
  | none => none

def nthL {α : Type} : List α → Nat → Option α
  | [], _ => none
  | x :: _, 0 => some x
  | _ :: l, n + 1 => nthL l n

def fieldOff (P : Program) (t : TypeId) (f : Nat) : Option Nat :=
  match P.underlying t with
  | some (.struct fs) => match nthL fs.toList f with
    | some ⟨_, ty, off, _, _, _, _⟩ => match sizeT P ty with
      | some (_ + 1) => some off
      | _ => none
    | none => none
  | _ => none

def elemSize (P : Program) (t : TypeId) : Option Nat :=
  match P.underlying t with
  | some (.slice e) => sizeT P e
  | _ => none

def arrSize (P : Program) (t : TypeId) : Option (Nat × Nat) :=
  match P.underlying t with
  | some (.array n e) => match sizeT P e with
    | some k => some (n, k)
    | none => none
  | _ => none

def isConstI : Operand → Bool
  | .const (.int _ _) => true
  | _ => false

def lenable (P : Program) (t : TypeId) : Option Bool :=
  match P.underlying t with
  | some (.slice _) => some false
  | some .string => some true
  | _ => none

def lowBuiltin (P : Program) (c : Call) (op : Op) (ty : TypeId) : Builtin → Option SOp
  | .len => match c.args.toList, c.argTypes.toList with
    | [x], [t] => match lenable P t with
      | some b => some (.len b x)
      | none => some (.raw op ty)
    | _, _ => some .bad
  | .min | .max | .cap => some (.puref op ty)
  | _ => some (.raw op ty)

def partsS (P : Program) (fs : List Field) : List (Nat × Operand) → Option (List (Nat × Nat × Operand))
  | [] => some []
  | (i, x) :: l => match nthL fs i, partsS P fs l with
    | some ⟨_, ty, off, _, _, _, _⟩, some r => match sizeT P ty with
      | some k => some ((off, k, x) :: r)
      | none => none
    | _, _ => none

def partsE (k : Nat) : List (Nat × Operand) → List (Nat × Nat × Operand)
  | [] => []
  | (i, x) :: l => (i * k, k, x) :: partsE k l

def sizesOk (P : Program) : List Field → Bool
  | [] => true
  | f :: l => (sizeT P f.type).isSome && sizesOk P l

def zerosL (z : List Value) : Nat → List Value
  | 0 => []
  | n + 1 => z ++ zerosL z n

def zeroT (P : Program) (t : TypeId) : Option Value := (P.info? t).bind (·.zero)

def zeroL : Value → List Value
  | .agg ⟨l⟩ => l
  | v => cellsL v

def escD (esc : Nat → Bool) : Option Nat → Bool
  | some d => esc d
  | none => false

def lowOp (P : Program) (esc : Nat → Bool) (dst : Option Nat) (op : Op) (ty : TypeId) : Option SOp :=
  match op with
  | .move x | .assign x => some (.mv x)
  | .pick c a b => some (.pick c a b)
  | .alloc t => match (P.info? t).bind (·.zero) with
    | some z => some (.alloc t (zeroL z) (escD esc dst))
    | none => some .bad
  | .box t x => some (.box t x (escD esc dst))
  | .load t x => match isAggT P t, sizeT P t with
    | some true, some n => some (.load true n x)
    | some false, some _ => some (.load false 1 x)
    | _, _ => some .bad
  | .store t x v => match sizeT P t with
    | some n => some (.store n x v)
    | none => some .bad
  | .nilCheck x => some (.nilCheck x)
  | .fieldAddr t x f => match fieldOff P t f with
    | some k => some (.fieldAddr k x)
    | none => some .bad
  | .indexAddr t x i => match elemSize P t with
    | some k => some (.indexAddr k x i)
    | none => match arrSize P t with
      | some (n, k) => some (.indexArr n k x i)
      | none => some (.puref op ty)
  | .call c => match c.callee with
    | .value f => some (.call f c.args.toList)
    | .builtin b => lowBuiltin P c op ty b
    | .invoke _ _ => some .bad
  | .unOp .. | .extract .. | .makeFunc .. => some (.pure op ty)
  | .binOp bop t x y _ => match bop with
    | .add => match P.underlying t with
      | some .string => some (.addS x y)
      | _ => some (.pure op ty)
    | .eql => match P.underlying t with
      | some .string => some (.eqS false x y)
      | _ => some (.pure op ty)
    | .neq => match P.underlying t with
      | some .string => some (.eqS true x y)
      | _ => some (.pure op ty)
    | .quo | .rem | .shl | .shr => match isConstI y with
      | true => some (.pure op ty)
      | false => some (.puref op ty)
    | _ => some (.pure op ty)
  | .build t parts => match P.underlying t, zeroT P t with
    | some (.struct fs), some z => match sizesOk P fs.toList, partsS P fs.toList parts.toList with
      | true, some ps => some (.build (zeroL z) ps)
      | _, _ => some .bad
    | some (.array _ e), some z => match sizeT P e with
      | some k => some (.build (zeroL z) (partsE k parts.toList))
      | none => some .bad
    | _, _ => some .bad
  | .buildSlice t len parts => match P.underlying t with
    | some (.slice e) => match sizeT P e, zeroT P e with
      | some (k + 1), some z => match Nat.ble (len * (k + 1)) 16777216 && Nat.beq (zeroL z).length (k + 1) with
        | true => some (.buildSlice e len (zerosL (zeroL z) len) (partsE (k + 1) parts.toList))
        | false => some .bad
      | _, _ => some .bad
    | _ => some .bad
  | .field t x f => match P.underlying t with
    | some (.struct fs) => match nthL fs.toList f with
      | some ⟨_, ft, off, _, _, _, _⟩ => match isAggT P ft, sizeT P ft with
        | some true, some n => some (.field true off n x)
        | some false, some _ => some (.field false off 1 x)
        | _, _ => some .bad
      | none => some .bad
    | _ => some .bad
  | .convert src dst x => match P.underlying src, P.underlying dst with
    | some (.int _), some (.int k) => some (.conv k x)
    | some (.slice e), some .string => match P.underlying e with
      | some (.int .u8) => some (.bytesS x)
      | _ => some (.raw op ty)
    | _, _ => some (.raw op ty)
  | .index t x i => match P.underlying t with
    | some .string => some (.idxS x i)
    | _ => some (.puref op ty)
  | .slice t x lo hi mx => match mx, P.underlying t with
    | none, some .string => some (.sliceS x lo hi)
    | none, some (.slice e) => match sizeT P e with
      | some k => some (.sliceL k x lo hi)
      | none => some .bad
    | _, _ => some (.puref op ty)
  | .makeInterface .. => some (.puref op ty)
  | .makeMap .. | .makeSlice .. | .lookup .. | .mapUpdate .. | .insert .. => some (.raw op ty)
  | _ => some .bad

/-- How the concrete state meets the symbolic one. -/
def SV.sat (bs : Nat → Nat) : SV → Value → Prop
  | .val v, x => x = v
  | .loc i o, x => x = .pointer (some ⟨bs i, o, none⟩)
  | .junk, _ => True

structure Rel (n : Nat) (w0 : World) (h0 : PHeap) (s : St) (bs : Nat → Nat) (h : PHeap) (a : Act) (w : World) : Prop where
  size : a.tmps.size = n
  defers : a.defers = []
  regs : ∀ j, j < n → (s.regs j).sat bs (a.tmps.getD j undef)
  big : ∀ j i o, n ≤ j → s.regs j ≠ .loc i o ∧ ∀ v, s.regs j = .val v → v = undef
  sub : Sub w h
  keep : Keep w0 h0 w h
  loc : ∀ i, i < s.nl → w0.heap.size ≤ bs i ∧ h (bs i) = none ∧ ∃ t, w.heap[bs i]? = some (.cells ⟨s.locs i⟩ t (0, 0))
  inj : ∀ i j, i < s.nl → j < s.nl → bs i = bs j → i = j
  lt : ∀ j i o, j < n → s.regs j = .loc i o → i < s.nl

def Agree (n : Nat) (bs bs' : Nat → Nat) : Prop := ∀ i, i < n → bs' i = bs i

theorem beqSelf (j : Nat) : Nat.beq j j = true := Nat.beq_eq.symm ▸ rfl
theorem beqNe {j d : Nat} (h : j ≠ d) : Nat.beq j d = false := by
  cases hb : Nat.beq j d
  · rfl
  · exact absurd (Nat.eq_of_beq_eq_true hb) h

section
variable {P : Program} {n : Nat} {w0 : World} {h0 : PHeap} {s : St} {bs : Nat → Nat} {h : PHeap} {a : Act} {w : World}

theorem Rel.ev (r : Rel n w0 h0 s bs h a w) (x : Operand) : (s.ev x).sat bs (a.eval x) := by
  cases x with
  | tmp t =>
    simp only [St.ev, Act.eval]
    by_cases ht : t < n
    · exact r.regs t ht
    · have hb := r.big t 0 0 (Nat.le_of_not_lt ht)
      have : a.tmps.getD t undef = undef := by
        rw [Array.getD_eq_getD_getElem?, Array.getElem?_eq_none (by rw [r.size]; exact Nat.le_of_not_lt ht)]; rfl
      rw [this]
      cases hs : s.regs t with
      | val v => exact (hb.2 v hs).symm
      | loc i o => exact absurd hs (r.big t i o (Nat.le_of_not_lt ht)).1
      | junk => trivial
  | const v => rfl
  | global g => rfl
  | func f => rfl

theorem Rel.vv (r : Rel n w0 h0 s bs h a w) {x : Operand} {v : Value} (hx : s.ev x = .val v) : a.eval x = v ∧ s.vv x = v := by
  have := r.ev x
  rw [hx] at this
  exact ⟨this, by simp [St.vv, hx]⟩

theorem Rel.evloc (r : Rel n w0 h0 s bs h a w) {x : Operand} {i o : Nat} (hx : s.ev x = .loc i o) : a.eval x = .pointer (some ⟨bs i, o, none⟩) ∧ i < s.nl := by
  have := r.ev x
  rw [hx] at this
  refine ⟨this, ?_⟩
  cases x with
  | tmp t =>
    by_cases ht : t < n
    · exact r.lt t i o ht hx
    · exact absurd hx (r.big t i o (Nat.le_of_not_lt ht)).1
  | _ => simp [St.ev] at hx

theorem Rel.allVal (r : Rel n w0 h0 s bs h a w) : ∀ {l : List Operand}, allVal s l = true → ∀ x ∈ l, a.eval x = s.vv x
  | [], _, x, hx => by cases hx
  | y :: l, hl, x, hx => by
    simp only [Den.allVal] at hl
    split at hl
    · rename_i v hv
      cases hx with
      | head => have := r.vv hv; rw [this.1, this.2]
      | tail _ hm => exact r.allVal hl x hm
    · cases hl

theorem Rel.vals (r : Rel n w0 h0 s bs h a w) : ∀ {l : List Operand}, Den.allVal s l = true → l.map a.eval = Den.vals s l
  | [], _ => rfl
  | y :: l, hl => by
    have h1 := r.allVal hl y List.mem_cons_self
    have h2 : Den.allVal s l = true := by
      simp only [Den.allVal] at hl
      split at hl
      · exact hl
      · cases hl
    simp only [List.map_cons, Den.vals, h1, r.vals h2]

theorem Agree.refl (bs : Nat → Nat) : Agree n bs bs := fun _ _ => rfl

/-- A register is written. -/
theorem Rel.put (r : Rel n w0 h0 s bs h a w) {d : Nat} (hd : d < n) {x : SV} {v : Value} (hx : x.sat bs v) (hl : ∀ i o, x = .loc i o → i < s.nl) :
    Rel n w0 h0 { s with regs := upd s.regs d x } bs h (a.put (some d) v) w where
  size := by simp [Act.put, r.size]
  defers := r.defers
  regs := fun j hj => by
    simp only [Act.put, upd]
    by_cases hjd : j = d
    · subst hjd
      have : Nat.beq j j = true := beqSelf j
      rw [this]
      have hsz : j < a.tmps.size := by rw [r.size]; exact hj
      simpa [Array.getElem?_setIfInBounds, hsz] using hx
    · have : Nat.beq j d = false := beqNe hjd
      rw [this]
      have := r.regs j hj
      simpa [Array.getElem?_setIfInBounds_ne (Ne.symm hjd)] using this
  big := fun j i o hj => by
    have : Nat.beq j d = false := beqNe (by omega)
    simp only [upd, this, cond_false]
    exact r.big j i o hj
  sub := r.sub
  keep := r.keep
  loc := r.loc
  inj := r.inj
  lt := fun j i o hj hh => by
    simp only [upd] at hh
    by_cases hjd : j = d
    · subst hjd
      have : Nat.beq j j = true := beqSelf j
      rw [this] at hh
      exact hl i o hh
    · have : Nat.beq j d = false := beqNe hjd
      rw [this] at hh
      exact r.lt j i o hj hh

end
end Go.Den
namespace Go.Den
open Go

def takeable : SOp → Bool
  | .mv _ | .pick .. | .nilCheck _ | .fieldAddr .. | .indexAddr .. | .indexArr .. | .len .. | .conv .. | .build .. | .field .. | .idxS .. | .sliceS .. | .sliceL .. | .addS .. | .eqS .. | .pure .. | .puref .. | .load .. => true
  | _ => false

abbrev Pen := List (Nat × (St → PHeap → Prop))

/-- An operation that only reads, with what must stay for it. -/
def denTake (P : Program) (op : SOp) (s : St) (h : PHeap) (K : SV → Option (St → PHeap → Prop) → Prop) : Prop :=
  match op with
  | .load agg n x => match s.ev x with
    | .loc i off => match Nat.ble (off + n) (s.locs i).length with
      | true => K (.val (packV agg (((s.locs i).drop off).take n))) (some fun s' _ => ((s'.locs i).drop off).take n = ((s.locs i).drop off).take n)
      | false => False
    | .val (.pointer (some ⟨b, off, none⟩)) => ∃ l : List Value, l.length = n ∧ h.row b off l ∧ K (.val (packV agg l)) (some fun _ h' => h'.row b off l)
    | _ => False
  | op => denOp P op s h fun x _ _ => K x none

def denTG (P : Program) (o : SOper) (s : St) (h : PHeap) (K : SV → St → Option (St → PHeap → Prop) → Prop) : Prop :=
  match o.guard with
  | none => denTake P o.op s h fun x => K x s
  | some (r, want) => match s.regs r with
    | .val (.bool c) => match want with
      | true => br c (denTake P o.op (s.lit r true) h fun x => K x (s.lit r true)) (K (.val undef) (s.lit r false) none)
      | false => br c (K (.val undef) (s.lit r true) none) (denTake P o.op (s.lit r false) h fun x => K x (s.lit r false))
    | .val (.tuple _) => K (.val undef) s none
    | _ => False

def addPen (i : Nat) (S : Option (St → PHeap → Prop)) (pen : Pen) : Pen :=
  match S with
  | some S => (i, S) :: pen
  | none => pen

/-- The dst, if it is in the frame. -/
def putD (n : Nat) (d : Option Nat) (x : SV) (s : St) (K : St → Prop) : Prop :=
  match d with
  | some d => match Nat.blt d n with
    | true => K { s with regs := upd s.regs d x }
    | false => False
  | none => K s

def memN (x : Nat) : List Nat → Bool
  | [] => false
  | y :: l => bif Nat.beq x y then true else memN x l

def subN (l m : List Nat) : Bool :=
  match l with
  | [] => true
  | x :: l => memN x m && subN l m

/-- The operations that may come up. -/
def readyL (done : List Nat) : Nat → List (SOper × List Nat) → List (Nat × SOper)
  | _, [] => []
  | i, (o, af) :: l => match !memN i done && subN af done with
    | true => (i, o) :: readyL done (i + 1) l
    | false => readyL done (i + 1) l

def firstTake : List (Nat × SOper) → Option (Nat × SOper)
  | [] => none
  | (i, o) :: l => match takeable o.op with
    | true => some (i, o)
    | false => firstTake l

/-- Does i wait for k? -/
def waitsN (l : List (SOper × List Nat)) (k i : Nat) : Bool :=
  match nthL l i with
  | some (_, af) => memN k af
  | none => false

def penOk (l : List (SOper × List Nat)) (i : Nat) (s : St) (h : PHeap) : Pen → (Pen → Prop) → Prop
  | [], K => K []
  | (k, S) :: pen, K => match waitsN l k i with
    | true => penOk l i s h pen K
    | false => S s h ∧ penOk l i s h pen fun r => K ((k, S) :: r)

def allR {α : Type} : List α → (α → Prop) → Prop
  | [], _ => True
  | [x], p => p x
  | x :: l, p => p x ∧ allR l p

def denA (P : Program) (n : Nat) (l : List (SOper × List Nat)) (Q : St → PHeap → Prop) : Nat → List Nat → Pen → St → PHeap → Prop
  | 0, done, _, s, h => match readyL done 0 l with
    | [] => Q s h
    | _ => False
  | fuel + 1, done, pen, s, h => match readyL done 0 l with
    | [] => Q s h
    | rs => match firstTake rs with
      | some (i, o) => denTG P o s h fun x s S => putD n o.dst x s fun s' => denA P n l Q fuel (i :: done) (addPen i S pen) s' h
      | none => allR rs fun p => denG P p.2 s h fun x s' h' => penOk l p.1 s' h' pen fun pen' => putD n p.2.dst x s' fun s'' => denA P n l Q fuel (p.1 :: done) pen' s'' h'

def lookN {α : Type} (j : Nat) : List (Nat × α) → Option α
  | [] => none
  | (i, x) :: l => bif Nat.beq j i then some x else lookN j l

def mkSt (s : St) (ws : List Nat) (V : List (Nat × SV)) (L : List (Nat × List Value)) : St where
  regs := fun j => match lookN j V with
    | some x => x
    | none => bif memN j ws then .junk else s.regs j
  nl := s.nl
  locs := fun i => match lookN i L with
    | some l => l
    | none => s.locs i

def fitL (f g : Nat → List Value) : Nat → Prop
  | 0 => True
  | 1 => f 0 = g 0
  | k + 1 => f k = g k ∧ fitL f g k

def fitR (f : Nat → SV) : List (Nat × SV) → Prop
  | [] => True
  | [(j, v)] => f j = v
  | (j, v) :: l => f j = v ∧ fitR f l

/-- The registers of a loop's list are written in it, and none names a local that is to be forgotten. -/
def vOk (k : Nat) (ws : List Nat) : List (Nat × SV) → Prop
  | [] => True
  | (j, x) :: l => match memN j ws && (match x with
      | .loc i _ => Nat.blt i k
      | _ => true) with
    | true => vOk k ws l
    | false => False

def den (P : Program) (n : Nat) : SCode → (Ex → St → PHeap → Prop) → St → PHeap → Prop
  | .skip, Q, s, h => Q .normal s h
  | .ops l, Q, s, h => denL P n l (Q .normal) s h
  | .draw l, Q, s, h => denA P n l (Q .normal) l.length [] [] s h
  | .seq a b, Q, s, h => den P n a (fun e s h => match e with
    | .normal => den P n b Q s h
    | .exit k => Q (.exit k) s h
    | .ret => Q .ret s h) s h
  | .cond c a b, Q, s, h => match s.ev c with
    | .val (.bool b') => br b' (den P n a Q (s.litO c true) h) (den P n b Q (s.litO c false) h)
    | _ => False
  | .block id c, Q, s, h => den P n c (fun e s h => match e with
    | .normal => Q .normal s h
    | .exit k => match Nat.beq k id with
      | true => Q .normal s h
      | false => Q (.exit k) s h
    | .ret => Q .ret s h) s h
  | .loop ws c, Q, s, h => ∃ (α : Type) (I : α → PHeap → Prop) (V : α → List (Nat × SV)) (L : α → List (Nat × List Value)) (μ : α → PHeap → Nat),
      (∃ x, I x h ∧ fitR s.regs (V x) ∧ fitL s.locs (mkSt s ws (V x) (L x)).locs s.nl) ∧
      (∀ x, vOk s.nl ws (V x)) ∧
      ∀ x h, I x h → den P n c (fun e s' h' => match e with
        | .normal => ∃ x', I x' h' ∧ μ x' h' < μ x h ∧ fitR s'.regs (V x') ∧ fitL s'.locs (mkSt s ws (V x') (L x')).locs s.nl
        | .exit k => Q (.exit k) s' h'
        | .ret => Q .ret s' h') (mkSt s ws (V x) (L x)) h
  | .exit k, Q, s, h => Q (.exit k) s h
  | .ret, Q, s, h => Q .ret s h
  | .bad, _, _, _ => False

/-! ### The lowering -/

def lowGuard (ops : Array Oper) : Option (Nat × Bool) → Option (Option (Nat × Bool))
  | none => some none
  | some (j, b) => match nthL ops.toList j with
    | some ⟨some r, _, _, _, _, _⟩ => some (some (r, b))
    | _ => none

def lowOper (P : Program) (esc : Nat → Bool) (ops : Array Oper) : Oper → Option SOper
  | ⟨dst, op, ty, _, _, g⟩ => match lowOp P esc dst op ty, lowGuard ops g with
    | some op, some g => some ⟨dst, op, g⟩
    | _, _ => none

theorem nthL_eq {α : Type} : ∀ (l : List α) (i : Nat), nthL l i = l[i]?
  | [], _ => by simp [nthL]
  | x :: _, 0 => by simp [nthL]
  | _ :: l, i + 1 => by simp [nthL, nthL_eq l i]

theorem lowOper_eq (P : Program) (esc : Nat → Bool) (ops : Array Oper) (o : Oper) : lowOper P esc ops o = match lowOp P esc o.dst o.op o.type, lowGuard ops o.guard with
    | some op, some g => some ⟨o.dst, op, g⟩
    | _, _ => none := by cases o; rfl

def lowOpers (P : Program) (esc : Nat → Bool) (ops : Array Oper) : List Oper → Option (List SOper)
  | [] => some []
  | o :: l => match lowOper P esc ops o, lowOpers P esc ops l with
    | some x, some xs => some (x :: xs)
    | _, _ => none

def edgesL : List Edge → List Nat
  | [] => []
  | ⟨k, g⟩ :: l => match Region.binds .any ⟨k, g⟩ with
    | true => k :: edgesL l
    | false => edgesL l

def edges : Oper → List Nat
  | ⟨_, _, _, _, af, _⟩ => edgesL af.toList

def lowDraw (P : Program) (esc : Nat → Bool) (ops : Array Oper) : List Oper → Option (List (SOper × List Nat))
  | [] => some []
  | o :: l => match lowOper P esc ops o, lowDraw P esc ops l with
    | some x, some xs => some ((x, edges o) :: xs)
    | _, _ => none

def isSelect : Op → Bool
  | .select .. => true
  | _ => false

/-- Of two operations one waits for the other, or they are apart. -/
def apartOk (ops : Array Oper) (l : List Oper) : Bool :=
  l.zipIdx.all fun (x, i) => !isSelect x.op && l.zipIdx.all fun (y, j) => Nat.beq i j || memN i (edges y) || memN j (edges x) || x.apart ops y

def writesOf : List SOper → List Nat
  | [] => []
  | o :: l => match o.dst with
    | some d => d :: writesOf l
    | none => writesOf l

def swrites : SCode → List Nat
  | .ops l => writesOf l
  | .draw l => writesOf (l.map (·.1))
  | .seq a b => swrites a ++ swrites b
  | .cond _ a b => swrites a ++ swrites b
  | .block _ c => swrites c
  | .loop ws c => ws ++ swrites c
  | _ => []

def dedupN : List Nat → List Nat
  | [] => []
  | x :: l => bif memN x (dedupN l) then dedupN l else x :: dedupN l

def low (P : Program) (esc : Nat → Bool) : Code → Option SCode
  | .skip => some .skip
  | .region _ ops false => (lowOpers P esc ops ops.toList).map .ops
  | .region _ ops true => match apartOk ops ops.toList, lowDraw P esc ops ops.toList with
    | true, some l => some (.draw l)
    | _, _ => none
  | .seq a b => match low P esc a, low P esc b with
    | some x, some y => some (.seq x y)
    | _, _ => none
  | .cond c a b => match low P esc a, low P esc b with
    | some x, some y => some (.cond c x y)
    | _, _ => none
  | .block id c => (low P esc c).map (.block id)
  | .loop c => (low P esc c).map fun x => .loop (dedupN (swrites x)) x
  | .exit id => some (.exit id)
  | .ret => some .ret
  | .scope _ => some .bad
  | .label _ => some .bad
  | .goto _ => some .bad
  | .refuse _ => some .bad
  | .rangeFunc .. => some .bad
end Go.Den
