import Derived.Test.YteegmpghbhmekaaGreatDoorAm1
namespace Go.Den
open Go
abbrev vI (i : Int) : Value := .int .i64 i
abbrev vU (i : Int) : Value := .int .u8 i
abbrev vB (b : Bool) : Value := .bool b
abbrev vS (l : List UInt8) : Value := .string ⟨⟨l⟩⟩
abbrev vP (b o : Nat) : Value := .pointer (some ⟨b, o, none⟩)
abbrev vL (a : Option Addr) (n c : Nat) : Value := .slice a n c
abbrev vM (m : Nat) : Value := .map (some m)
abbrev vF (f : Nat) (x y : List Value) : Value := .func (.func f) ⟨x⟩ ⟨y⟩
abbrev vA (l : List Value) : Value := .agg ⟨l⟩
abbrev vT (l : List Value) : Value := .tuple ⟨l⟩
abbrev ad (b o : Nat) : Option Addr := some ⟨b, o, none⟩
inductive CK where
 | int (k : IntKind)
 | bool
 | str
 | ptr
 | optr
 | slice
 | map
 | func
 | any
def exK : CK → (Value → Prop) → Prop
 | .int k, K => ∃ i : Int, K (.int k i)
 | .bool, K => ∃ b : Bool, K (vB b)
 | .str, K => ∃ l : List UInt8, K (vS l)
 | .ptr, K => ∃ b o : Nat, K (vP b o)
 | .optr, K => ∃ a : Option Addr, K (.pointer a)
 | .slice, K => ∃ (a : Option Addr) (n c : Nat), K (vL a n c)
 | .map, K => ∃ m : Nat, K (vM m)
 | .func, K => ∃ (f : Nat) (x y : List Value), K (vF f x y)
 | .any, K => ∃ v : Value, K v
def exL : List CK → (List Value → Prop) → Prop
 | [], K => K []
 | k :: ks, K => exK k fun v => exL ks fun l => K (v :: l)
def exT : List (Bool × List CK) → (List Value → Prop) → Prop
 | [], K => K []
 | (agg, ks) :: r, K => exL ks fun l => exT r fun vs => K (packV agg l :: vs)
inductive RK where
 | one (agg : Bool) (ks : List CK)
 | tup (l : List (Bool × List CK))
 | nxt
 | lkp (agg : Bool) (z : List Value) (ks : List CK)
def exR : RK → (Value → Prop) → Prop
 | .one agg ks, K => exL ks fun l => K (packV agg l)
 | .tup l, K => exT l fun vs => K (vT vs)
 | .nxt, K => K (vT [vB false]) ∨ ∃ k x : Value, K (vT [vB true, k, x])
 | .lkp agg z ks, K => K (vT [packV agg z, vB false]) ∨ exL ks fun l => K (vT [packV agg l, vB true])
def allK : CK → (Value → Prop) → Prop
 | .int k, K => ∀ i : Int, K (.int k i)
 | .bool, K => ∀ b : Bool, K (vB b)
 | .str, K => ∀ l : List UInt8, K (vS l)
 | .ptr, K => ∀ b o : Nat, K (vP b o)
 | .optr, K => ∀ a : Option Addr, K (.pointer a)
 | .slice, K => ∀ (a : Option Addr) (n c : Nat), K (vL a n c)
 | .map, K => ∀ m : Nat, K (vM m)
 | .func, K => ∀ (f : Nat) (x y : List Value), K (vF f x y)
 | .any, K => ∀ v : Value, K v
def allL : List CK → (List Value → Prop) → Prop
 | [], K => K []
 | k :: ks, K => allK k fun v => allL ks fun l => K (v :: l)
def FnK : List CK → Type
 | [] => PHeap → Prop
 | .int _ :: ks => Int → FnK ks
 | .bool :: ks => Bool → FnK ks
 | .str :: ks => List UInt8 → FnK ks
 | .ptr :: ks => Nat → Nat → FnK ks
 | .optr :: ks => Option Addr → FnK ks
 | .slice :: ks => Option Addr → Nat → Nat → FnK ks
 | .map :: ks => Nat → FnK ks
 | .func :: ks => Nat → List Value → List Value → FnK ks
 | .any :: ks => Value → FnK ks
def ikEq : IntKind → IntKind → Bool
 | .i8, .i8 | .i16, .i16 | .i32, .i32 | .i64, .i64 | .u8, .u8 | .u16, .u16 | .u32, .u32 | .u64, .u64 => true
 | _, _ => false
theorem ikEq_eq {j k : IntKind} (h : ikEq j k = true) : j = k := by cases j <;> cases k <;> first | rfl | cases h
def appK : (ks : List CK) → FnK ks → List Value → PHeap → Prop
 | [], I, vs, h => match vs with
   | [] => I h
   | _ => False
 | .int k :: ks, I, vs, h => match vs with
   | .int k' i :: vs => match ikEq k k' with
     | true => appK ks (I i) vs h
     | false => False
   | _ => False
 | .bool :: ks, I, vs, h => match vs with
   | .bool b :: vs => appK ks (I b) vs h
   | _ => False
 | .str :: ks, I, vs, h => match vs with
   | .string ⟨⟨l⟩⟩ :: vs => appK ks (I l) vs h
   | _ => False
 | .ptr :: ks, I, vs, h => match vs with
   | .pointer (some ⟨b, o, none⟩) :: vs => appK ks (I b o) vs h
   | _ => False
 | .optr :: ks, I, vs, h => match vs with
   | .pointer a :: vs => appK ks (I a) vs h
   | _ => False
 | .slice :: ks, I, vs, h => match vs with
   | .slice a n c :: vs => appK ks (I a n c) vs h
   | _ => False
 | .map :: ks, I, vs, h => match vs with
   | .map (some m) :: vs => appK ks (I m) vs h
   | _ => False
 | .func :: ks, I, vs, h => match vs with
   | .func (.func f) ⟨x⟩ ⟨y⟩ :: vs => appK ks (I f x y) vs h
   | _ => False
 | .any :: ks, I, vs, h => match vs with
   | v :: vs => appK ks (I v) vs h
   | _ => False
theorem exK_ex : ∀ {k : CK} {K : Value → Prop}, exK k K → ∃ v, K v
 | .int _, _, ⟨_, h⟩ | .bool, _, ⟨_, h⟩ | .str, _, ⟨_, h⟩ | .optr, _, ⟨_, h⟩ | .map, _, ⟨_, h⟩ | .any, _, ⟨_, h⟩ => ⟨_, h⟩
 | .ptr, _, ⟨_, _, h⟩ => ⟨_, h⟩
 | .slice, _, ⟨_, _, _, h⟩ | .func, _, ⟨_, _, _, h⟩ => ⟨_, h⟩
theorem exL_ex : ∀ {ks : List CK} {K : List Value → Prop}, exL ks K → ∃ l, l.length = ks.length ∧ K l
 | [], _, h => ⟨[], rfl, h⟩
 | _ :: _, _, h => by
   obtain ⟨v, h⟩ := exK_ex h
   obtain ⟨l, hl, h⟩ := exL_ex h
   exact ⟨v :: l, by simp [hl], h⟩
theorem exT_ex : ∀ {r : List (Bool × List CK)} {K : List Value → Prop}, exT r K → ∃ l, K l
 | [], _, h => ⟨[], h⟩
 | (_, _) :: _, _, h => by
   obtain ⟨l, _, h⟩ := exL_ex h
   obtain ⟨vs, h⟩ := exT_ex h
   exact ⟨_, h⟩
theorem exR_ex {r : RK} {K : Value → Prop} (h : exR r K) : ∃ v, K v := by
 cases r with
 | one agg ks => obtain ⟨l, _, h⟩ := exL_ex h; exact ⟨_, h⟩
 | tup l => obtain ⟨vs, h⟩ := exT_ex h; exact ⟨_, h⟩
 | nxt => rcases h with h | ⟨_, _, h⟩ <;> exact ⟨_, h⟩
 | lkp agg z ks =>
   rcases h with h | h
   · exact ⟨_, h⟩
   · obtain ⟨l, _, h⟩ := exL_ex h; exact ⟨_, h⟩
theorem allL_app : ∀ {ks : List CK} {I : FnK ks} {vs : List Value} {h : PHeap} {K : List Value → Prop}, allL ks K → appK ks I vs h → K vs
 | [], I, vs, h, K, ha, hi => by
   unfold appK at hi; split at hi
   · exact ha
   · exact hi.elim
 | k :: ks, I, vs, h, K, ha, hi => by
   cases k with
   | int k =>
     unfold appK at hi; split at hi
     · split at hi
       · rename_i he; cases ikEq_eq he
         exact allL_app (K := fun l => K (_ :: l)) (ha _) hi
       · exact hi.elim
     · exact hi.elim
   | ptr =>
     unfold appK at hi; split at hi
     · exact allL_app (K := fun l => K (_ :: l)) (ha _ _) hi
     · exact hi.elim
   | slice =>
     unfold appK at hi; split at hi
     · exact allL_app (K := fun l => K (_ :: l)) (ha _ _ _) hi
     · exact hi.elim
   | func =>
     unfold appK at hi; split at hi
     · exact allL_app (K := fun l => K (_ :: l)) (ha _ _ _) hi
     · exact hi.elim
   | _ =>
     unfold appK at hi; split at hi
     · exact allL_app (K := fun l => K (_ :: l)) (ha _) hi
     · exact hi.elim
inductive DOp where
 | base (op : SOp)
 | heap (op : SOp)
 | mkF (f : FuncId) (first captured : List Operand) (t : TypeId)
 | load (agg : Bool) (ks : List CK) (x : Operand)
 | call (f : Operand) (args : List Operand) (rk : RK)
 | callA (f : Operand) (args : List Operand) (rk : RK)
 | puref (op : Op) (t : TypeId) (rk : RK)
 | raw (op : Op) (t : TypeId) (rk : RK)
 | indexAddr (size : Nat) (x i : Operand)
 | sliceL (k : Nat) (x : Operand) (lo hi : Option Operand)
 | bytesS (x : Operand)
structure DOper where
 dst : Option Nat
 op : DOp
 guard : Option (Nat × Bool)
inductive DCode where
 | skip
 | bad
 | ops (l : List DOper)
 | draw (l : List (DOper × List Nat))
 | seq (a b : DCode)
 | cond (c : Operand) (a b : DCode)
 | block (id : Nat) (c : DCode)
 | loop (ws : List Nat) (lv : List (Nat × CK)) (lc : List (Nat × List CK)) (c : DCode)
 | exit (id : Nat)
 | ret
def eOp : DOp → SOp
 | .base op => op
 | .heap op => op
 | .mkF f first captured t => .pure (.makeFunc (.func f) ⟨first⟩ ⟨captured⟩) t
 | .load agg ks x => .load agg ks.length x
 | .call f args _ => .call f args
 | .callA f args _ => .call f args
 | .puref op t _ => .puref op t
 | .raw op t _ => .raw op t
 | .indexAddr k x i => .indexAddr k x i
 | .sliceL k x lo hi => .sliceL k x lo hi
 | .bytesS x => .bytesS x
def eO (o : DOper) : SOper := ⟨o.dst, eOp o.op, o.guard⟩
def eL : List DOper → List SOper
 | [] => []
 | o :: l => eO o :: eL l
def eD : List (DOper × List Nat) → List (SOper × List Nat)
 | [] => []
 | (o, af) :: l => (eO o, af) :: eD l
def eC : DCode → SCode
 | .skip => .skip
 | .bad => .bad
 | .ops l => .ops (eL l)
 | .draw l => .draw (eD l)
 | .seq a b => .seq (eC a) (eC b)
 | .cond c a b => .cond c (eC a) (eC b)
 | .block id c => .block id (eC c)
 | .loop ws _ _ c => .loop ws (eC c)
 | .exit id => .exit id
 | .ret => .ret
def tmpsL (s : St) : List Operand → List (Nat × Value)
 | [] => []
 | .tmp t :: l => (t, s.vv (.tmp t)) :: tmpsL s l
 | _ :: l => tmpsL s l
def rho (l : List (Nat × Value)) : Operand → Value
 | .tmp t => match lookN t l with
   | some v => v
   | none => undef
 | .const v => v
 | .global g => .pointer (some ⟨g, 0, none⟩)
 | .func f => .func (.func f) #[] #[]
def SlA (a a' : Option Addr) (i c k : Nat) : Prop :=
 (∀ b o, a = some ⟨b, o, none⟩ → ∃ o', a' = some ⟨b, o', none⟩ ∧ (i < c ∨ i = 0 → o' = o + i * k)) ∧ (a = none → a' = none)
def okA (a : Option Addr) (n c : Nat) : Prop := (∃ b o, a = some ⟨b, o, none⟩) ∨ (a = none ∧ n = 0 ∧ c = 0)
def BytesAt (h : PHeap) (a : Option Addr) (n : Nat) (l : List UInt8) : Prop :=
 (a = none ∧ l = []) ∨ ∃ b o, a = some ⟨b, o, none⟩ ∧ l.length = n ∧ h.row b o (l.map byteV)
def dnOp (P : Program) (op : DOp) (s : St) (h : PHeap) (K : SV → St → PHeap → Prop) : Prop :=
 match op with
 | .base op => denOp P op s h K
 | .heap op => denOp P op s h fun x s' h' => ∀ h1, h1 = h' → K x s' h1
 | .mkF f first captured _ => match allVal s first && allVal s captured with
   | true => K (.val (vF f (vals s first) (vals s captured))) s h
   | false => False
 | .load agg ks x => match s.ev x with
   | .loc i off => match Nat.ble (off + ks.length) (s.locs i).length with
     | true => K (.val (packV agg (((s.locs i).drop off).take ks.length))) s h
     | false => False
   | .val (.pointer (some ⟨b, off, none⟩)) => exL ks fun l => h.row b off l ∧ K (.val (packV agg l)) s h
   | _ => False
 | .call f args rk => match s.ev f with
   | .val (.func (.func g) first captured) => match allVal s args with
     | true => Tri P g (first.toList ++ vals s args ++ captured.toList) h fun v h' => exR rk fun u => v = u ∧ K (.val u) s h'
     | false => False
   | _ => False
 | .callA f args rk => match s.ev f with
   | .val v => match allVal s args with
     | true => ∃ (g : Nat) (x y : List Value), v = vF g x y ∧ Tri P g (x ++ vals s args ++ y) h fun v h' => exR rk fun u => v = u ∧ K (.val u) s h'
     | false => False
   | _ => False
 | .puref op t rk => match allVal s op.operands.toList && !isSelect op with
   | true => exR rk fun u => PureRun P (execOp (rho (tmpsL s op.operands.toList)) (mkO op t)) u ∧ K (.val u) s h
   | false => False
 | .raw op t rk => match allVal s op.operands.toList && !isSelect op with
   | true => Raw P (execOp (rho (tmpsL s op.operands.toList)) (mkO op t)) h fun v h' => exR rk fun u => v = u ∧ K (.val u) s h'
   | false => False
 | .indexAddr size x i => match s.ev x, s.ev i with
   | .val (.slice a n _), .val (.int _ i) => ∃ b off, a = some ⟨b, off, none⟩ ∧ (0 ≤ i ∧ i < n) ∧ K (.val (.pointer (some ⟨b, off + i.toNat * size, none⟩))) s h
   | _, _ => False
 | .sliceL k x lo hi => match s.ev x with
   | .val (.slice a n c) => bnd s lo 0 fun i => bnd s hi n fun j => (okA a n c ∧ 0 ≤ i ∧ i ≤ j ∧ j ≤ c) ∧
    ∀ a', SlA a a' i.toNat c k → K (.val (.slice a' (j.toNat - i.toNat) (c - i.toNat))) s h
   | _ => False
 | .bytesS x => match s.ev x with
   | .val (.slice a n _) => ∃ l : List UInt8, BytesAt h a n l ∧ K (.val (.string ⟨⟨l⟩⟩)) s h
   | _ => False
def dnG (P : Program) (o : DOper) (s : St) (h : PHeap) (K : SV → St → PHeap → Prop) : Prop :=
 match o.guard with
 | none => dnOp P o.op s h K
 | some (r, want) => match s.regs r with
   | .val (.bool c) => match want with
     | true => br c (dnOp P o.op (s.lit r true) h K) (K (.val undef) (s.lit r false) h)
     | false => br c (K (.val undef) (s.lit r true) h) (dnOp P o.op (s.lit r false) h K)
   | .val (.tuple _) => K (.val undef) s h
   | _ => False
def dnL (P : Program) (n : Nat) : List DOper → (St → PHeap → Prop) → St → PHeap → Prop
 | [], Q, s, h => Q s h
 | o :: l, Q, s, h => dnG P o s h fun x s' h' => match o.dst with
   | some d => match Nat.blt d n with
     | true => dnL P n l Q { s' with regs := upd s'.regs d x } h'
     | false => False
   | none => dnL P n l Q s' h'
def dnTake (P : Program) (op : DOp) (s : St) (h : PHeap) (K : SV → Option (St → PHeap → Prop) → Prop) : Prop :=
 match op with
 | .load agg ks x => match s.ev x with
   | .loc i off => match Nat.ble (off + ks.length) (s.locs i).length with
     | true => K (.val (packV agg (((s.locs i).drop off).take ks.length))) (some fun s' _ => ((s'.locs i).drop off).take ks.length = ((s.locs i).drop off).take ks.length)
     | false => False
   | .val (.pointer (some ⟨b, off, none⟩)) => exL ks fun l => h.row b off l ∧ K (.val (packV agg l)) (some fun _ h' => h'.row b off l)
   | _ => False
 | .base (.load ..) => False
 | .heap (.load ..) => False
 | op => dnOp P op s h fun x _ _ => K x none
def dnTG (P : Program) (o : DOper) (s : St) (h : PHeap) (K : SV → St → Option (St → PHeap → Prop) → Prop) : Prop :=
 match o.guard with
 | none => dnTake P o.op s h fun x => K x s
 | some (r, want) => match s.regs r with
   | .val (.bool c) => match want with
     | true => br c (dnTake P o.op (s.lit r true) h fun x => K x (s.lit r true)) (K (.val undef) (s.lit r false) none)
     | false => br c (K (.val undef) (s.lit r true) none) (dnTake P o.op (s.lit r false) h fun x => K x (s.lit r false))
   | .val (.tuple _) => K (.val undef) s none
   | _ => False
def readyD (done : List Nat) : Nat → List (DOper × List Nat) → List (Nat × DOper)
 | _, [] => []
 | i, (o, af) :: l => match !memN i done && subN af done with
   | true => (i, o) :: readyD done (i + 1) l
   | false => readyD done (i + 1) l
def firstD : List (Nat × DOper) → Option (Nat × DOper)
 | [] => none
 | (i, o) :: l => match takeable (eOp o.op) with
   | true => some (i, o)
   | false => firstD l
def dnA (P : Program) (n : Nat) (l : List (DOper × List Nat)) (Q : St → PHeap → Prop) : Nat → List Nat → Pen → St → PHeap → Prop
 | 0, done, _, s, h => match readyD done 0 l with
   | [] => Q s h
   | _ => False
 | fuel + 1, done, pen, s, h => match readyD done 0 l with
   | [] => Q s h
   | rs => match firstD rs with
     | some (i, o) => dnTG P o s h fun x s S => putD n o.dst x s fun s' => dnA P n l Q fuel (i :: done) (addPen i S pen) s' h
     | none => allR rs fun p => dnG P p.2 s h fun x s' h' => penOk (eD l) p.1 s' h' pen fun pen' => putD n p.2.dst x s' fun s'' => dnA P n l Q fuel (p.1 :: done) pen' s'' h'
def kV : List (Nat × CK) → List CK
 | [] => []
 | (_, k) :: l => k :: kV l
def kC : List (Nat × List CK) → List CK
 | [] => []
 | (_, ks) :: l => ks ++ kC l
def kinds (lv : List (Nat × CK)) (lc : List (Nat × List CK)) : List CK := kV lv ++ kC lc
def mkIdx (s : St) : List (Nat × List CK) → Option (List (Nat × List CK))
 | [] => some []
 | (r, ks) :: l => match s.regs r with
   | .loc i _ => match mkIdx s l with
     | some m => some ((i, ks) :: m)
     | none => none
   | _ => none
def okV (s : St) (ws : List Nat) : List (Nat × CK) → Bool
 | [] => true
 | (r, _) :: l => memN r ws && (s.regs r).isVal && okV s ws l
def curV (s : St) : List (Nat × CK) → List Value
 | [] => []
 | (r, _) :: l => s.vv (.tmp r) :: curV s l
def curC (s : St) : List (Nat × List CK) → List Value
 | [] => []
 | (i, _) :: l => s.locs i ++ curC s l
def lenC (s : St) : List (Nat × List CK) → Bool
 | [] => true
 | (i, ks) :: l => Nat.beq (s.locs i).length ks.length && lenC s l
def mkV : List (Nat × CK) → List Value → List (Nat × SV)
 | [], _ => []
 | (r, _) :: l, vs => match vs with
   | v :: vs => (r, .val v) :: mkV l vs
   | [] => []
def mkL : List (Nat × List CK) → List Value → List (Nat × List Value)
 | [], _ => []
 | (i, ks) :: l, vs => (i, vs.take ks.length) :: mkL l (vs.drop ks.length)
def memI (k : Nat) : List (Nat × List CK) → Bool
 | [] => false
 | (i, _) :: l => bif Nat.beq k i then true else memI k l
def keepC (f g : Nat → List Value) (lc : List (Nat × List CK)) : Nat → Prop
 | 0 => True
 | k + 1 => match memI k lc with
   | true => keepC f g lc k
   | false => f k = g k ∧ keepC f g lc k
def dn (P : Program) (n : Nat) : DCode → (Ex → St → PHeap → Prop) → St → PHeap → Prop
 | .skip, Q, s, h => Q .normal s h
 | .ops l, Q, s, h => dnL P n l (Q .normal) s h
 | .draw l, Q, s, h => dnA P n l (Q .normal) l.length [] [] s h
 | .seq a b, Q, s, h => dn P n a (fun e s h => match e with
   | .normal => dn P n b Q s h
   | .exit k => Q (.exit k) s h
   | .ret => Q .ret s h) s h
 | .cond c a b, Q, s, h => match s.ev c with
   | .val (.bool b') => br b' (dn P n a Q (s.litO c true) h) (dn P n b Q (s.litO c false) h)
   | _ => False
 | .block id c, Q, s, h => dn P n c (fun e s h => match e with
   | .normal => Q .normal s h
   | .exit k => match Nat.beq k id with
     | true => Q .normal s h
     | false => Q (.exit k) s h
   | .ret => Q .ret s h) s h
 | .loop ws lv lc c, Q, s, h => match okV s ws lv, mkIdx s lc with
   | true, some lc' => match lenC s lc' with
     | true => ∃ I : Nat → FnK (kinds lv lc), (∃ m, appK (kinds lv lc) (I m) (curV s lv ++ curC s lc') h) ∧
      ∀ m, allL (kinds lv lc) fun vs => ∀ h, appK (kinds lv lc) (I m) vs h → dn P n c (fun e s' h' => match e with
        | .normal => match okV s' ws lv && lenC s' lc' with
          | true => ∃ m', m' < m ∧ appK (kinds lv lc) (I m') (curV s' lv ++ curC s' lc') h' ∧ keepC s'.locs s.locs lc' s.nl
          | false => False
        | .exit k => Q (.exit k) s' h'
        | .ret => Q .ret s' h') (mkSt s ws (mkV lv vs) (mkL lc' (vs.drop lv.length))) h
     | false => False
   | _, _ => False
 | .exit k, Q, s, h => Q (.exit k) s h
 | .ret, Q, s, h => Q .ret s h
 | .bad, _, _, _ => False
def dnF (P : Program) (n : Nat) (c : DCode) (rs : List SRes) (args : List Value) (h : PHeap) (Q : Value → PHeap → Prop) : Prop :=
 dn P n c (fun e s h => match e with
  | .exit _ => False
  | .normal => denRes s h rs fun vs => Q (retV vs) h
  | .ret => denRes s h rs fun vs => Q (retV vs) h) (st0 args) h
section
variable {P : Program} {n : Nat} {s : St} {h : PHeap}
theorem rho_vv : ∀ {l : List Operand} {x : Operand}, x ∈ l → rho (tmpsL s l) x = s.vv x
 | y :: l, x, hx => by
   cases x with
   | tmp t =>
     cases y with
     | tmp u =>
       simp only [tmpsL, rho, lookN]
       by_cases e : t = u
       · subst e; rw [beqSelf]; rfl
       · rw [beqNe e]
         have : Operand.tmp t ∈ l := by
          cases hx with
          | head => exact absurd rfl e
          | tail _ h => exact h
         exact rho_vv this
     | _ =>
       have : Operand.tmp t ∈ l := by
        cases hx with
        | tail _ h => exact h
       show rho (tmpsL s l) _ = _
       exact rho_vv this
   | _ => rfl
theorem rho_exec {op : Op} {t : TypeId} (hs : isSelect op = false) : execOp (rho (tmpsL s op.operands.toList)) (mkO op t) = execOp s.vv (mkO op t) :=
 execOp_congr (mkO op t) (fun cs b e => by simp only [mkO] at e; subst e; cases hs) fun x hx => rho_vv (by simpa [mkO] using hx)
theorem sel_split {a : Bool} {op : Op} (h : (a && !isSelect op) = true) : a = true ∧ isSelect op = false := by
 cases a <;> cases hs : isSelect op <;> rw [hs] at h <;> first | exact ⟨rfl, rfl⟩ | cases h
theorem SlA.some {b o i c k : Nat} {a' : Option Addr} {o' : Nat} (ha : a' = Option.some ⟨b, o', none⟩) (h : i < c ∨ i = 0 → o' = o + i * k) : SlA (Option.some ⟨b, o, none⟩) a' i c k :=
 ⟨fun b2 o2 e => by cases e; exact ⟨o', ha, h⟩, fun e => by cases e⟩
theorem allVal_append : ∀ {l m : List Operand}, allVal s l = true → allVal s m = true → allVal s (l ++ m) = true
 | [], _, _, h => h
 | x :: l, m, hl, hm => by
   unfold allVal at hl
   show allVal s (x :: (l ++ m)) = true
   unfold allVal
   split at hl
   · exact allVal_append hl hm
   · cases hl
theorem vals_map : ∀ (l : List Operand), vals s l = l.map s.vv
 | [] => rfl
 | x :: l => by simp [vals, vals_map l]
theorem dnOp_sound {op : DOp} {K K' : SV → St → PHeap → Prop} (hd : dnOp P op s h K) (hk : ∀ x s' h', K x s' h' → K' x s' h') : denOp P (eOp op) s h K' := by
 cases op with
 | base op => exact denOp_frame hd fun x s' h' hh _ _ => hk _ _ _ hh
 | heap op => exact denOp_frame (K := fun x s' h' => ∀ h1, h1 = h' → K x s' h1) hd fun x s' h' hh _ _ => hk _ _ _ (hh h' rfl)
 | mkF f first captured t =>
   simp only [dnOp] at hd
   simp only [eOp, denOp]
   split at hd
   · rename_i hb
     simp only [Bool.and_eq_true] at hb
     have e1 : (Op.makeFunc (.func f) ⟨first⟩ ⟨captured⟩).operands.toList = first ++ captured := by simp [Op.operands]
     rw [e1, allVal_append hb.1 hb.2]
     have e2 : pureVal P (execOp s.vv (mkO (.makeFunc (.func f) ⟨first⟩ ⟨captured⟩) t)) = some (vF f (vals s first) (vals s captured)) := by
      have : pureVal P (execOp s.vv (mkO (.makeFunc (.func f) ⟨first⟩ ⟨captured⟩) t)) = some (.func (.func f) ((⟨first⟩ : Array Operand).map s.vv) ((⟨captured⟩ : Array Operand).map s.vv)) := rfl
      rw [this]; simp [vals_map]
     rw [e2]
     exact hk _ _ _ hd
   · exact hd.elim
 | load agg ks x =>
   simp only [dnOp] at hd
   simp only [eOp, denOp]
   split at hd
   · rename_i i off hx
     simp only [hx]
     split at hd
     · rename_i hb; simp only [hb]; exact hk _ _ _ hd
     · exact hd.elim
   · rename_i b off hx
     simp only [hx]
     obtain ⟨l, hl, hr, hd⟩ := exL_ex hd
     exact ⟨l, hl, hr, hk _ _ _ hd⟩
   · exact hd.elim
 | call f args rk =>
   simp only [dnOp] at hd
   simp only [eOp, denOp]
   split at hd
   · rename_i g first captured hx
     simp only [hx]
     split at hd
     · rename_i hb
       simp only [hb]
       refine Tri.mono hd fun v h' hh => ?_
       obtain ⟨u, rfl, hh⟩ := exR_ex hh
       exact hk _ _ _ hh
     · exact hd.elim
   · exact hd.elim
 | callA f args rk =>
   simp only [dnOp] at hd
   simp only [eOp, denOp]
   split at hd
   · rename_i v hx
     split at hd
     · rename_i hb
       obtain ⟨g, x, y, rfl, hd⟩ := hd
       simp only [hx, hb]
       refine Tri.mono hd fun v h' hh => ?_
       obtain ⟨u, rfl, hh⟩ := exR_ex hh
       exact hk _ _ _ hh
     · exact hd.elim
   · exact hd.elim
 | puref op t rk =>
   simp only [dnOp] at hd
   simp only [eOp, denOp]
   split at hd
   · rename_i hb
     obtain ⟨h1, h2⟩ := sel_split hb
     simp only [h1]
     obtain ⟨u, hp, hh⟩ := exR_ex hd
     rw [rho_exec h2] at hp
     exact ⟨u, hp, hk _ _ _ hh⟩
   · exact hd.elim
 | raw op t rk =>
   simp only [dnOp] at hd
   simp only [eOp, denOp]
   split at hd
   · rename_i hb
     obtain ⟨h1, h2⟩ := sel_split hb
     simp only [h1]
     rw [rho_exec h2] at hd
     refine Raw.mono hd fun v h' hh => ?_
     obtain ⟨u, rfl, hh⟩ := exR_ex hh
     exact hk _ _ _ hh
   · exact hd.elim
 | indexAddr k x i =>
   simp only [dnOp] at hd
   simp only [eOp, denOp]
   split at hd
   · rename_i a n c kk i hx hi
     obtain ⟨b, off, rfl, hb, hh⟩ := hd
     simp only [hx, hi]
     exact ⟨hb, hk _ _ _ hh⟩
   · exact hd.elim
 | sliceL k x lo hi =>
   simp only [dnOp] at hd
   simp only [eOp, denOp]
   split at hd
   · rename_i a n c hx
     have hok : okA a n c := by
      unfold bnd at hd
      split at hd <;> (try split at hd) <;> (try split at hd) <;> (try split at hd) <;> first | exact hd.1.1 | exact hd.elim
     rcases hok with ⟨b, o, rfl⟩ | ⟨rfl, rfl, rfl⟩
     · simp only [hx]
       refine bnd_mono (fun i hd => ?_) hd
       refine bnd_mono (fun j hd => ?_) hd
       exact ⟨hd.1.2, fun o' ho => hk _ _ _ (hd.2 _ (SlA.some rfl ho))⟩
     · simp only [hx]
       refine bnd_mono (fun i hd => ?_) hd
       refine bnd_mono (fun j hd => ?_) hd
       obtain ⟨⟨_, h1, h2, h3⟩, hd⟩ := hd
       have hi : i = 0 := by omega
       have hj : j = 0 := by omega
       subst hi; subst hj
       exact ⟨⟨rfl, rfl⟩, hk _ _ _ (hd none ⟨(fun b o e => by cases e), fun _ => rfl⟩)⟩
   · exact hd.elim
 | bytesS x =>
   simp only [dnOp] at hd
   simp only [eOp, denOp]
   split at hd
   · rename_i a n c hx
     obtain ⟨l, hl, hd⟩ := hd
     rcases hl with ⟨rfl, rfl⟩ | ⟨b, o, rfl, hl, hr⟩
     · simp only [hx]; exact hk _ _ _ hd
     · simp only [hx]; exact ⟨l, hl, hr, hk _ _ _ hd⟩
   · exact hd.elim
theorem dnG_sound {o : DOper} {K K' : SV → St → PHeap → Prop} (hd : dnG P o s h K) (hk : ∀ x s' h', K x s' h' → K' x s' h') : denG P (eO o) s h K' := by
 unfold dnG at hd
 unfold denG
 simp only [eO]
 split at hd
 · rename_i hg; simp only [hg]; exact dnOp_sound hd hk
 · rename_i r want hg
   simp only [hg]
   split at hd
   · rename_i c hc
     simp only [hc]
     cases want
     · exact br_mono hd (hk _ _ _) (fun hd => dnOp_sound hd hk)
     · exact br_mono hd (fun hd => dnOp_sound hd hk) (hk _ _ _)
   · rename_i hc; simp only [hc]; exact hk _ _ _ hd
   · exact hd.elim
theorem dnL_sound : ∀ {l : List DOper} {s : St} {h : PHeap} {Q Q' : St → PHeap → Prop}, dnL P n l Q s h → (∀ s' h', Q s' h' → Q' s' h') → denL P n (eL l) Q' s h
 | [], s, h, Q, Q', hd, hq => hq _ _ hd
 | o :: l, s, h, Q, Q', hd, hq => by
   unfold dnL at hd
   simp only [eL]
   unfold denL
   refine dnG_sound hd fun x s' h' hh => ?_
   show match o.dst with
    | some d => match Nat.blt d n with
      | true => denL P n (eL l) Q' { s' with regs := upd s'.regs d x } h'
      | false => False
    | none => denL P n (eL l) Q' s' h'
   cases hdst : o.dst with
   | some d =>
     rw [hdst] at hh
     revert hh
     show (match Nat.blt d n with
      | true => dnL P n l Q { s' with regs := upd s'.regs d x } h'
      | false => False) → match Nat.blt d n with
      | true => denL P n (eL l) Q' { s' with regs := upd s'.regs d x } h'
      | false => False
     cases hb : Nat.blt d n
     · exact fun hh => hh
     · exact fun hh => dnL_sound hh hq
   | none => rw [hdst] at hh; exact dnL_sound hh hq
theorem dnTake_sound {op : DOp} {K K' : SV → Option (St → PHeap → Prop) → Prop} (hd : dnTake P op s h K) (hk : ∀ x S, K x S → K' x S) : denTake P (eOp op) s h K' := by
 unfold dnTake at hd
 split at hd
 · rename_i agg ks x
   simp only [eOp, denTake]
   split at hd
   · rename_i i off hx
     simp only [hx]
     split at hd
     · rename_i hb; simp only [hb]; exact hk _ _ hd
     · exact hd.elim
   · rename_i b off hx
     simp only [hx]
     obtain ⟨l, hl, hr, hd⟩ := exL_ex hd
     exact ⟨l, hl, hr, hk _ _ hd⟩
   · exact hd.elim
 · exact hd.elim
 · exact hd.elim
 · rename_i h1 h2 h3
   have := dnOp_sound (K' := fun x _ _ => K' x none) hd fun x _ _ hh => hk _ _ hh
   unfold denTake
   split
   · rename_i agg k x he
     cases op with
     | base op => simp only [eOp] at he; exact absurd (congrArg DOp.base he) (h2 _ _ _)
     | heap op => simp only [eOp] at he; exact absurd (congrArg DOp.heap he) (h3 _ _ _)
     | load agg ks x => exact absurd rfl (h1 _ _ _)
     | _ => simp only [eOp] at he; cases he
   · exact this
theorem dnTG_sound {o : DOper} {K K' : SV → St → Option (St → PHeap → Prop) → Prop} (hd : dnTG P o s h K) (hk : ∀ x s S, K x s S → K' x s S) : denTG P (eO o) s h K' := by
 unfold dnTG at hd
 unfold denTG
 simp only [eO]
 split at hd
 · rename_i hg; simp only [hg]; exact dnTake_sound hd fun x S => hk x s S
 · rename_i r want hg
   simp only [hg]
   split at hd
   · rename_i c hc
     simp only [hc]
     cases want
     · exact br_mono hd (hk _ _ _) (fun hd => dnTake_sound hd fun x S => hk x _ S)
     · exact br_mono hd (fun hd => dnTake_sound hd fun x S => hk x _ S) (hk _ _ _)
   · rename_i hc; simp only [hc]; exact hk _ _ _ hd
   · exact hd.elim
def eP (p : Nat × DOper) : Nat × SOper := (p.1, eO p.2)
theorem ready_map (done : List Nat) : ∀ (l : List (DOper × List Nat)) (i : Nat), readyL done i (eD l) = (readyD done i l).map eP
 | [], i => rfl
 | (o, af) :: l, i => by
   simp only [eD, readyL, readyD]
   cases hb : !memN i done && subN af done
   · exact ready_map done l _
   · simp only [List.map_cons, ready_map done l, eP]
theorem first_map : ∀ (l : List (Nat × DOper)), firstTake (l.map eP) = (firstD l).map eP
 | [] => rfl
 | (i, o) :: l => by
   simp only [List.map_cons, eP, firstTake, firstD, eO]
   cases hb : takeable (eOp o.op)
   · exact first_map l
   · rfl
theorem allR_map {p : Nat × DOper → Prop} {q : Nat × SOper → Prop} (hp : ∀ x, p x → q (eP x)) : ∀ {l : List (Nat × DOper)}, allR l p → allR (l.map eP) q
 | [], _ => trivial
 | [x], h => hp x h
 | x :: y :: l, h => ⟨hp x h.1, allR_map hp (l := y :: l) h.2⟩
theorem putD_mono2 {d : Option Nat} {x : SV} {K K' : St → Prop} (hd : putD n d x s K) (hk : ∀ s', K s' → K' s') : putD n d x s K' :=
 putD_mono hd fun s' h _ _ => hk s' h
theorem dnA_sound {l : List (DOper × List Nat)} {Q Q' : St → PHeap → Prop} (hq : ∀ s' h', Q s' h' → Q' s' h') : ∀ {fuel : Nat} {done : List Nat} {pen : Pen} {s : St} {h : PHeap}, dnA P n l Q fuel done pen s h → denA P n (eD l) Q' fuel done pen s h
 | 0, done, pen, s, h, hd => by
   unfold dnA at hd
   unfold denA
   rw [ready_map]
   cases hr : readyD done 0 l with
   | nil => rw [hr] at hd; exact hq _ _ hd
   | cons p ps => rw [hr] at hd; exact hd.elim
 | fuel + 1, done, pen, s, h, hd => by
   unfold dnA at hd
   unfold denA
   rw [ready_map]
   cases hr : readyD done 0 l with
   | nil => rw [hr] at hd; exact hq _ _ hd
   | cons p ps =>
     rw [hr] at hd
     simp only [List.map_cons] at hd ⊢
     have hf := first_map (p :: ps)
     simp only [List.map_cons] at hf
     cases hfd : firstD (p :: ps) with
     | some io =>
       obtain ⟨i, o⟩ := io
       rw [hfd] at hf hd
       rw [hf]
       exact dnTG_sound hd fun x s S hh => putD_mono2 hh fun s' hh => dnA_sound hq hh
     | none =>
       rw [hfd] at hf hd
       rw [hf]
       refine allR_map (l := p :: ps) (fun x hx => ?_) hd
       exact dnG_sound hx fun y s' h' hh => penOk_mono (fun _ hh => putD_mono2 hh fun s'' hh => dnA_sound hq hh) hh
theorem curV_len (s : St) : ∀ (lv : List (Nat × CK)), (curV s lv).length = lv.length
 | [] => rfl
 | (_, _) :: l => by simp [curV, curV_len s l]
theorem fitR_cons {f : Nat → SV} {j : Nat} {v : SV} {l : List (Nat × SV)} (h1 : f j = v) (h2 : fitR f l) : fitR f ((j, v) :: l) := by
 cases l with
 | nil => exact h1
 | cons x l => exact ⟨h1, h2⟩
theorem fit_mkV {s : St} {ws : List Nat} {k : Nat} {rest : List Value} : ∀ {lv : List (Nat × CK)}, okV s ws lv = true → fitR s.regs (mkV lv (curV s lv ++ rest)) ∧ ∀ vs, vOk k ws (mkV lv vs)
 | [], _ => ⟨trivial, fun _ => trivial⟩
 | (r, c) :: l, h => by
   simp only [okV, Bool.and_eq_true] at h
   obtain ⟨⟨h1, h2⟩, h3⟩ := h
   obtain ⟨i1, i2⟩ := fit_mkV (rest := rest) (k := k) h3
   refine ⟨?_, fun vs => ?_⟩
   · simp only [curV, List.cons_append, mkV]
     have hr : s.regs r = .val (s.vv (.tmp r)) := by
      unfold SV.isVal at h2
      simp only [St.vv, St.ev]
      split at h2
      · rename_i v hv; rw [hv]
      · cases h2
     exact fitR_cons hr i1
   · cases vs with
     | nil => trivial
     | cons v vs => simp only [mkV, vOk, h1, Bool.and_true]; exact i2 vs
theorem look_mkL {s : St} {k : Nat} : ∀ {lc : List (Nat × List CK)}, lenC s lc = true → (memI k lc = true → lookN k (mkL lc (curC s lc)) = some (s.locs k)) ∧ (memI k lc = false → lookN k (mkL lc (curC s lc)) = none)
 | [], _ => ⟨fun h => by (cases h), fun _ => rfl⟩
 | (i, ks) :: l, h => by
   simp only [lenC, Bool.and_eq_true] at h
   have hl := Nat.eq_of_beq_eq_true h.1
   obtain ⟨i1, i2⟩ := look_mkL (k := k) h.2
   simp only [memI, curC, mkL, ← hl, List.take_left, List.drop_left, lookN]
   by_cases e : k = i
   · subst e; rw [beqSelf]; exact ⟨fun _ => rfl, fun h => by cases h⟩
   · rw [beqNe e]; exact ⟨i1, i2⟩
theorem fitL_of {f g : Nat → List Value} : ∀ {k : Nat}, (∀ i, i < k → f i = g i) → fitL f g k
 | 0, _ => trivial
 | 1, h => h 0 (by omega)
 | k + 2, h => ⟨h _ (by omega), fitL_of fun i hi => h i (by omega)⟩
theorem keepC_get {f g : Nat → List Value} {lc : List (Nat × List CK)} : ∀ {k : Nat}, keepC f g lc k → ∀ i, i < k → memI i lc = false → f i = g i
 | 0, _, i, hi, _ => by omega
 | k + 1, h, i, hi, hm => by
   unfold keepC at h
   split at h
   · rename_i hk
     have : i ≠ k := fun e => by subst e; rw [hm] at hk; cases hk
     exact keepC_get h i (by omega) hm
   · by_cases e : i = k
     · subst e; exact h.1
     · exact keepC_get h.2 i (by omega) hm
theorem dn_sound : ∀ {c : DCode} {s : St} {h : PHeap} {Q Q' : Ex → St → PHeap → Prop}, dn P n c Q s h → (∀ e s' h', Q e s' h' → Q' e s' h') → den P n (eC c) Q' s h
 | .skip, s, h, Q, Q', hd, hq => hq _ _ _ hd
 | .bad, s, h, Q, Q', hd, hq => hd.elim
 | .ops l, s, h, Q, Q', hd, hq => dnL_sound hd fun s' h' => hq _ s' h'
 | .draw l, s, h, Q, Q', hd, hq => by
   have hlen : ∀ l : List (DOper × List Nat), (eD l).length = l.length := fun l => by
    induction l with
    | nil => rfl
    | cons x l ih => obtain ⟨o, af⟩ := x; simp [eD, ih]
   simp only [eC, den, hlen]
   exact dnA_sound (fun s' h' => hq _ s' h') hd
 | .seq a b, s, h, Q, Q', hd, hq => by
   simp only [eC, den]
   refine dn_sound (c := a) hd fun e s' h' hh => ?_
   cases e with
   | normal => exact dn_sound (c := b) hh hq
   | exit k => exact hq _ _ _ hh
   | ret => exact hq _ _ _ hh
 | .cond c a b, s, h, Q, Q', hd, hq => by
   simp only [dn] at hd
   simp only [eC, den]
   split at hd
   · rename_i b' hb
     simp only [hb]
     exact br_mono hd (fun hd => dn_sound (c := a) hd hq) (fun hd => dn_sound (c := b) hd hq)
   · exact hd.elim
 | .block id c, s, h, Q, Q', hd, hq => by
   simp only [eC, den]
   refine dn_sound (c := c) hd fun e s' h' hh => ?_
   cases e with
   | normal => exact hq _ _ _ hh
   | exit k =>
     simp only at hh ⊢
     split at hh
     · rename_i hb; simp only [hb]; exact hq _ _ _ hh
     · rename_i hb; simp only [hb]; exact hq _ _ _ hh
   | ret => exact hq _ _ _ hh
 | .exit k, s, h, Q, Q', hd, hq => hq _ _ _ hd
 | .ret, s, h, Q, Q', hd, hq => hq _ _ _ hd
 | .loop ws lv lc c, s, h, Q, Q', hd, hq => by
   simp only [dn] at hd
   simp only [eC, den]
   split at hd
   · rename_i lc' hok hidx
     split at hd
     · rename_i hlen
       obtain ⟨I, ⟨m0, h0⟩, hround⟩ := hd
       have hlocs : ∀ {s' : St}, lenC s' lc' = true → (∀ i, i < s.nl → memI i lc' = false → s'.locs i = s.locs i) →
        fitL s'.locs (mkSt s ws (mkV lv (curV s' lv ++ curC s' lc')) (mkL lc' ((curV s' lv ++ curC s' lc').drop lv.length))).locs s.nl := by
        intro s' hl hk
        refine fitL_of fun i hi => ?_
        simp only [mkSt]
        rw [← curV_len s' lv, List.drop_left]
        cases hm : memI i lc' with
        | true => rw [(look_mkL hl).1 hm]
        | false => rw [(look_mkL hl).2 hm]; exact hk i hi hm
       refine ⟨Nat × List Value, fun x h => appK (kinds lv lc) (I x.1) x.2 h, fun x => mkV lv x.2, fun x => mkL lc' (x.2.drop lv.length), fun x _ => x.1,
        ⟨(m0, curV s lv ++ curC s lc'), h0, (fit_mkV (k := 0) hok).1, hlocs hlen fun _ _ _ => rfl⟩, fun x => (fit_mkV (k := s.nl) (rest := []) hok).2 x.2, ?_⟩
       intro x h1 hI
       refine dn_sound (c := c) (allL_app (hround x.1) hI h1 hI) fun e s' h' hh => ?_
       cases e with
       | normal =>
         simp only at hh ⊢
         split at hh
         · rename_i hb
           simp only [Bool.and_eq_true] at hb
           obtain ⟨m', hlt, ha, hkeep⟩ := hh
           exact ⟨(m', curV s' lv ++ curC s' lc'), ha, hlt, (fit_mkV (k := 0) hb.1).1, hlocs hb.2 fun i hi hm => keepC_get hkeep i hi hm⟩
         · exact hh.elim
       | exit k => exact hq _ _ _ hh
       | ret => exact hq _ _ _ hh
     · exact hd.elim
   · exact hd.elim
theorem tri_of_dn {esc : Nat → Bool} (hm : P.follows .mixedOrders = true) {f : FuncId} {fn : Func} {c : Code} {dc : DCode} {rs : List SRes} {args : List Value} {h : PHeap} {Q : Value → PHeap → Prop}
 (hf : P.funcs[f]? = some fn) (hb : fn.body = some c) (hname : (fn.name == "runtime.NumGoroutine") = false) (hl : low P esc c = some (eC dc)) (hr : lowRes P fn.results.toList = some rs) (hn : Nat.ble args.length fn.ntmps = true)
 (hd : dnF P fn.ntmps dc rs args h Q) : Tri P f args h Q :=
 tri_of_den hm hf hb hname hl hr hn (dn_sound hd fun _ _ _ hh => hh)
end
end Go.Den
namespace Go.Den
open Go
abbrev OA := Option Addr
abbrev Bs := List UInt8
abbrev qi : CK := .int .i64
abbrev tv (l : List Value) : Prop := l = l
inductive An where
 | l (ks : List CK)
 | c (rk : RK)
 | d (rk : RK)
structure Ans where
 ops : List (Nat × An)
 st : List Nat
 lp : List (Nat × Nat × List (Nat × CK) × List (Nat × List CK))
def anOf (A : Ans) : Option Nat → Option An
 | some d => lookN d A.ops
 | none => none
def rkOf : Option An → RK
 | some (.c rk) => rk
 | some (.d rk) => rk
 | some (.l ks) => .one false ks
 | none => .tup []
def upOp (A : Ans) (d : Option Nat) : SOp → DOp
 | .load agg n x => match anOf A d with
   | some (.l ks) => .load agg ks x
   | _ => .base (.load agg n x)
 | .call f args => match anOf A d with
   | some (.d rk) => .callA f args rk
   | a => .call f args (rkOf a)
 | .puref op t => .puref op t (rkOf (anOf A d))
 | .raw op t => .raw op t (rkOf (anOf A d))
 | .alloc t z e => match e with
   | true => .heap (.alloc t z true)
   | false => .base (.alloc t z false)
 | .box t x e => match e with
   | true => .heap (.box t x true)
   | false => .base (.box t x false)
 | .buildSlice e n z ps => .heap (.buildSlice e n z ps)
 | .store n x v => match x with
   | .tmp t => match memN t A.st with
     | true => .heap (.store n (.tmp t) v)
     | false => .base (.store n (.tmp t) v)
   | x => .heap (.store n x v)
 | .indexAddr k x i => .indexAddr k x i
 | .sliceL k x lo hi => .sliceL k x lo hi
 | .bytesS x => .bytesS x
 | .pure op t => match op with
   | .makeFunc fn ⟨a⟩ ⟨b⟩ => match fn with
     | .func f => .mkF f a b t
     | fn => .base (.pure (.makeFunc fn ⟨a⟩ ⟨b⟩) t)
   | op => .base (.pure op t)
 | op => .base op
def upO (A : Ans) (o : SOper) : DOper := ⟨o.dst, upOp A o.dst o.op, o.guard⟩
def upL (A : Ans) : List SOper → List DOper
 | [] => []
 | o :: l => upO A o :: upL A l
def upD (A : Ans) : List (SOper × List Nat) → List (DOper × List Nat)
 | [] => []
 | (o, e) :: l => (upO A o, e) :: upD A l
def headN : List Nat → Nat
 | [] => 0
 | n :: _ => n
def lpOf (h n : Nat) : List (Nat × Nat × List (Nat × CK) × List (Nat × List CK)) → List (Nat × CK) × List (Nat × List CK)
 | [] => ([], [])
 | (a, b, r) :: l => match Nat.beq a h && Nat.beq b n with
   | true => r
   | false => lpOf h n l
def upC (A : Ans) : SCode → DCode
 | .skip => .skip
 | .bad => .bad
 | .ops l => .ops (upL A l)
 | .draw l => .draw (upD A l)
 | .seq a b => .seq (upC A a) (upC A b)
 | .cond c a b => .cond c (upC A a) (upC A b)
 | .block id c => .block id (upC A c)
 | .loop ws c => .loop ws (lpOf (headN ws) ws.length A.lp).1 (lpOf (headN ws) ws.length A.lp).2 (upC A c)
 | .exit id => .exit id
 | .ret => .ret
def up (A : Ans) : Option SCode → DCode
 | some c => upC A c
 | none => .bad
end Go.Den
