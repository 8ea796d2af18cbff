import Derived.Test.YtifjnoabmbckpaaGreatDoorNes1
import Derived.Test.YtifjnoabmbckpaaGreatDoorProg
import Derived.IntWalk
namespace Go.Proofs.D
open Go Go.Den
set_option maxRecDepth 100000
set_option maxHeartbeats 4000000
/- (*replevin/syntax.parser).declare -/
def d36 : DCode :=
  .seq (.ops [⟨some 2, .base (.alloc 56 [vI 0, vS [], vL none 0 0, vL none 0 0, vL none 0 0, vI 0, vI 0] false), none⟩])
 (.seq (.ops [⟨some 4, .base (.mv (.tmp 0)), none⟩,
  ⟨some 5, .call (.func 88) [.tmp 4, .const (vI 1)] (.one true [.int .i64, .str, .slice, .slice, .slice, .int .i64, .int .i64]), none⟩,
  ⟨some 3, .base (.alloc 56 [vI 0, vS [], vL none 0 0, vL none 0 0, vL none 0 0, vI 0, vI 0] false), none⟩,
  ⟨none, .base (.store 7 (.tmp 3) (.tmp 5)), none⟩])
 (.seq (.ops [⟨some 6, .base (.mv (.tmp 0)), none⟩,
  ⟨some 7, .call (.func 89) [.tmp 6, .const (vI 1)] (.one true [.int .i64, .str, .int .i64, .str, .int .i64, .int .i64]), none⟩,
  ⟨some 8, .base (.field false 1 1 (.tmp 7)), none⟩,
  ⟨some 9, .base (.fieldAddr 1 (.tmp 3)), none⟩,
  ⟨none, .base (.store 1 (.tmp 9) (.tmp 8)), none⟩])
 (.seq (.seq (.ops [⟨some 10, .base (.mv (.tmp 0)), none⟩,
  ⟨some 11, .call (.func 90) [.tmp 10, .const (vS [61])] (.one false [.bool]), none⟩])
 (.cond (.tmp 11) (.ops [⟨some 12, .base (.mv (.tmp 0)), none⟩,
    ⟨some 13, .call (.func 91) [.tmp 12] (.one true [.int .i64, .str, .str, .int .i64, .str, .slice, .int .i64, .int .i64]), none⟩,
    ⟨some 14, .heap (.buildSlice 48 1 [vI 0, vS [], vS [], vI 0, vS [], vL none 0 0, vI 0, vI 0] [(0, 8, .tmp 13)]), none⟩,
    ⟨some 15, .base (.fieldAddr 2 (.tmp 3)), none⟩,
    ⟨none, .base (.store 1 (.tmp 15) (.tmp 14)), none⟩])
 (.skip)))
 (.seq (.ops [⟨some 16, .base (.mv (.tmp 0)), none⟩,
  ⟨some 17, .call (.func 92) [.tmp 16, .const (vS [59])] (.tup []), none⟩])
 (.seq (.ops [⟨some 18, .load true [.int .i64, .str, .slice, .slice, .slice, .int .i64, .int .i64] (.tmp 3), none⟩,
  ⟨none, .base (.store 7 (.tmp 2) (.tmp 18)), none⟩])
 (.ret))))))
theorem low36 : low Tryz.prog (fun _ => false) (Tryz.f36.body.getD .skip) = some (eC d36) := by kernel_rfl
theorem res36 : lowRes Tryz.prog Tryz.f36.results.toList = some [.cell 2 true 7] := by kernel_rfl
def R36 (xb1 : Nat) (xo1 : Nat) (h : PHeap) (Q : Value → PHeap → Prop) : Prop :=
  Tri Tryz.prog 88 [vP xb1 xo1, vI 1] h fun v_1 h_1 =>
  ∃ (Kind1 : Int) (Name1 : List UInt8) (Argsa1 : Option Addr) (Argsn1 Argsc1 : Nat) (Bodya1 : Option Addr) (Bodyn1 Bodyc1 : Nat) (Elsea1 : Option Addr) (Elsen1 Elsec1 : Nat) (Line1 Column1 : Int), v_1 = vA [vI Kind1, vS Name1, vL Argsa1 Argsn1 Argsc1, vL Bodya1 Bodyn1 Bodyc1, vL Elsea1 Elsen1 Elsec1, vI Line1, vI Column1] ∧
  Tri Tryz.prog 89 [vP xb1 xo1, vI 1] h_1 fun v_2 h_2 =>
  ∃ (Kind2 : Int) (Text1 : List UInt8) (Value1 : Int) (Bytes1 : List UInt8) (Line2 Column2 : Int), v_2 = vA [vI Kind2, vS Text1, vI Value1, vS Bytes1, vI Line2, vI Column2] ∧
  Tri Tryz.prog 90 [vP xb1 xo1, vS [61]] h_2 fun v_3 h_3 =>
  ∃ (c1 : Bool), v_3 = vB c1 ∧
  br c1
  (Tri Tryz.prog 91 [vP xb1 xo1] h_3 fun v_4 h_4 =>
    ∃ (Kind3 : Int) (Op1 Name2 : List UInt8) (Value2 : Int) (Text2 : List UInt8) (Argsa2 : Option Addr) (Argsn2 Argsc2 : Nat) (Line3 Column3 : Int), v_4 = vA [vI Kind3, vS Op1, vS Name2, vI Value2, vS Text2, vL Argsa2 Argsn2 Argsc2, vI Line3, vI Column3] ∧
    ∀ (b1 : Nat), h_4 b1 = none → ∀ (h_5 : PHeap), h_5 = h_4.put b1 (.cells ⟨[vI Kind3, vS Op1, vS Name2, vI Value2, vS Text2, vL Argsa2 Argsn2 Argsc2, vI Line3, vI Column3]⟩ 48) →
    Tri Tryz.prog 92 [vP xb1 xo1, vS [59]] h_5 fun v_5 h_6 =>
    v_5 = vT [] ∧
    Q (vA [vI Kind1, vS Text1, vL (ad b1 0) 1 1, vL Bodya1 Bodyn1 Bodyc1, vL Elsea1 Elsen1 Elsec1, vI Line1, vI Column1]) h_6)
  (Tri Tryz.prog 92 [vP xb1 xo1, vS [59]] h_3 fun v_6 h_7 =>
    v_6 = vT [] ∧
    Q (vA [vI Kind1, vS Text1, vL Argsa1 Argsn1 Argsc1, vL Bodya1 Bodyn1 Bodyc1, vL Elsea1 Elsen1 Elsec1, vI Line1, vI Column1]) h_7)
theorem e36 (xb1 : Nat) (xo1 : Nat) (h : PHeap) (Q : Value → PHeap → Prop) : dnF Tryz.prog Tryz.f36.ntmps d36 [.cell 2 true 7] [vP xb1 xo1] h Q = R36 xb1 xo1 h Q := by kernel_rfl
theorem T36 {xb1 : Nat} {xo1 : Nat} {h : PHeap} {Q : Value → PHeap → Prop} (hR : R36 xb1 xo1 h Q) : Tri Tryz.prog 36 [vP xb1 xo1] h Q :=
  tri_of_dn mixed Tryz.func36 rfl (by kernel_rfl) low36 res36 rfl (Eq.mpr (e36 xb1 xo1 h Q) hR)
/- (*replevin/syntax.parser).ifStmt -/
def d37 : DCode :=
  .seq (.ops [⟨some 2, .base (.alloc 56 [vI 0, vS [], vL none 0 0, vL none 0 0, vL none 0 0, vI 0, vI 0] false), none⟩])
 (.seq (.ops [⟨some 4, .base (.mv (.tmp 0)), none⟩,
  ⟨some 5, .call (.func 88) [.tmp 4, .const (vI 5)] (.one true [.int .i64, .str, .slice, .slice, .slice, .int .i64, .int .i64]), none⟩,
  ⟨some 3, .base (.alloc 56 [vI 0, vS [], vL none 0 0, vL none 0 0, vL none 0 0, vI 0, vI 0] false), none⟩,
  ⟨none, .base (.store 7 (.tmp 3) (.tmp 5)), none⟩])
 (.seq (.ops [⟨some 6, .base (.mv (.tmp 0)), none⟩,
  ⟨some 7, .call (.func 93) [.tmp 6] (.one false [.slice]), none⟩,
  ⟨some 8, .base (.fieldAddr 2 (.tmp 3)), none⟩,
  ⟨none, .base (.store 1 (.tmp 8) (.tmp 7)), none⟩])
 (.seq (.ops [⟨some 9, .base (.mv (.tmp 0)), none⟩,
  ⟨some 10, .call (.func 94) [.tmp 9] (.one false [.slice]), none⟩,
  ⟨some 11, .base (.fieldAddr 3 (.tmp 3)), none⟩,
  ⟨none, .base (.store 1 (.tmp 11) (.tmp 10)), none⟩])
 (.seq (.seq (.ops [⟨some 12, .base (.mv (.tmp 0)), none⟩,
  ⟨some 13, .call (.func 90) [.tmp 12, .const (vS [101, 108, 115, 101])] (.one false [.bool]), none⟩])
 (.cond (.tmp 13) (.seq (.ops [⟨some 14, .base (.mv (.tmp 0)), none⟩,
    ⟨some 15, .call (.func 44) [.tmp 14, .const (vS [105, 102])] (.one false [.bool]), none⟩])
   (.cond (.tmp 15) (.ops [⟨some 16, .base (.mv (.tmp 0)), none⟩,
      ⟨some 17, .call (.func 37) [.tmp 16] (.one true [.int .i64, .str, .slice, .slice, .slice, .int .i64, .int .i64]), none⟩,
      ⟨some 18, .heap (.buildSlice 56 1 [vI 0, vS [], vL none 0 0, vL none 0 0, vL none 0 0, vI 0, vI 0] [(0, 7, .tmp 17)]), none⟩,
      ⟨some 19, .base (.fieldAddr 4 (.tmp 3)), none⟩,
      ⟨none, .base (.store 1 (.tmp 19) (.tmp 18)), none⟩])
   (.ops [⟨some 20, .base (.mv (.tmp 0)), none⟩,
      ⟨some 21, .call (.func 94) [.tmp 20] (.one false [.slice]), none⟩,
      ⟨some 22, .base (.fieldAddr 4 (.tmp 3)), none⟩,
      ⟨none, .base (.store 1 (.tmp 22) (.tmp 21)), none⟩])))
 (.skip)))
 (.seq (.ops [⟨some 23, .load true [.int .i64, .str, .slice, .slice, .slice, .int .i64, .int .i64] (.tmp 3), none⟩,
  ⟨none, .base (.store 7 (.tmp 2) (.tmp 23)), none⟩])
 (.ret))))))
theorem low37 : low Tryz.prog (fun _ => false) (Tryz.f37.body.getD .skip) = some (eC d37) := by kernel_rfl
theorem res37 : lowRes Tryz.prog Tryz.f37.results.toList = some [.cell 2 true 7] := by kernel_rfl
def R37 (xb1 : Nat) (xo1 : Nat) (h : PHeap) (Q : Value → PHeap → Prop) : Prop :=
  Tri Tryz.prog 88 [vP xb1 xo1, vI 5] h fun v_1 h_1 =>
  ∃ (Kind1 : Int) (Name1 : List UInt8) (Argsa1 : Option Addr) (Argsn1 Argsc1 : Nat) (Bodya1 : Option Addr) (Bodyn1 Bodyc1 : Nat) (Elsea1 : Option Addr) (Elsen1 Elsec1 : Nat) (Line1 Column1 : Int), v_1 = vA [vI Kind1, vS Name1, vL Argsa1 Argsn1 Argsc1, vL Bodya1 Bodyn1 Bodyc1, vL Elsea1 Elsen1 Elsec1, vI Line1, vI Column1] ∧
  Tri Tryz.prog 93 [vP xb1 xo1] h_1 fun v_2 h_2 =>
  ∃ (sa1 : Option Addr) (sn1 sc1 : Nat), v_2 = vL sa1 sn1 sc1 ∧
  Tri Tryz.prog 94 [vP xb1 xo1] h_2 fun v_3 h_3 =>
  ∃ (sa2 : Option Addr) (sn2 sc2 : Nat), v_3 = vL sa2 sn2 sc2 ∧
  Tri Tryz.prog 90 [vP xb1 xo1, vS [101, 108, 115, 101]] h_3 fun v_4 h_4 =>
  ∃ (c1 : Bool), v_4 = vB c1 ∧
  br c1
  (Tri Tryz.prog 44 [vP xb1 xo1, vS [105, 102]] h_4 fun v_5 h_5 =>
    ∃ (c2 : Bool), v_5 = vB c2 ∧
    br c2
    (Tri Tryz.prog 37 [vP xb1 xo1] h_5 fun v_6 h_6 =>
      ∃ (Kind2 : Int) (Name2 : List UInt8) (Argsa2 : Option Addr) (Argsn2 Argsc2 : Nat) (Bodya2 : Option Addr) (Bodyn2 Bodyc2 : Nat) (Elsea2 : Option Addr) (Elsen2 Elsec2 : Nat) (Line2 Column2 : Int), v_6 = vA [vI Kind2, vS Name2, vL Argsa2 Argsn2 Argsc2, vL Bodya2 Bodyn2 Bodyc2, vL Elsea2 Elsen2 Elsec2, vI Line2, vI Column2] ∧
      ∀ (b1 : Nat), h_6 b1 = none → ∀ (h_7 : PHeap), h_7 = h_6.put b1 (.cells ⟨[vI Kind2, vS Name2, vL Argsa2 Argsn2 Argsc2, vL Bodya2 Bodyn2 Bodyc2, vL Elsea2 Elsen2 Elsec2, vI Line2, vI Column2]⟩ 56) →
      Q (vA [vI Kind1, vS Name1, vL sa1 sn1 sc1, vL sa2 sn2 sc2, vL (ad b1 0) 1 1, vI Line1, vI Column1]) h_7)
    (Tri Tryz.prog 94 [vP xb1 xo1] h_5 fun v_7 h_8 =>
      ∃ (sa3 : Option Addr) (sn3 sc3 : Nat), v_7 = vL sa3 sn3 sc3 ∧
      Q (vA [vI Kind1, vS Name1, vL sa1 sn1 sc1, vL sa2 sn2 sc2, vL sa3 sn3 sc3, vI Line1, vI Column1]) h_8))
  (Q (vA [vI Kind1, vS Name1, vL sa1 sn1 sc1, vL sa2 sn2 sc2, vL Elsea1 Elsen1 Elsec1, vI Line1, vI Column1]) h_4)
theorem e37 (xb1 : Nat) (xo1 : Nat) (h : PHeap) (Q : Value → PHeap → Prop) : dnF Tryz.prog Tryz.f37.ntmps d37 [.cell 2 true 7] [vP xb1 xo1] h Q = R37 xb1 xo1 h Q := by kernel_rfl
theorem T37 {xb1 : Nat} {xo1 : Nat} {h : PHeap} {Q : Value → PHeap → Prop} (hR : R37 xb1 xo1 h Q) : Tri Tryz.prog 37 [vP xb1 xo1] h Q :=
  tri_of_dn mixed Tryz.func37 rfl (by kernel_rfl) low37 res37 rfl (Eq.mpr (e37 xb1 xo1 h Q) hR)
/- (*replevin/syntax.parser).while -/
def d38 : DCode :=
  .seq (.ops [⟨some 2, .base (.alloc 56 [vI 0, vS [], vL none 0 0, vL none 0 0, vL none 0 0, vI 0, vI 0] false), none⟩])
 (.seq (.ops [⟨some 4, .base (.mv (.tmp 0)), none⟩,
  ⟨some 5, .call (.func 88) [.tmp 4, .const (vI 6)] (.one true [.int .i64, .str, .slice, .slice, .slice, .int .i64, .int .i64]), none⟩,
  ⟨some 3, .base (.alloc 56 [vI 0, vS [], vL none 0 0, vL none 0 0, vL none 0 0, vI 0, vI 0] false), none⟩,
  ⟨none, .base (.store 7 (.tmp 3) (.tmp 5)), none⟩])
 (.seq (.ops [⟨some 6, .base (.mv (.tmp 0)), none⟩,
  ⟨some 7, .call (.func 93) [.tmp 6] (.one false [.slice]), none⟩,
  ⟨some 8, .base (.fieldAddr 2 (.tmp 3)), none⟩,
  ⟨none, .base (.store 1 (.tmp 8) (.tmp 7)), none⟩])
 (.seq (.ops [⟨some 9, .base (.mv (.tmp 0)), none⟩,
  ⟨some 10, .call (.func 94) [.tmp 9] (.one false [.slice]), none⟩,
  ⟨some 11, .base (.fieldAddr 3 (.tmp 3)), none⟩,
  ⟨none, .base (.store 1 (.tmp 11) (.tmp 10)), none⟩])
 (.seq (.ops [⟨some 12, .load true [.int .i64, .str, .slice, .slice, .slice, .int .i64, .int .i64] (.tmp 3), none⟩,
  ⟨none, .base (.store 7 (.tmp 2) (.tmp 12)), none⟩])
 (.ret)))))
theorem low38 : low Tryz.prog (fun _ => false) (Tryz.f38.body.getD .skip) = some (eC d38) := by kernel_rfl
theorem res38 : lowRes Tryz.prog Tryz.f38.results.toList = some [.cell 2 true 7] := by kernel_rfl
def R38 (xb1 : Nat) (xo1 : Nat) (h : PHeap) (Q : Value → PHeap → Prop) : Prop :=
  Tri Tryz.prog 88 [vP xb1 xo1, vI 6] h fun v_1 h_1 =>
  ∃ (Kind1 : Int) (Name1 : List UInt8) (Argsa1 : Option Addr) (Argsn1 Argsc1 : Nat) (Bodya1 : Option Addr) (Bodyn1 Bodyc1 : Nat) (Elsea1 : Option Addr) (Elsen1 Elsec1 : Nat) (Line1 Column1 : Int), v_1 = vA [vI Kind1, vS Name1, vL Argsa1 Argsn1 Argsc1, vL Bodya1 Bodyn1 Bodyc1, vL Elsea1 Elsen1 Elsec1, vI Line1, vI Column1] ∧
  Tri Tryz.prog 93 [vP xb1 xo1] h_1 fun v_2 h_2 =>
  ∃ (sa1 : Option Addr) (sn1 sc1 : Nat), v_2 = vL sa1 sn1 sc1 ∧
  Tri Tryz.prog 94 [vP xb1 xo1] h_2 fun v_3 h_3 =>
  ∃ (sa2 : Option Addr) (sn2 sc2 : Nat), v_3 = vL sa2 sn2 sc2 ∧
  Q (vA [vI Kind1, vS Name1, vL sa1 sn1 sc1, vL sa2 sn2 sc2, vL Elsea1 Elsen1 Elsec1, vI Line1, vI Column1]) h_3
theorem e38 (xb1 : Nat) (xo1 : Nat) (h : PHeap) (Q : Value → PHeap → Prop) : dnF Tryz.prog Tryz.f38.ntmps d38 [.cell 2 true 7] [vP xb1 xo1] h Q = R38 xb1 xo1 h Q := by kernel_rfl
theorem T38 {xb1 : Nat} {xo1 : Nat} {h : PHeap} {Q : Value → PHeap → Prop} (hR : R38 xb1 xo1 h Q) : Tri Tryz.prog 38 [vP xb1 xo1] h Q :=
  tri_of_dn mixed Tryz.func38 rfl (by kernel_rfl) low38 res38 rfl (Eq.mpr (e38 xb1 xo1 h Q) hR)
/- (*replevin/syntax.parser).returnStmt -/
abbrev o39_0 : Op := .unOp Go.UnOp.not 4 (Go.Operand.tmp 7)
def d39 : DCode :=
  .seq (.ops [⟨some 2, .base (.alloc 56 [vI 0, vS [], vL none 0 0, vL none 0 0, vL none 0 0, vI 0, vI 0] false), none⟩])
 (.seq (.ops [⟨some 4, .base (.mv (.tmp 0)), none⟩,
  ⟨some 5, .call (.func 88) [.tmp 4, .const (vI 7)] (.one true [.int .i64, .str, .slice, .slice, .slice, .int .i64, .int .i64]), none⟩,
  ⟨some 3, .base (.alloc 56 [vI 0, vS [], vL none 0 0, vL none 0 0, vL none 0 0, vI 0, vI 0] false), none⟩,
  ⟨none, .base (.store 7 (.tmp 3) (.tmp 5)), none⟩])
 (.seq (.seq (.ops [⟨some 6, .base (.mv (.tmp 0)), none⟩,
  ⟨some 7, .call (.func 44) [.tmp 6, .const (vS [59])] (.one false [.bool]), none⟩,
  ⟨some 8, .base (.pure o39_0 4), none⟩])
 (.cond (.tmp 8) (.ops [⟨some 9, .base (.mv (.tmp 0)), none⟩,
    ⟨some 10, .call (.func 91) [.tmp 9] (.one true [.int .i64, .str, .str, .int .i64, .str, .slice, .int .i64, .int .i64]), none⟩,
    ⟨some 11, .heap (.buildSlice 48 1 [vI 0, vS [], vS [], vI 0, vS [], vL none 0 0, vI 0, vI 0] [(0, 8, .tmp 10)]), none⟩,
    ⟨some 12, .base (.fieldAddr 2 (.tmp 3)), none⟩,
    ⟨none, .base (.store 1 (.tmp 12) (.tmp 11)), none⟩])
 (.skip)))
 (.seq (.ops [⟨some 13, .base (.mv (.tmp 0)), none⟩,
  ⟨some 14, .call (.func 92) [.tmp 13, .const (vS [59])] (.tup []), none⟩])
 (.seq (.ops [⟨some 15, .load true [.int .i64, .str, .slice, .slice, .slice, .int .i64, .int .i64] (.tmp 3), none⟩,
  ⟨none, .base (.store 7 (.tmp 2) (.tmp 15)), none⟩])
 (.ret)))))
theorem low39 : low Tryz.prog (fun _ => false) (Tryz.f39.body.getD .skip) = some (eC d39) := by kernel_rfl
theorem res39 : lowRes Tryz.prog Tryz.f39.results.toList = some [.cell 2 true 7] := by kernel_rfl
def R39 (xb1 : Nat) (xo1 : Nat) (h : PHeap) (Q : Value → PHeap → Prop) : Prop :=
  Tri Tryz.prog 88 [vP xb1 xo1, vI 7] h fun v_1 h_1 =>
  ∃ (Kind1 : Int) (Name1 : List UInt8) (Argsa1 : Option Addr) (Argsn1 Argsc1 : Nat) (Bodya1 : Option Addr) (Bodyn1 Bodyc1 : Nat) (Elsea1 : Option Addr) (Elsen1 Elsec1 : Nat) (Line1 Column1 : Int), v_1 = vA [vI Kind1, vS Name1, vL Argsa1 Argsn1 Argsc1, vL Bodya1 Bodyn1 Bodyc1, vL Elsea1 Elsen1 Elsec1, vI Line1, vI Column1] ∧
  Tri Tryz.prog 44 [vP xb1 xo1, vS [59]] h_1 fun v_2 h_2 =>
  ∃ (c1 : Bool), v_2 = vB c1 ∧
  br (!c1)
  (Tri Tryz.prog 91 [vP xb1 xo1] h_2 fun v_3 h_3 =>
    ∃ (Kind2 : Int) (Op1 Name2 : List UInt8) (Value1 : Int) (Text1 : List UInt8) (Argsa2 : Option Addr) (Argsn2 Argsc2 : Nat) (Line2 Column2 : Int), v_3 = vA [vI Kind2, vS Op1, vS Name2, vI Value1, vS Text1, vL Argsa2 Argsn2 Argsc2, vI Line2, vI Column2] ∧
    ∀ (b1 : Nat), h_3 b1 = none → ∀ (h_4 : PHeap), h_4 = h_3.put b1 (.cells ⟨[vI Kind2, vS Op1, vS Name2, vI Value1, vS Text1, vL Argsa2 Argsn2 Argsc2, vI Line2, vI Column2]⟩ 48) →
    Tri Tryz.prog 92 [vP xb1 xo1, vS [59]] h_4 fun v_4 h_5 =>
    v_4 = vT [] ∧
    Q (vA [vI Kind1, vS Name1, vL (ad b1 0) 1 1, vL Bodya1 Bodyn1 Bodyc1, vL Elsea1 Elsen1 Elsec1, vI Line1, vI Column1]) h_5)
  (Tri Tryz.prog 92 [vP xb1 xo1, vS [59]] h_2 fun v_5 h_6 =>
    v_5 = vT [] ∧
    Q (vA [vI Kind1, vS Name1, vL Argsa1 Argsn1 Argsc1, vL Bodya1 Bodyn1 Bodyc1, vL Elsea1 Elsen1 Elsec1, vI Line1, vI Column1]) h_6)
theorem e39 (xb1 : Nat) (xo1 : Nat) (h : PHeap) (Q : Value → PHeap → Prop) : dnF Tryz.prog Tryz.f39.ntmps d39 [.cell 2 true 7] [vP xb1 xo1] h Q = R39 xb1 xo1 h Q := by kernel_rfl
theorem T39 {xb1 : Nat} {xo1 : Nat} {h : PHeap} {Q : Value → PHeap → Prop} (hR : R39 xb1 xo1 h Q) : Tri Tryz.prog 39 [vP xb1 xo1] h Q :=
  tri_of_dn mixed Tryz.func39 rfl (by kernel_rfl) low39 res39 rfl (Eq.mpr (e39 xb1 xo1 h Q) hR)
/- replevin/syntax.Parse_1 -/
def d40 : DCode :=
  .seq (.ops [⟨some 1, .base (.alloc 56 [vI 0, vS [], vL none 0 0, vL none 0 0, vL none 0 0, vI 0, vI 0] false), none⟩])
 (.seq (.ops [⟨some 2, .load false [.ptr] (.tmp 0), none⟩,
  ⟨some 3, .call (.func 41) [.tmp 2, .const (vI 8)] (.one true [.int .i64, .str, .slice, .slice, .slice, .int .i64, .int .i64]), none⟩,
  ⟨none, .base (.store 7 (.tmp 1) (.tmp 3)), none⟩])
 (.ret))
theorem low40 : low Tryz.prog (fun _ => false) (Tryz.f40.body.getD .skip) = some (eC d40) := by kernel_rfl
theorem res40 : lowRes Tryz.prog Tryz.f40.results.toList = some [.cell 1 true 7] := by kernel_rfl
def R40 (fvb1 : Nat) (fvo1 : Nat) (h : PHeap) (Q : Value → PHeap → Prop) : Prop :=
  ∃ (pb1 po1 : Nat), h.cell fvb1 fvo1 = some (vP pb1 po1) ∧
  Tri Tryz.prog 41 [vP pb1 po1, vI 8] h fun v_1 h_1 =>
  ∃ (Kind1 : Int) (Name1 : List UInt8) (Argsa1 : Option Addr) (Argsn1 Argsc1 : Nat) (Bodya1 : Option Addr) (Bodyn1 Bodyc1 : Nat) (Elsea1 : Option Addr) (Elsen1 Elsec1 : Nat) (Line1 Column1 : Int), v_1 = vA [vI Kind1, vS Name1, vL Argsa1 Argsn1 Argsc1, vL Bodya1 Bodyn1 Bodyc1, vL Elsea1 Elsen1 Elsec1, vI Line1, vI Column1] ∧
  Q (vA [vI Kind1, vS Name1, vL Argsa1 Argsn1 Argsc1, vL Bodya1 Bodyn1 Bodyc1, vL Elsea1 Elsen1 Elsec1, vI Line1, vI Column1]) h_1
theorem e40 (fvb1 : Nat) (fvo1 : Nat) (h : PHeap) (Q : Value → PHeap → Prop) : dnF Tryz.prog Tryz.f40.ntmps d40 [.cell 1 true 7] [vP fvb1 fvo1] h Q = R40 fvb1 fvo1 h Q := by kernel_rfl
theorem T40 {fvb1 : Nat} {fvo1 : Nat} {h : PHeap} {Q : Value → PHeap → Prop} (hR : R40 fvb1 fvo1 h Q) : Tri Tryz.prog 40 [vP fvb1 fvo1] h Q :=
  tri_of_dn mixed Tryz.func40 rfl (by kernel_rfl) low40 res40 rfl (Eq.mpr (e40 fvb1 fvo1 h Q) hR)
/- (*replevin/syntax.parser).word -/
def d41 : DCode :=
  .seq (.ops [⟨some 4, .base (.alloc 56 [vI 0, vS [], vL none 0 0, vL none 0 0, vL none 0 0, vI 0, vI 0] false), none⟩])
 (.seq (.ops [⟨some 6, .base (.mv (.tmp 0)), none⟩,
  ⟨some 7, .base (.mv (.tmp 1)), none⟩,
  ⟨some 8, .call (.func 88) [.tmp 6, .tmp 7] (.one true [.int .i64, .str, .slice, .slice, .slice, .int .i64, .int .i64]), none⟩,
  ⟨some 5, .base (.alloc 56 [vI 0, vS [], vL none 0 0, vL none 0 0, vL none 0 0, vI 0, vI 0] false), none⟩,
  ⟨none, .base (.store 7 (.tmp 5) (.tmp 8)), none⟩])
 (.seq (.ops [⟨some 9, .base (.mv (.tmp 0)), none⟩,
  ⟨some 10, .call (.func 92) [.tmp 9, .const (vS [59])] (.tup []), none⟩])
 (.seq (.ops [⟨some 11, .load true [.int .i64, .str, .slice, .slice, .slice, .int .i64, .int .i64] (.tmp 5), none⟩,
  ⟨none, .base (.store 7 (.tmp 4) (.tmp 11)), none⟩])
 (.ret))))
theorem low41 : low Tryz.prog (fun _ => false) (Tryz.f41.body.getD .skip) = some (eC d41) := by kernel_rfl
theorem res41 : lowRes Tryz.prog Tryz.f41.results.toList = some [.cell 4 true 7] := by kernel_rfl
def R41 (xb1 : Nat) (xo1 : Nat) (kind1 : Int) (h : PHeap) (Q : Value → PHeap → Prop) : Prop :=
  Tri Tryz.prog 88 [vP xb1 xo1, vI kind1] h fun v_1 h_1 =>
  ∃ (Kind1 : Int) (Name1 : List UInt8) (Argsa1 : Option Addr) (Argsn1 Argsc1 : Nat) (Bodya1 : Option Addr) (Bodyn1 Bodyc1 : Nat) (Elsea1 : Option Addr) (Elsen1 Elsec1 : Nat) (Line1 Column1 : Int), v_1 = vA [vI Kind1, vS Name1, vL Argsa1 Argsn1 Argsc1, vL Bodya1 Bodyn1 Bodyc1, vL Elsea1 Elsen1 Elsec1, vI Line1, vI Column1] ∧
  Tri Tryz.prog 92 [vP xb1 xo1, vS [59]] h_1 fun v_2 h_2 =>
  v_2 = vT [] ∧
  Q (vA [vI Kind1, vS Name1, vL Argsa1 Argsn1 Argsc1, vL Bodya1 Bodyn1 Bodyc1, vL Elsea1 Elsen1 Elsec1, vI Line1, vI Column1]) h_2
theorem e41 (xb1 : Nat) (xo1 : Nat) (kind1 : Int) (h : PHeap) (Q : Value → PHeap → Prop) : dnF Tryz.prog Tryz.f41.ntmps d41 [.cell 4 true 7] [vP xb1 xo1, vI kind1] h Q = R41 xb1 xo1 kind1 h Q := by kernel_rfl
theorem T41 {xb1 : Nat} {xo1 : Nat} {kind1 : Int} {h : PHeap} {Q : Value → PHeap → Prop} (hR : R41 xb1 xo1 kind1 h Q) : Tri Tryz.prog 41 [vP xb1 xo1, vI kind1] h Q :=
  tri_of_dn mixed Tryz.func41 rfl (by kernel_rfl) low41 res41 rfl (Eq.mpr (e41 xb1 xo1 kind1 h Q) hR)
/- replevin/syntax.Parse_2 -/
def d42 : DCode :=
  .seq (.ops [⟨some 1, .base (.alloc 56 [vI 0, vS [], vL none 0 0, vL none 0 0, vL none 0 0, vI 0, vI 0] false), none⟩])
 (.seq (.ops [⟨some 2, .load false [.ptr] (.tmp 0), none⟩,
  ⟨some 3, .call (.func 41) [.tmp 2, .const (vI 9)] (.one true [.int .i64, .str, .slice, .slice, .slice, .int .i64, .int .i64]), none⟩,
  ⟨none, .base (.store 7 (.tmp 1) (.tmp 3)), none⟩])
 (.ret))
theorem low42 : low Tryz.prog (fun _ => false) (Tryz.f42.body.getD .skip) = some (eC d42) := by kernel_rfl
theorem res42 : lowRes Tryz.prog Tryz.f42.results.toList = some [.cell 1 true 7] := by kernel_rfl
def R42 (fvb1 : Nat) (fvo1 : Nat) (h : PHeap) (Q : Value → PHeap → Prop) : Prop :=
  ∃ (pb1 po1 : Nat), h.cell fvb1 fvo1 = some (vP pb1 po1) ∧
  Tri Tryz.prog 41 [vP pb1 po1, vI 9] h fun v_1 h_1 =>
  ∃ (Kind1 : Int) (Name1 : List UInt8) (Argsa1 : Option Addr) (Argsn1 Argsc1 : Nat) (Bodya1 : Option Addr) (Bodyn1 Bodyc1 : Nat) (Elsea1 : Option Addr) (Elsen1 Elsec1 : Nat) (Line1 Column1 : Int), v_1 = vA [vI Kind1, vS Name1, vL Argsa1 Argsn1 Argsc1, vL Bodya1 Bodyn1 Bodyc1, vL Elsea1 Elsen1 Elsec1, vI Line1, vI Column1] ∧
  Q (vA [vI Kind1, vS Name1, vL Argsa1 Argsn1 Argsc1, vL Bodya1 Bodyn1 Bodyc1, vL Elsea1 Elsen1 Elsec1, vI Line1, vI Column1]) h_1
theorem e42 (fvb1 : Nat) (fvo1 : Nat) (h : PHeap) (Q : Value → PHeap → Prop) : dnF Tryz.prog Tryz.f42.ntmps d42 [.cell 1 true 7] [vP fvb1 fvo1] h Q = R42 fvb1 fvo1 h Q := by kernel_rfl
theorem T42 {fvb1 : Nat} {fvo1 : Nat} {h : PHeap} {Q : Value → PHeap → Prop} (hR : R42 fvb1 fvo1 h Q) : Tri Tryz.prog 42 [vP fvb1 fvo1] h Q :=
  tri_of_dn mixed Tryz.func42 rfl (by kernel_rfl) low42 res42 rfl (Eq.mpr (e42 fvb1 fvo1 h Q) hR)
/- (*replevin/syntax.parser).isKind -/
abbrev o43_0 : Op := .binOp Go.BinOp.eql 27 (Go.Operand.tmp 8) (Go.Operand.const (vI 0)) 27
abbrev o43_1 : Op := .binOp Go.BinOp.eql 3 (Go.Operand.tmp 17) (Go.Operand.tmp 18) 3
def d43 : DCode :=
  .seq (.ops [⟨some 4, .base (.mv (.const (vB false))), none⟩])
 (.seq (.ops [⟨some 5, .base (.mv (.tmp 0)), none⟩,
  ⟨some 6, .base (.nilCheck (.tmp 5)), none⟩,
  ⟨some 7, .base (.fieldAddr 5 (.tmp 6)), none⟩,
  ⟨some 8, .load false [.int .i64] (.tmp 7), none⟩,
  ⟨some 9, .base (.pure o43_0 4), none⟩,
  ⟨some 10, .base (.mv (.tmp 9)), none⟩,
  ⟨some 11, .base (.mv (.tmp 0)), some (10, true)⟩,
  ⟨some 12, .base (.nilCheck (.tmp 11)), some (10, true)⟩,
  ⟨some 13, .base (.fieldAddr 0 (.tmp 12)), some (10, true)⟩,
  ⟨some 14, .load false [.slice] (.tmp 13), some (10, true)⟩,
  ⟨some 15, .indexAddr 6 (.tmp 14) (.const (vI 0)), some (10, true)⟩,
  ⟨some 16, .base (.fieldAddr 0 (.tmp 15)), some (10, true)⟩,
  ⟨some 17, .load false [.int .i64] (.tmp 16), some (10, true)⟩,
  ⟨some 18, .base (.mv (.tmp 1)), some (10, true)⟩,
  ⟨some 19, .base (.pure o43_1 4), some (10, true)⟩,
  ⟨some 20, .base (.pick (.tmp 10) (.tmp 19) (.const (vB false))), none⟩,
  ⟨some 4, .base (.mv (.tmp 20)), none⟩])
 (.ret))
theorem low43 : low Tryz.prog (fun _ => false) (Tryz.f43.body.getD .skip) = some (eC d43) := by kernel_rfl
theorem res43 : lowRes Tryz.prog Tryz.f43.results.toList = some [.tmp 4] := by kernel_rfl
def R43 (xb1 : Nat) (xo1 : Nat) (kind1 : Int) (h : PHeap) (Q : Value → PHeap → Prop) : Prop :=
  ∃ (i1 : Int), h.cell xb1 (xo1 + 5) = some (vI i1) ∧
  br (i1 == 0)
  (∃ (sa1 : Option Addr) (sn1 sc1 : Nat), h.cell xb1 xo1 = some (vL sa1 sn1 sc1) ∧
    ∃ (b1 o1 : Nat), sa1 = some ⟨b1, o1, none⟩ ∧ (0 ≤ (0 : Int) ∧ (0 : Int) < sn1) ∧
    ∃ (i2 : Int), h.cell b1 o1 = some (vI i2) ∧
    Q (vB (i2 == kind1)) h)
  (Q (vB false) h)
theorem e43 (xb1 : Nat) (xo1 : Nat) (kind1 : Int) (h : PHeap) (Q : Value → PHeap → Prop) : dnF Tryz.prog Tryz.f43.ntmps d43 [.tmp 4] [vP xb1 xo1, vI kind1] h Q = R43 xb1 xo1 kind1 h Q := by kernel_rfl
theorem T43 {xb1 : Nat} {xo1 : Nat} {kind1 : Int} {h : PHeap} {Q : Value → PHeap → Prop} (hR : R43 xb1 xo1 kind1 h Q) : Tri Tryz.prog 43 [vP xb1 xo1, vI kind1] h Q :=
  tri_of_dn mixed Tryz.func43 rfl (by kernel_rfl) low43 res43 rfl (Eq.mpr (e43 xb1 xo1 kind1 h Q) hR)
/- (*replevin/syntax.parser).is -/
def d44 : DCode :=
  .seq (.ops [⟨some 4, .base (.mv (.const (vB false))), none⟩])
 (.seq (.ops [⟨some 5, .base (.mv (.tmp 0)), none⟩,
  ⟨some 6, .call (.func 43) [.tmp 5, .const (vI 4)] (.one false [.bool]), none⟩,
  ⟨some 7, .base (.mv (.tmp 6)), none⟩,
  ⟨some 8, .base (.mv (.tmp 0)), some (7, false)⟩,
  ⟨some 9, .call (.func 43) [.tmp 8, .const (vI 5)] (.one false [.bool]), some (7, false)⟩,
  ⟨some 10, .base (.pick (.tmp 7) (.const (vB true)) (.tmp 9)), none⟩,
  ⟨some 11, .base (.mv (.tmp 10)), none⟩,
  ⟨some 12, .base (.mv (.tmp 0)), some (11, true)⟩,
  ⟨some 13, .base (.nilCheck (.tmp 12)), some (11, true)⟩,
  ⟨some 14, .base (.fieldAddr 0 (.tmp 13)), some (11, true)⟩,
  ⟨some 15, .load false [.slice] (.tmp 14), some (11, true)⟩,
  ⟨some 16, .indexAddr 6 (.tmp 15) (.const (vI 0)), some (11, true)⟩,
  ⟨some 17, .base (.fieldAddr 1 (.tmp 16)), some (11, true)⟩,
  ⟨some 18, .load false [.str] (.tmp 17), some (11, true)⟩,
  ⟨some 19, .base (.mv (.tmp 1)), some (11, true)⟩,
  ⟨some 20, .base (.eqS false (.tmp 18) (.tmp 19)), some (11, true)⟩,
  ⟨some 21, .base (.pick (.tmp 11) (.tmp 20) (.const (vB false))), none⟩,
  ⟨some 4, .base (.mv (.tmp 21)), none⟩])
 (.ret))
theorem low44 : low Tryz.prog (fun _ => false) (Tryz.f44.body.getD .skip) = some (eC d44) := by kernel_rfl
theorem res44 : lowRes Tryz.prog Tryz.f44.results.toList = some [.tmp 4] := by kernel_rfl
def R44 (xb1 : Nat) (xo1 : Nat) (text1 : List UInt8) (h : PHeap) (Q : Value → PHeap → Prop) : Prop :=
  Tri Tryz.prog 43 [vP xb1 xo1, vI 4] h fun v_1 h_1 =>
  ∃ (c1 : Bool), v_1 = vB c1 ∧
  br c1
  (∃ (sa1 : Option Addr) (sn1 sc1 : Nat), h_1.cell xb1 xo1 = some (vL sa1 sn1 sc1) ∧
    ∃ (b1 o1 : Nat), sa1 = some ⟨b1, o1, none⟩ ∧ (0 ≤ (0 : Int) ∧ (0 : Int) < sn1) ∧
    ∃ (l1 : List UInt8), h_1.cell b1 (o1 + 1) = some (vS l1) ∧
    Q (vB (l1 == text1)) h_1)
  (Tri Tryz.prog 43 [vP xb1 xo1, vI 5] h_1 fun v_2 h_2 =>
    ∃ (c2 : Bool), v_2 = vB c2 ∧
    br c2
    (∃ (sa2 : Option Addr) (sn2 sc2 : Nat), h_2.cell xb1 xo1 = some (vL sa2 sn2 sc2) ∧
      ∃ (b2 o2 : Nat), sa2 = some ⟨b2, o2, none⟩ ∧ (0 ≤ (0 : Int) ∧ (0 : Int) < sn2) ∧
      ∃ (l2 : List UInt8), h_2.cell b2 (o2 + 1) = some (vS l2) ∧
      Q (vB (l2 == text1)) h_2)
    (Q (vB false) h_2))
theorem e44 (xb1 : Nat) (xo1 : Nat) (text1 : List UInt8) (h : PHeap) (Q : Value → PHeap → Prop) : dnF Tryz.prog Tryz.f44.ntmps d44 [.tmp 4] [vP xb1 xo1, vS text1] h Q = R44 xb1 xo1 text1 h Q := by kernel_rfl
theorem T44 {xb1 : Nat} {xo1 : Nat} {text1 : List UInt8} {h : PHeap} {Q : Value → PHeap → Prop} (hR : R44 xb1 xo1 text1 h Q) : Tri Tryz.prog 44 [vP xb1 xo1, vS text1] h Q :=
  tri_of_dn mixed Tryz.func44 rfl (by kernel_rfl) low44 res44 rfl (Eq.mpr (e44 xb1 xo1 text1 h Q) hR)
/- (*replevin/syntax.parser).global -/
def d45 : DCode :=
  .seq (.ops [⟨some 2, .base (.alloc 86 [vS [], vI 0, vI 0, vI 0, vI 0] false), none⟩])
 (.seq (.ops [⟨some 5, .base (.mv (.tmp 0)), none⟩,
  ⟨some 6, .call (.func 92) [.tmp 5, .const (vS [118, 97, 114])] (.tup []), none⟩])
 (.seq (.ops [⟨some 7, .base (.mv (.tmp 0)), none⟩,
  ⟨some 8, .call (.func 89) [.tmp 7, .const (vI 1)] (.one true [.int .i64, .str, .int .i64, .str, .int .i64, .int .i64]), none⟩,
  ⟨some 3, .base (.alloc 162 [vI 0, vS [], vI 0, vS [], vI 0, vI 0] false), none⟩,
  ⟨none, .base (.store 6 (.tmp 3) (.tmp 8)), none⟩])
 (.seq (.ops [⟨some 9, .base (.fieldAddr 1 (.tmp 3)), none⟩,
  ⟨some 10, .load false [.str] (.tmp 9), none⟩,
  ⟨some 11, .base (.fieldAddr 4 (.tmp 3)), none⟩,
  ⟨some 12, .load false [.int .i64] (.tmp 11), none⟩,
  ⟨some 13, .base (.fieldAddr 5 (.tmp 3)), none⟩,
  ⟨some 14, .load false [.int .i64] (.tmp 13), none⟩,
  ⟨some 15, .base (.build [vS [], vI 0, vI 0, vI 0, vI 0] [(0, 1, .tmp 10), (3, 1, .tmp 12), (4, 1, .tmp 14)]), none⟩,
  ⟨some 4, .base (.alloc 86 [vS [], vI 0, vI 0, vI 0, vI 0] false), none⟩,
  ⟨none, .base (.store 5 (.tmp 4) (.tmp 15)), none⟩])
 (.seq (.block 0 (.seq (.ops [⟨some 17, .base (.mv (.tmp 0)), none⟩,
    ⟨some 18, .call (.func 90) [.tmp 17, .const (vS [61])] (.one false [.bool]), none⟩,
    ⟨some 16, .base (.mv (.tmp 18)), none⟩])
   (.cond (.tmp 16) (.ops [⟨some 19, .base (.mv (.tmp 0)), none⟩,
      ⟨some 20, .call (.func 89) [.tmp 19, .const (vI 2)] (.one true [.int .i64, .str, .int .i64, .str, .int .i64, .int .i64]), none⟩,
      ⟨some 21, .base (.field false 2 1 (.tmp 20)), none⟩,
      ⟨some 22, .base (.fieldAddr 2 (.tmp 4)), none⟩,
      ⟨none, .base (.store 1 (.tmp 22) (.tmp 21)), none⟩])
   (.seq (.ops [⟨some 24, .base (.mv (.tmp 0)), none⟩,
      ⟨some 25, .call (.func 90) [.tmp 24, .const (vS [91])] (.one false [.bool]), none⟩,
      ⟨some 23, .base (.mv (.tmp 25)), none⟩])
     (.cond (.tmp 23) (.seq (.ops [⟨some 26, .base (.mv (.tmp 0)), none⟩,
        ⟨some 27, .call (.func 89) [.tmp 26, .const (vI 2)] (.one true [.int .i64, .str, .int .i64, .str, .int .i64, .int .i64]), none⟩,
        ⟨some 28, .base (.field false 2 1 (.tmp 27)), none⟩,
        ⟨some 29, .base (.fieldAddr 1 (.tmp 4)), none⟩,
        ⟨none, .base (.store 1 (.tmp 29) (.tmp 28)), none⟩])
       (.ops [⟨some 30, .base (.mv (.tmp 0)), none⟩,
        ⟨some 31, .call (.func 92) [.tmp 30, .const (vS [93])] (.tup []), none⟩]))
     (.skip))))))
 (.seq (.ops [⟨some 32, .base (.mv (.tmp 0)), none⟩,
  ⟨some 33, .call (.func 92) [.tmp 32, .const (vS [59])] (.tup []), none⟩])
 (.seq (.ops [⟨some 34, .load true [.str, .int .i64, .int .i64, .int .i64, .int .i64] (.tmp 4), none⟩,
  ⟨none, .base (.store 5 (.tmp 2) (.tmp 34)), none⟩])
 (.ret)))))))
theorem low45 : low Tryz.prog (fun _ => false) (Tryz.f45.body.getD .skip) = some (eC d45) := by kernel_rfl
theorem res45 : lowRes Tryz.prog Tryz.f45.results.toList = some [.cell 2 true 5] := by kernel_rfl
def R45 (xb1 : Nat) (xo1 : Nat) (h : PHeap) (Q : Value → PHeap → Prop) : Prop :=
  Tri Tryz.prog 92 [vP xb1 xo1, vS [118, 97, 114]] h fun v_1 h_1 =>
  v_1 = vT [] ∧
  Tri Tryz.prog 89 [vP xb1 xo1, vI 1] h_1 fun v_2 h_2 =>
  ∃ (Kind1 : Int) (Text1 : List UInt8) (Value1 : Int) (Bytes1 : List UInt8) (Line1 Column1 : Int), v_2 = vA [vI Kind1, vS Text1, vI Value1, vS Bytes1, vI Line1, vI Column1] ∧
  Tri Tryz.prog 90 [vP xb1 xo1, vS [61]] h_2 fun v_3 h_3 =>
  ∃ (c1 : Bool), v_3 = vB c1 ∧
  br c1
  (Tri Tryz.prog 89 [vP xb1 xo1, vI 2] h_3 fun v_4 h_4 =>
    ∃ (Kind2 : Int) (Text2 : List UInt8) (Value2 : Int) (Bytes2 : List UInt8) (Line2 Column2 : Int), v_4 = vA [vI Kind2, vS Text2, vI Value2, vS Bytes2, vI Line2, vI Column2] ∧
    Tri Tryz.prog 92 [vP xb1 xo1, vS [59]] h_4 fun v_5 h_5 =>
    v_5 = vT [] ∧
    Q (vA [vS Text1, vI 0, vI Value2, vI Line1, vI Column1]) h_5)
  (Tri Tryz.prog 90 [vP xb1 xo1, vS [91]] h_3 fun v_6 h_6 =>
    ∃ (c2 : Bool), v_6 = vB c2 ∧
    br c2
    (Tri Tryz.prog 89 [vP xb1 xo1, vI 2] h_6 fun v_7 h_7 =>
      ∃ (Kind3 : Int) (Text3 : List UInt8) (Value3 : Int) (Bytes3 : List UInt8) (Line3 Column3 : Int), v_7 = vA [vI Kind3, vS Text3, vI Value3, vS Bytes3, vI Line3, vI Column3] ∧
      Tri Tryz.prog 92 [vP xb1 xo1, vS [93]] h_7 fun v_8 h_8 =>
      v_8 = vT [] ∧
      Tri Tryz.prog 92 [vP xb1 xo1, vS [59]] h_8 fun v_9 h_9 =>
      v_9 = vT [] ∧
      Q (vA [vS Text1, vI Value3, vI 0, vI Line1, vI Column1]) h_9)
    (Tri Tryz.prog 92 [vP xb1 xo1, vS [59]] h_6 fun v_10 h_10 =>
      v_10 = vT [] ∧
      Q (vA [vS Text1, vI 0, vI 0, vI Line1, vI Column1]) h_10))
theorem e45 (xb1 : Nat) (xo1 : Nat) (h : PHeap) (Q : Value → PHeap → Prop) : dnF Tryz.prog Tryz.f45.ntmps d45 [.cell 2 true 5] [vP xb1 xo1] h Q = R45 xb1 xo1 h Q := by kernel_rfl
theorem T45 {xb1 : Nat} {xo1 : Nat} {h : PHeap} {Q : Value → PHeap → Prop} (hR : R45 xb1 xo1 h Q) : Tri Tryz.prog 45 [vP xb1 xo1] h Q :=
  tri_of_dn mixed Tryz.func45 rfl (by kernel_rfl) low45 res45 rfl (Eq.mpr (e45 xb1 xo1 h Q) hR)
/- (*replevin/syntax.parser).function -/
abbrev o46_0 : Op := .unOp Go.UnOp.not 4 (Go.Operand.tmp 19)
abbrev o46_1 : Op := .call { callee := (Go.Callee.builtin Go.Builtin.append), args := #[(Go.Operand.tmp 22), (Go.Operand.tmp 26)], argTypes := #[51, 51] }
abbrev o46_2 : Op := .call { callee := (Go.Callee.builtin Go.Builtin.append), args := #[(Go.Operand.tmp 32), (Go.Operand.tmp 36)], argTypes := #[51, 51] }
def d46 : DCode :=
  .seq (.ops [⟨some 2, .base (.alloc 54 [vS [], vL none 0 0, vL none 0 0, vI 0, vI 0] false), none⟩])
 (.seq (.ops [⟨some 5, .base (.mv (.tmp 0)), none⟩,
  ⟨some 6, .call (.func 92) [.tmp 5, .const (vS [102, 117, 110, 99])] (.tup []), none⟩])
 (.seq (.ops [⟨some 7, .base (.mv (.tmp 0)), none⟩,
  ⟨some 8, .call (.func 89) [.tmp 7, .const (vI 1)] (.one true [.int .i64, .str, .int .i64, .str, .int .i64, .int .i64]), none⟩,
  ⟨some 3, .base (.alloc 162 [vI 0, vS [], vI 0, vS [], vI 0, vI 0] false), none⟩,
  ⟨none, .base (.store 6 (.tmp 3) (.tmp 8)), none⟩])
 (.seq (.ops [⟨some 9, .base (.fieldAddr 1 (.tmp 3)), none⟩,
  ⟨some 10, .load false [.str] (.tmp 9), none⟩,
  ⟨some 11, .base (.fieldAddr 4 (.tmp 3)), none⟩,
  ⟨some 12, .load false [.int .i64] (.tmp 11), none⟩,
  ⟨some 13, .base (.fieldAddr 5 (.tmp 3)), none⟩,
  ⟨some 14, .load false [.int .i64] (.tmp 13), none⟩,
  ⟨some 15, .base (.build [vS [], vL none 0 0, vL none 0 0, vI 0, vI 0] [(0, 1, .tmp 10), (3, 1, .tmp 12), (4, 1, .tmp 14)]), none⟩,
  ⟨some 4, .base (.alloc 54 [vS [], vL none 0 0, vL none 0 0, vI 0, vI 0] false), none⟩,
  ⟨none, .base (.store 5 (.tmp 4) (.tmp 15)), none⟩])
 (.seq (.ops [⟨some 16, .base (.mv (.tmp 0)), none⟩,
  ⟨some 17, .call (.func 92) [.tmp 16, .const (vS [40])] (.tup []), none⟩])
 (.seq (.seq (.ops [⟨some 18, .base (.mv (.tmp 0)), none⟩,
  ⟨some 19, .call (.func 44) [.tmp 18, .const (vS [41])] (.one false [.bool]), none⟩,
  ⟨some 20, .base (.pure o46_0 4), none⟩])
 (.cond (.tmp 20) (.seq (.draw [(⟨some 21, .base (.fieldAddr 1 (.tmp 4)), none⟩, []),
    (⟨some 22, .load false [.slice] (.tmp 21), none⟩, [0]),
    (⟨some 23, .base (.mv (.tmp 0)), none⟩, []),
    (⟨some 24, .call (.func 89) [.tmp 23, .const (vI 1)] (.one true [.int .i64, .str, .int .i64, .str, .int .i64, .int .i64]), none⟩, [2]),
    (⟨some 25, .base (.field false 1 1 (.tmp 24)), none⟩, [3]),
    (⟨some 26, .heap (.buildSlice 9 1 [vS []] [(0, 1, .tmp 25)]), none⟩, [4]),
    (⟨some 27, .raw o46_1 51 (.one false [.slice]), none⟩, [1, 5, 3]),
    (⟨some 28, .base (.fieldAddr 1 (.tmp 4)), none⟩, [0, 1, 2, 3, 4, 5, 6]),
    (⟨none, .base (.store 1 (.tmp 28) (.tmp 27)), none⟩, [7, 6, 6, 0, 1, 2, 3, 4, 5, 6])])
   (.block 0 (.loop [29, 30, 31, 32, 33, 34, 35, 36, 37, 38] [] [(4, [.str, .slice, .slice, .int .i64, .int .i64])] (.seq (.seq (.ops [⟨some 29, .base (.mv (.tmp 0)), none⟩,
        ⟨some 30, .call (.func 90) [.tmp 29, .const (vS [44])] (.one false [.bool]), none⟩])
       (.cond (.tmp 30) (.skip)
       (.exit 0)))
       (.block 1 (.draw [(⟨some 31, .base (.fieldAddr 1 (.tmp 4)), none⟩, []),
          (⟨some 32, .load false [.slice] (.tmp 31), none⟩, [0]),
          (⟨some 33, .base (.mv (.tmp 0)), none⟩, []),
          (⟨some 34, .call (.func 89) [.tmp 33, .const (vI 1)] (.one true [.int .i64, .str, .int .i64, .str, .int .i64, .int .i64]), none⟩, [2]),
          (⟨some 35, .base (.field false 1 1 (.tmp 34)), none⟩, [3]),
          (⟨some 36, .heap (.buildSlice 9 1 [vS []] [(0, 1, .tmp 35)]), none⟩, [4]),
          (⟨some 37, .raw o46_2 51 (.one false [.slice]), none⟩, [1, 5, 3]),
          (⟨some 38, .base (.fieldAddr 1 (.tmp 4)), none⟩, [0, 1, 2, 3, 4, 5, 6]),
          (⟨none, .base (.store 1 (.tmp 38) (.tmp 37)), none⟩, [7, 6, 6, 0, 1, 2, 3, 4, 5, 6])]))))))
 (.skip)))
 (.seq (.ops [⟨some 39, .base (.mv (.tmp 0)), none⟩,
  ⟨some 40, .call (.func 92) [.tmp 39, .const (vS [41])] (.tup []), none⟩])
 (.seq (.ops [⟨some 41, .base (.mv (.tmp 0)), none⟩,
  ⟨some 42, .call (.func 94) [.tmp 41] (.one false [.slice]), none⟩,
  ⟨some 43, .base (.fieldAddr 2 (.tmp 4)), none⟩,
  ⟨none, .base (.store 1 (.tmp 43) (.tmp 42)), none⟩])
 (.seq (.ops [⟨some 44, .load true [.str, .slice, .slice, .int .i64, .int .i64] (.tmp 4), none⟩,
  ⟨none, .base (.store 5 (.tmp 2) (.tmp 44)), none⟩])
 (.ret)))))))))
theorem low46 : low Tryz.prog (fun _ => false) (Tryz.f46.body.getD .skip) = some (eC d46) := by kernel_rfl
theorem res46 : lowRes Tryz.prog Tryz.f46.results.toList = some [.cell 2 true 5] := by kernel_rfl
def R46 (xb1 : Nat) (xo1 : Nat) (h : PHeap) (Q : Value → PHeap → Prop) : Prop :=
  Tri Tryz.prog 92 [vP xb1 xo1, vS [102, 117, 110, 99]] h fun v_1 h_1 =>
  v_1 = vT [] ∧
  Tri Tryz.prog 89 [vP xb1 xo1, vI 1] h_1 fun v_2 h_2 =>
  ∃ (Kind1 : Int) (Text1 : List UInt8) (Value1 : Int) (Bytes1 : List UInt8) (Line1 Column1 : Int), v_2 = vA [vI Kind1, vS Text1, vI Value1, vS Bytes1, vI Line1, vI Column1] ∧
  Tri Tryz.prog 92 [vP xb1 xo1, vS [40]] h_2 fun v_3 h_3 =>
  v_3 = vT [] ∧
  Tri Tryz.prog 44 [vP xb1 xo1, vS [41]] h_3 fun v_4 h_4 =>
  ∃ (c1 : Bool), v_4 = vB c1 ∧
  br (!c1)
  (Tri Tryz.prog 89 [vP xb1 xo1, vI 1] h_4 fun v_5 h_5 =>
    ∃ (Kind2 : Int) (Text2 : List UInt8) (Value2 : Int) (Bytes2 : List UInt8) (Line2 Column2 : Int), v_5 = vA [vI Kind2, vS Text2, vI Value2, vS Bytes2, vI Line2, vI Column2] ∧
    (([vL none 0 0] : List Value) = ([vL none 0 0] : List Value)) ∧
    ∀ (b1 : Nat), h_5 b1 = none → ∀ (h_6 : PHeap), h_6 = h_5.put b1 (.cells ⟨[vS Text2]⟩ 9) →
    (([vL none 0 0] : List Value) = ([vL none 0 0] : List Value)) ∧
    Raw Tryz.prog (execOp (rho [(22, vL none 0 0), (26, vL (ad b1 0) 1 1)]) (mkO o46_1 51)) h_6 fun v_6 h_7 =>
    ∃ (sa1 : Option Addr) (sn1 sc1 : Nat), v_6 = vL sa1 sn1 sc1 ∧
    ∃ (I_1 : Nat → List UInt8 → Option Addr → Nat → Nat → Option Addr → Nat → Nat → Int → Int → PHeap → Prop), (∃ (m2 : Nat), I_1 m2 Text1 sa1 sn1 sc1 none 0 0 Line1 Column1 h_7) ∧
    ∀ (m1 : Nat) (Name1 : List UInt8) (Paramsa1 : Option Addr) (Paramsn1 : Nat) (Paramsc1 : Nat) (Bodya1 : Option Addr) (Bodyn1 : Nat) (Bodyc1 : Nat) (Line3 : Int) (Column3 : Int) (h_8 : PHeap), I_1 m1 Name1 Paramsa1 Paramsn1 Paramsc1 Bodya1 Bodyn1 Bodyc1 Line3 Column3 h_8 →
    Tri Tryz.prog 90 [vP xb1 xo1, vS [44]] h_8 fun v_7 h_9 =>
    ∃ (c2 : Bool), v_7 = vB c2 ∧
    br c2
    (Tri Tryz.prog 89 [vP xb1 xo1, vI 1] h_9 fun v_8 h_10 =>
      ∃ (Kind3 : Int) (Text3 : List UInt8) (Value3 : Int) (Bytes3 : List UInt8) (Line4 Column4 : Int), v_8 = vA [vI Kind3, vS Text3, vI Value3, vS Bytes3, vI Line4, vI Column4] ∧
      (([vL Paramsa1 Paramsn1 Paramsc1] : List Value) = ([vL Paramsa1 Paramsn1 Paramsc1] : List Value)) ∧
      ∀ (b2 : Nat), h_10 b2 = none → ∀ (h_11 : PHeap), h_11 = h_10.put b2 (.cells ⟨[vS Text3]⟩ 9) →
      (([vL Paramsa1 Paramsn1 Paramsc1] : List Value) = ([vL Paramsa1 Paramsn1 Paramsc1] : List Value)) ∧
      Raw Tryz.prog (execOp (rho [(32, vL Paramsa1 Paramsn1 Paramsc1), (36, vL (ad b2 0) 1 1)]) (mkO o46_2 51)) h_11 fun v_9 h_12 =>
      ∃ (sa2 : Option Addr) (sn2 sc2 : Nat), v_9 = vL sa2 sn2 sc2 ∧
      ∃ (m3 : Nat), m3 < m1 ∧ I_1 m3 Name1 sa2 sn2 sc2 Bodya1 Bodyn1 Bodyc1 Line3 Column3 h_12 ∧
      ([vI Kind1, vS Text1, vI Value1, vS Bytes1, vI Line1, vI Column1] : List Value) = ([vI Kind1, vS Text1, vI Value1, vS Bytes1, vI Line1, vI Column1] : List Value) ∧ ([vS [], vL none 0 0, vL none 0 0, vI 0, vI 0] : List Value) = ([vS [], vL none 0 0, vL none 0 0, vI 0, vI 0] : List Value) ∧ True)
    (Tri Tryz.prog 92 [vP xb1 xo1, vS [41]] h_9 fun v_10 h_13 =>
      v_10 = vT [] ∧
      Tri Tryz.prog 94 [vP xb1 xo1] h_13 fun v_11 h_14 =>
      ∃ (sa3 : Option Addr) (sn3 sc3 : Nat), v_11 = vL sa3 sn3 sc3 ∧
      Q (vA [vS Name1, vL Paramsa1 Paramsn1 Paramsc1, vL sa3 sn3 sc3, vI Line3, vI Column3]) h_14))
  (Tri Tryz.prog 92 [vP xb1 xo1, vS [41]] h_4 fun v_12 h_15 =>
    v_12 = vT [] ∧
    Tri Tryz.prog 94 [vP xb1 xo1] h_15 fun v_13 h_16 =>
    ∃ (sa4 : Option Addr) (sn4 sc4 : Nat), v_13 = vL sa4 sn4 sc4 ∧
    Q (vA [vS Text1, vL none 0 0, vL sa4 sn4 sc4, vI Line1, vI Column1]) h_16)
theorem e46 (xb1 : Nat) (xo1 : Nat) (h : PHeap) (Q : Value → PHeap → Prop) : dnF Tryz.prog Tryz.f46.ntmps d46 [.cell 2 true 5] [vP xb1 xo1] h Q = R46 xb1 xo1 h Q := by kernel_rfl
theorem T46 {xb1 : Nat} {xo1 : Nat} {h : PHeap} {Q : Value → PHeap → Prop} (hR : R46 xb1 xo1 h Q) : Tri Tryz.prog 46 [vP xb1 xo1] h Q :=
  tri_of_dn mixed Tryz.func46 rfl (by kernel_rfl) low46 res46 rfl (Eq.mpr (e46 xb1 xo1 h Q) hR)
/- (*replevin/syntax.parser).fail -/
abbrev o47_0 : Op := .binOp Go.BinOp.eql 27 (Go.Operand.tmp 7) (Go.Operand.const (vI 0)) 27
def d47 : DCode :=
  .seq (.ops [⟨some 4, .base (.mv (.tmp 0)), none⟩,
  ⟨some 5, .base (.nilCheck (.tmp 4)), none⟩,
  ⟨some 6, .base (.fieldAddr 5 (.tmp 5)), none⟩,
  ⟨some 7, .load false [.int .i64] (.tmp 6), none⟩,
  ⟨some 8, .base (.pure o47_0 4), none⟩])
 (.cond (.tmp 8) (.draw [(⟨some 9, .base (.mv (.tmp 0)), none⟩, []),
    (⟨some 10, .base (.mv (.tmp 0)), none⟩, []),
    (⟨some 11, .base (.mv (.tmp 0)), none⟩, []),
    (⟨some 12, .base (.mv (.tmp 0)), none⟩, []),
    (⟨some 13, .base (.nilCheck (.tmp 12)), none⟩, [3]),
    (⟨some 14, .base (.fieldAddr 0 (.tmp 13)), none⟩, [4]),
    (⟨some 15, .load false [.slice] (.tmp 14), none⟩, [5]),
    (⟨some 16, .indexAddr 6 (.tmp 15) (.const (vI 0)), none⟩, [6]),
    (⟨some 17, .base (.fieldAddr 4 (.tmp 16)), none⟩, [7]),
    (⟨some 18, .load false [.int .i64] (.tmp 17), none⟩, [8]),
    (⟨some 19, .base (.mv (.tmp 0)), none⟩, []),
    (⟨some 20, .base (.nilCheck (.tmp 19)), none⟩, [10]),
    (⟨some 21, .base (.fieldAddr 0 (.tmp 20)), none⟩, [11]),
    (⟨some 22, .load false [.slice] (.tmp 21), none⟩, [12]),
    (⟨some 23, .indexAddr 6 (.tmp 22) (.const (vI 0)), none⟩, [13]),
    (⟨some 24, .base (.fieldAddr 5 (.tmp 23)), none⟩, [14]),
    (⟨some 25, .load false [.int .i64] (.tmp 24), none⟩, [15]),
    (⟨some 26, .base (.mv (.tmp 1)), none⟩, []),
    (⟨some 27, .base (.nilCheck (.tmp 9)), none⟩, [0, 0, 3, 4, 5, 6, 7, 8, 9, 13, 16]),
    (⟨some 28, .base (.fieldAddr 3 (.tmp 27)), none⟩, [18, 0, 3, 4, 5, 6, 7, 8, 9, 13, 16]),
    (⟨none, .heap (.store 1 (.tmp 28) (.tmp 18)), none⟩, [19, 9, 0, 3, 4, 5, 6, 7, 8, 9, 13, 16]),
    (⟨some 29, .base (.nilCheck (.tmp 10)), none⟩, [1, 0, 1, 3, 4, 5, 6, 7, 8, 9, 10, 11, 12, 13, 14, 15, 16, 18, 19, 20]),
    (⟨some 30, .base (.fieldAddr 4 (.tmp 29)), none⟩, [21, 0, 1, 3, 4, 5, 6, 7, 8, 9, 10, 11, 12, 13, 14, 15, 16, 18, 19, 20]),
    (⟨none, .heap (.store 1 (.tmp 30) (.tmp 25)), none⟩, [22, 16, 20, 0, 1, 3, 4, 5, 6, 7, 8, 9, 10, 11, 12, 13, 14, 15, 16, 18, 19, 20]),
    (⟨some 31, .base (.nilCheck (.tmp 11)), none⟩, [2, 0, 1, 2, 3, 4, 5, 6, 7, 8, 9, 10, 11, 12, 13, 14, 15, 16, 17, 18, 19, 20, 21, 22, 23]),
    (⟨some 32, .base (.fieldAddr 5 (.tmp 31)), none⟩, [24, 0, 1, 2, 3, 4, 5, 6, 7, 8, 9, 10, 11, 12, 13, 14, 15, 16, 17, 18, 19, 20, 21, 22, 23]),
    (⟨none, .heap (.store 1 (.tmp 32) (.tmp 26)), none⟩, [25, 17, 23, 0, 1, 2, 3, 4, 5, 6, 7, 8, 9, 10, 11, 12, 13, 14, 15, 16, 17, 18, 19, 20, 21, 22, 23])])
 (.skip))
theorem low47 : low Tryz.prog (fun _ => false) (Tryz.f47.body.getD .skip) = some (eC d47) := by kernel_rfl
theorem res47 : lowRes Tryz.prog Tryz.f47.results.toList = some [] := by kernel_rfl
def R47 (xb1 : Nat) (xo1 : Nat) (e_1 : Int) (h : PHeap) (Q : Value → PHeap → Prop) : Prop :=
  ∃ (i1 : Int), h.cell xb1 (xo1 + 5) = some (vI i1) ∧
  br (i1 == 0)
  (∃ (sa1 : Option Addr) (sn1 sc1 : Nat), h.cell xb1 xo1 = some (vL sa1 sn1 sc1) ∧
    ∃ (b1 o1 : Nat), sa1 = some ⟨b1, o1, none⟩ ∧ (0 ≤ (0 : Int) ∧ (0 : Int) < sn1) ∧
    ∃ (i2 : Int), h.cell b1 (o1 + 4) = some (vI i2) ∧
    ∃ (sa2 : Option Addr) (sn2 sc2 : Nat), h.cell xb1 xo1 = some (vL sa2 sn2 sc2) ∧
    ∃ (b2 o2 : Nat), sa2 = some ⟨b2, o2, none⟩ ∧ (0 ≤ (0 : Int) ∧ (0 : Int) < sn2) ∧
    ∃ (i3 : Int), h.cell b2 (o2 + 5) = some (vI i3) ∧
    ∃ (l1 : List Value) (t1 : TypeId) (z1 : Nat × Nat), h xb1 = some (.cells ⟨l1⟩ t1 z1) ∧ ((xo1 + 3) + 1 ≤ l1.length ∧ z1.2 ≤ (xo1 + 3)) ∧
    ∀ (h_1 : PHeap), h_1 = h.put xb1 (.cells ⟨splice l1 (xo1 + 3) [vI i2]⟩ t1 z1) →
    ∃ (l2 : List Value) (t2 : TypeId) (z2 : Nat × Nat), h_1 xb1 = some (.cells ⟨l2⟩ t2 z2) ∧ ((xo1 + 4) + 1 ≤ l2.length ∧ z2.2 ≤ (xo1 + 4)) ∧
    ∀ (h_2 : PHeap), h_2 = h_1.put xb1 (.cells ⟨splice l2 (xo1 + 4) [vI i3]⟩ t2 z2) →
    ∃ (l3 : List Value) (t3 : TypeId) (z3 : Nat × Nat), h_2 xb1 = some (.cells ⟨l3⟩ t3 z3) ∧ ((xo1 + 5) + 1 ≤ l3.length ∧ z3.2 ≤ (xo1 + 5)) ∧
    ∀ (h_3 : PHeap), h_3 = h_2.put xb1 (.cells ⟨splice l3 (xo1 + 5) [vI e_1]⟩ t3 z3) →
    Q (vT []) h_3)
  (Q (vT []) h)
theorem e47 (xb1 : Nat) (xo1 : Nat) (e_1 : Int) (h : PHeap) (Q : Value → PHeap → Prop) : dnF Tryz.prog Tryz.f47.ntmps d47 [] [vP xb1 xo1, vI e_1] h Q = R47 xb1 xo1 e_1 h Q := by kernel_rfl
theorem T47 {xb1 : Nat} {xo1 : Nat} {e_1 : Int} {h : PHeap} {Q : Value → PHeap → Prop} (hR : R47 xb1 xo1 e_1 h Q) : Tri Tryz.prog 47 [vP xb1 xo1, vI e_1] h Q :=
  tri_of_dn mixed Tryz.func47 rfl (by kernel_rfl) low47 res47 rfl (Eq.mpr (e47 xb1 xo1 e_1 h Q) hR)
/- (*replevin/syntax.parser).begin -/
def d88 : DCode :=
  .seq (.ops [⟨some 4, .base (.alloc 56 [vI 0, vS [], vL none 0 0, vL none 0 0, vL none 0 0, vI 0, vI 0] false), none⟩])
 (.seq (.ops [⟨some 6, .base (.mv (.tmp 0)), none⟩,
  ⟨some 7, .call (.func 139) [.tmp 6] (.one true [.int .i64, .str, .int .i64, .str, .int .i64, .int .i64]), none⟩,
  ⟨some 5, .base (.alloc 162 [vI 0, vS [], vI 0, vS [], vI 0, vI 0] false), none⟩,
  ⟨none, .base (.store 6 (.tmp 5) (.tmp 7)), none⟩])
 (.seq (.ops [⟨some 8, .base (.mv (.tmp 1)), none⟩,
  ⟨some 9, .base (.fieldAddr 4 (.tmp 5)), none⟩,
  ⟨some 10, .load false [.int .i64] (.tmp 9), none⟩,
  ⟨some 11, .base (.fieldAddr 5 (.tmp 5)), none⟩,
  ⟨some 12, .load false [.int .i64] (.tmp 11), none⟩,
  ⟨some 13, .base (.build [vI 0, vS [], vL none 0 0, vL none 0 0, vL none 0 0, vI 0, vI 0] [(0, 1, .tmp 8), (5, 1, .tmp 10), (6, 1, .tmp 12)]), none⟩,
  ⟨none, .base (.store 7 (.tmp 4) (.tmp 13)), none⟩])
 (.ret)))
theorem low88 : low Tryz.prog (fun _ => false) (Tryz.f88.body.getD .skip) = some (eC d88) := by kernel_rfl
theorem res88 : lowRes Tryz.prog Tryz.f88.results.toList = some [.cell 4 true 7] := by kernel_rfl
def R88 (xb1 : Nat) (xo1 : Nat) (kind1 : Int) (h : PHeap) (Q : Value → PHeap → Prop) : Prop :=
  Tri Tryz.prog 139 [vP xb1 xo1] h fun v_1 h_1 =>
  ∃ (Kind1 : Int) (Text1 : List UInt8) (Value1 : Int) (Bytes1 : List UInt8) (Line1 Column1 : Int), v_1 = vA [vI Kind1, vS Text1, vI Value1, vS Bytes1, vI Line1, vI Column1] ∧
  Q (vA [vI kind1, vS [], vL none 0 0, vL none 0 0, vL none 0 0, vI Line1, vI Column1]) h_1
theorem e88 (xb1 : Nat) (xo1 : Nat) (kind1 : Int) (h : PHeap) (Q : Value → PHeap → Prop) : dnF Tryz.prog Tryz.f88.ntmps d88 [.cell 4 true 7] [vP xb1 xo1, vI kind1] h Q = R88 xb1 xo1 kind1 h Q := by kernel_rfl
theorem T88 {xb1 : Nat} {xo1 : Nat} {kind1 : Int} {h : PHeap} {Q : Value → PHeap → Prop} (hR : R88 xb1 xo1 kind1 h Q) : Tri Tryz.prog 88 [vP xb1 xo1, vI kind1] h Q :=
  tri_of_dn mixed Tryz.func88 rfl (by kernel_rfl) low88 res88 rfl (Eq.mpr (e88 xb1 xo1 kind1 h Q) hR)
/- (*replevin/syntax.parser).takeKind -/
abbrev o89_0 : Op := .unOp Go.UnOp.not 4 (Go.Operand.tmp 7)
def d89 : DCode :=
  .seq (.ops [⟨some 4, .base (.alloc 162 [vI 0, vS [], vI 0, vS [], vI 0, vI 0] false), none⟩])
 (.seq (.seq (.ops [⟨some 5, .base (.mv (.tmp 0)), none⟩,
  ⟨some 6, .base (.mv (.tmp 1)), none⟩,
  ⟨some 7, .call (.func 43) [.tmp 5, .tmp 6] (.one false [.bool]), none⟩,
  ⟨some 8, .base (.pure o89_0 4), none⟩])
 (.cond (.tmp 8) (.seq (.ops [⟨some 9, .base (.mv (.tmp 0)), none⟩,
    ⟨some 10, .call (.func 47) [.tmp 9, .const (vI 30)] (.tup []), none⟩])
   (.seq (.ops [⟨some 11, .base (.build [vI 0, vS [], vI 0, vS [], vI 0, vI 0] []), none⟩,
    ⟨none, .base (.store 6 (.tmp 4) (.tmp 11)), none⟩])
   (.ret)))
 (.skip)))
 (.seq (.ops [⟨some 12, .base (.mv (.tmp 0)), none⟩,
  ⟨some 13, .call (.func 139) [.tmp 12] (.one true [.int .i64, .str, .int .i64, .str, .int .i64, .int .i64]), none⟩,
  ⟨none, .base (.store 6 (.tmp 4) (.tmp 13)), none⟩])
 (.ret)))
theorem low89 : low Tryz.prog (fun _ => false) (Tryz.f89.body.getD .skip) = some (eC d89) := by kernel_rfl
theorem res89 : lowRes Tryz.prog Tryz.f89.results.toList = some [.cell 4 true 6] := by kernel_rfl
def R89 (xb1 : Nat) (xo1 : Nat) (kind1 : Int) (h : PHeap) (Q : Value → PHeap → Prop) : Prop :=
  Tri Tryz.prog 43 [vP xb1 xo1, vI kind1] h fun v_1 h_1 =>
  ∃ (c1 : Bool), v_1 = vB c1 ∧
  br (!c1)
  (Tri Tryz.prog 47 [vP xb1 xo1, vI 30] h_1 fun v_2 h_2 =>
    v_2 = vT [] ∧
    Q (vA [vI 0, vS [], vI 0, vS [], vI 0, vI 0]) h_2)
  (Tri Tryz.prog 139 [vP xb1 xo1] h_1 fun v_3 h_3 =>
    ∃ (Kind1 : Int) (Text1 : List UInt8) (Value1 : Int) (Bytes1 : List UInt8) (Line1 Column1 : Int), v_3 = vA [vI Kind1, vS Text1, vI Value1, vS Bytes1, vI Line1, vI Column1] ∧
    Q (vA [vI Kind1, vS Text1, vI Value1, vS Bytes1, vI Line1, vI Column1]) h_3)
theorem e89 (xb1 : Nat) (xo1 : Nat) (kind1 : Int) (h : PHeap) (Q : Value → PHeap → Prop) : dnF Tryz.prog Tryz.f89.ntmps d89 [.cell 4 true 6] [vP xb1 xo1, vI kind1] h Q = R89 xb1 xo1 kind1 h Q := by kernel_rfl
theorem T89 {xb1 : Nat} {xo1 : Nat} {kind1 : Int} {h : PHeap} {Q : Value → PHeap → Prop} (hR : R89 xb1 xo1 kind1 h Q) : Tri Tryz.prog 89 [vP xb1 xo1, vI kind1] h Q :=
  tri_of_dn mixed Tryz.func89 rfl (by kernel_rfl) low89 res89 rfl (Eq.mpr (e89 xb1 xo1 kind1 h Q) hR)
/- (*replevin/syntax.parser).accept -/
abbrev o90_0 : Op := .unOp Go.UnOp.not 4 (Go.Operand.tmp 7)
abbrev o90_1 : Op := .binOp Go.BinOp.eql 3 (Go.Operand.tmp 17) (Go.Operand.const (vI 32)) 3
abbrev o90_2 : Op := .binOp Go.BinOp.add 3 (Go.Operand.tmp 24) (Go.Operand.const (vI 1)) 3
abbrev o90_3 : Op := .binOp Go.BinOp.sub 3 (Go.Operand.tmp 35) (Go.Operand.const (vI 1)) 3
def d90 : DCode :=
  .seq (.ops [⟨some 4, .base (.mv (.const (vB false))), none⟩])
 (.seq (.seq (.ops [⟨some 5, .base (.mv (.tmp 0)), none⟩,
  ⟨some 6, .base (.mv (.tmp 1)), none⟩,
  ⟨some 7, .call (.func 44) [.tmp 5, .tmp 6] (.one false [.bool]), none⟩,
  ⟨some 8, .base (.pure o90_0 4), none⟩])
 (.cond (.tmp 8) (.seq (.ops [⟨some 4, .base (.mv (.const (vB false))), none⟩])
   (.ret))
 (.skip)))
 (.seq (.seq (.ops [⟨some 9, .base (.mv (.tmp 1)), none⟩])
 (.block 0 (.seq (.seq (.ops [⟨some 11, .base (.eqS false (.tmp 9) (.const (vS [40]))), none⟩,
    ⟨some 10, .base (.mv (.tmp 11)), none⟩])
   (.cond (.tmp 10) (.skip)
   (.seq (.ops [⟨some 12, .base (.eqS false (.tmp 9) (.const (vS [91]))), none⟩,
      ⟨some 10, .base (.mv (.tmp 12)), none⟩])
     (.cond (.tmp 10) (.skip)
     (.ops [⟨some 13, .base (.eqS false (.tmp 9) (.const (vS [123]))), none⟩,
        ⟨some 10, .base (.mv (.tmp 13)), none⟩])))))
   (.cond (.tmp 10) (.seq (.seq (.ops [⟨some 14, .base (.mv (.tmp 0)), none⟩,
      ⟨some 15, .base (.nilCheck (.tmp 14)), none⟩,
      ⟨some 16, .base (.fieldAddr 1 (.tmp 15)), none⟩,
      ⟨some 17, .load false [.int .i64] (.tmp 16), none⟩,
      ⟨some 18, .base (.pure o90_1 4), none⟩])
     (.cond (.tmp 18) (.seq (.ops [⟨some 19, .base (.mv (.tmp 0)), none⟩,
        ⟨some 20, .call (.func 47) [.tmp 19, .const (vI 9)] (.tup []), none⟩])
       (.seq (.ops [⟨some 4, .base (.mv (.const (vB false))), none⟩])
       (.ret)))
     (.skip)))
     (.ops [⟨some 21, .base (.mv (.tmp 0)), none⟩,
      ⟨some 22, .base (.nilCheck (.tmp 21)), none⟩,
      ⟨some 23, .base (.fieldAddr 1 (.tmp 22)), none⟩,
      ⟨some 24, .load false [.int .i64] (.tmp 23), none⟩,
      ⟨some 25, .base (.pure o90_2 3), none⟩,
      ⟨some 26, .base (.nilCheck (.tmp 21)), none⟩,
      ⟨some 27, .base (.fieldAddr 1 (.tmp 26)), none⟩,
      ⟨none, .heap (.store 1 (.tmp 27) (.tmp 25)), none⟩]))
   (.seq (.seq (.ops [⟨some 29, .base (.eqS false (.tmp 9) (.const (vS [41]))), none⟩,
      ⟨some 28, .base (.mv (.tmp 29)), none⟩])
     (.cond (.tmp 28) (.skip)
     (.seq (.ops [⟨some 30, .base (.eqS false (.tmp 9) (.const (vS [93]))), none⟩,
        ⟨some 28, .base (.mv (.tmp 30)), none⟩])
       (.cond (.tmp 28) (.skip)
       (.ops [⟨some 31, .base (.eqS false (.tmp 9) (.const (vS [125]))), none⟩,
          ⟨some 28, .base (.mv (.tmp 31)), none⟩])))))
     (.cond (.tmp 28) (.ops [⟨some 32, .base (.mv (.tmp 0)), none⟩,
        ⟨some 33, .base (.nilCheck (.tmp 32)), none⟩,
        ⟨some 34, .base (.fieldAddr 1 (.tmp 33)), none⟩,
        ⟨some 35, .load false [.int .i64] (.tmp 34), none⟩,
        ⟨some 36, .base (.pure o90_3 3), none⟩,
        ⟨some 37, .base (.nilCheck (.tmp 32)), none⟩,
        ⟨some 38, .base (.fieldAddr 1 (.tmp 37)), none⟩,
        ⟨none, .heap (.store 1 (.tmp 38) (.tmp 36)), none⟩])
     (.skip)))))))
 (.seq (.ops [⟨some 39, .base (.mv (.tmp 0)), none⟩,
  ⟨some 40, .call (.func 139) [.tmp 39] (.one true [.int .i64, .str, .int .i64, .str, .int .i64, .int .i64]), none⟩])
 (.seq (.ops [⟨some 4, .base (.mv (.const (vB true))), none⟩])
 (.ret)))))
theorem low90 : low Tryz.prog (fun _ => false) (Tryz.f90.body.getD .skip) = some (eC d90) := by kernel_rfl
theorem res90 : lowRes Tryz.prog Tryz.f90.results.toList = some [.tmp 4] := by kernel_rfl
def R90 (xb1 : Nat) (xo1 : Nat) (text1 : List UInt8) (h : PHeap) (Q : Value → PHeap → Prop) : Prop :=
  Tri Tryz.prog 44 [vP xb1 xo1, vS text1] h fun v_1 h_1 =>
  ∃ (c1 : Bool), v_1 = vB c1 ∧
  br (!c1)
  (Q (vB false) h_1)
  (br (text1 == [40])
    (∃ (i1 : Int), h_1.cell xb1 (xo1 + 1) = some (vI i1) ∧
      br (i1 == 32)
      (Tri Tryz.prog 47 [vP xb1 xo1, vI 9] h_1 fun v_2 h_2 =>
        v_2 = vT [] ∧
        Q (vB false) h_2)
      (∃ (i2 : Int), h_1.cell xb1 (xo1 + 1) = some (vI i2) ∧
        ∃ (l1 : List Value) (t1 : TypeId) (z1 : Nat × Nat), h_1 xb1 = some (.cells ⟨l1⟩ t1 z1) ∧ ((xo1 + 1) + 1 ≤ l1.length ∧ z1.2 ≤ (xo1 + 1)) ∧
        ∀ (h_3 : PHeap), h_3 = h_1.put xb1 (.cells ⟨splice l1 (xo1 + 1) [vI (IntKind.i64.wrap (i2 + 1))]⟩ t1 z1) →
        Tri Tryz.prog 139 [vP xb1 xo1] h_3 fun v_3 h_4 =>
        ∃ (Kind1 : Int) (Text1 : List UInt8) (Value1 : Int) (Bytes1 : List UInt8) (Line1 Column1 : Int), v_3 = vA [vI Kind1, vS Text1, vI Value1, vS Bytes1, vI Line1, vI Column1] ∧
        Q (vB true) h_4))
    (br (text1 == [91])
      (∃ (i3 : Int), h_1.cell xb1 (xo1 + 1) = some (vI i3) ∧
        br (i3 == 32)
        (Tri Tryz.prog 47 [vP xb1 xo1, vI 9] h_1 fun v_4 h_5 =>
          v_4 = vT [] ∧
          Q (vB false) h_5)
        (∃ (i4 : Int), h_1.cell xb1 (xo1 + 1) = some (vI i4) ∧
          ∃ (l2 : List Value) (t2 : TypeId) (z2 : Nat × Nat), h_1 xb1 = some (.cells ⟨l2⟩ t2 z2) ∧ ((xo1 + 1) + 1 ≤ l2.length ∧ z2.2 ≤ (xo1 + 1)) ∧
          ∀ (h_6 : PHeap), h_6 = h_1.put xb1 (.cells ⟨splice l2 (xo1 + 1) [vI (IntKind.i64.wrap (i4 + 1))]⟩ t2 z2) →
          Tri Tryz.prog 139 [vP xb1 xo1] h_6 fun v_5 h_7 =>
          ∃ (Kind2 : Int) (Text2 : List UInt8) (Value2 : Int) (Bytes2 : List UInt8) (Line2 Column2 : Int), v_5 = vA [vI Kind2, vS Text2, vI Value2, vS Bytes2, vI Line2, vI Column2] ∧
          Q (vB true) h_7))
      (br (text1 == [123])
        (∃ (i5 : Int), h_1.cell xb1 (xo1 + 1) = some (vI i5) ∧
          br (i5 == 32)
          (Tri Tryz.prog 47 [vP xb1 xo1, vI 9] h_1 fun v_6 h_8 =>
            v_6 = vT [] ∧
            Q (vB false) h_8)
          (∃ (i6 : Int), h_1.cell xb1 (xo1 + 1) = some (vI i6) ∧
            ∃ (l3 : List Value) (t3 : TypeId) (z3 : Nat × Nat), h_1 xb1 = some (.cells ⟨l3⟩ t3 z3) ∧ ((xo1 + 1) + 1 ≤ l3.length ∧ z3.2 ≤ (xo1 + 1)) ∧
            ∀ (h_9 : PHeap), h_9 = h_1.put xb1 (.cells ⟨splice l3 (xo1 + 1) [vI (IntKind.i64.wrap (i6 + 1))]⟩ t3 z3) →
            Tri Tryz.prog 139 [vP xb1 xo1] h_9 fun v_7 h_10 =>
            ∃ (Kind3 : Int) (Text3 : List UInt8) (Value3 : Int) (Bytes3 : List UInt8) (Line3 Column3 : Int), v_7 = vA [vI Kind3, vS Text3, vI Value3, vS Bytes3, vI Line3, vI Column3] ∧
            Q (vB true) h_10))
        (br (text1 == [41])
          (∃ (i7 : Int), h_1.cell xb1 (xo1 + 1) = some (vI i7) ∧
            ∃ (l4 : List Value) (t4 : TypeId) (z4 : Nat × Nat), h_1 xb1 = some (.cells ⟨l4⟩ t4 z4) ∧ ((xo1 + 1) + 1 ≤ l4.length ∧ z4.2 ≤ (xo1 + 1)) ∧
            ∀ (h_11 : PHeap), h_11 = h_1.put xb1 (.cells ⟨splice l4 (xo1 + 1) [vI (IntKind.i64.wrap (i7 - 1))]⟩ t4 z4) →
            Tri Tryz.prog 139 [vP xb1 xo1] h_11 fun v_8 h_12 =>
            ∃ (Kind4 : Int) (Text4 : List UInt8) (Value4 : Int) (Bytes4 : List UInt8) (Line4 Column4 : Int), v_8 = vA [vI Kind4, vS Text4, vI Value4, vS Bytes4, vI Line4, vI Column4] ∧
            Q (vB true) h_12)
          (br (text1 == [93])
            (∃ (i8 : Int), h_1.cell xb1 (xo1 + 1) = some (vI i8) ∧
              ∃ (l5 : List Value) (t5 : TypeId) (z5 : Nat × Nat), h_1 xb1 = some (.cells ⟨l5⟩ t5 z5) ∧ ((xo1 + 1) + 1 ≤ l5.length ∧ z5.2 ≤ (xo1 + 1)) ∧
              ∀ (h_13 : PHeap), h_13 = h_1.put xb1 (.cells ⟨splice l5 (xo1 + 1) [vI (IntKind.i64.wrap (i8 - 1))]⟩ t5 z5) →
              Tri Tryz.prog 139 [vP xb1 xo1] h_13 fun v_9 h_14 =>
              ∃ (Kind5 : Int) (Text5 : List UInt8) (Value5 : Int) (Bytes5 : List UInt8) (Line5 Column5 : Int), v_9 = vA [vI Kind5, vS Text5, vI Value5, vS Bytes5, vI Line5, vI Column5] ∧
              Q (vB true) h_14)
            (br (text1 == [125])
              (∃ (i9 : Int), h_1.cell xb1 (xo1 + 1) = some (vI i9) ∧
                ∃ (l6 : List Value) (t6 : TypeId) (z6 : Nat × Nat), h_1 xb1 = some (.cells ⟨l6⟩ t6 z6) ∧ ((xo1 + 1) + 1 ≤ l6.length ∧ z6.2 ≤ (xo1 + 1)) ∧
                ∀ (h_15 : PHeap), h_15 = h_1.put xb1 (.cells ⟨splice l6 (xo1 + 1) [vI (IntKind.i64.wrap (i9 - 1))]⟩ t6 z6) →
                Tri Tryz.prog 139 [vP xb1 xo1] h_15 fun v_10 h_16 =>
                ∃ (Kind6 : Int) (Text6 : List UInt8) (Value6 : Int) (Bytes6 : List UInt8) (Line6 Column6 : Int), v_10 = vA [vI Kind6, vS Text6, vI Value6, vS Bytes6, vI Line6, vI Column6] ∧
                Q (vB true) h_16)
              (Tri Tryz.prog 139 [vP xb1 xo1] h_1 fun v_11 h_17 =>
                ∃ (Kind7 : Int) (Text7 : List UInt8) (Value7 : Int) (Bytes7 : List UInt8) (Line7 Column7 : Int), v_11 = vA [vI Kind7, vS Text7, vI Value7, vS Bytes7, vI Line7, vI Column7] ∧
                Q (vB true) h_17)))))))
theorem e90 (xb1 : Nat) (xo1 : Nat) (text1 : List UInt8) (h : PHeap) (Q : Value → PHeap → Prop) : dnF Tryz.prog Tryz.f90.ntmps d90 [.tmp 4] [vP xb1 xo1, vS text1] h Q = R90 xb1 xo1 text1 h Q := by kernel_rfl
theorem T90 {xb1 : Nat} {xo1 : Nat} {text1 : List UInt8} {h : PHeap} {Q : Value → PHeap → Prop} (hR : R90 xb1 xo1 text1 h Q) : Tri Tryz.prog 90 [vP xb1 xo1, vS text1] h Q :=
  tri_of_dn mixed Tryz.func90 rfl (by kernel_rfl) low90 res90 rfl (Eq.mpr (e90 xb1 xo1 text1 h Q) hR)
/- (*replevin/syntax.parser).expr -/
def d91 : DCode :=
  .seq (.ops [⟨some 2, .base (.alloc 48 [vI 0, vS [], vS [], vI 0, vS [], vL none 0 0, vI 0, vI 0] false), none⟩])
 (.seq (.ops [⟨some 3, .base (.mv (.tmp 0)), none⟩,
  ⟨some 4, .call (.func 140) [.tmp 3, .const (vI 1)] (.one true [.int .i64, .str, .str, .int .i64, .str, .slice, .int .i64, .int .i64]), none⟩,
  ⟨none, .base (.store 8 (.tmp 2) (.tmp 4)), none⟩])
 (.ret))
theorem low91 : low Tryz.prog (fun _ => false) (Tryz.f91.body.getD .skip) = some (eC d91) := by kernel_rfl
theorem res91 : lowRes Tryz.prog Tryz.f91.results.toList = some [.cell 2 true 8] := by kernel_rfl
def R91 (xb1 : Nat) (xo1 : Nat) (h : PHeap) (Q : Value → PHeap → Prop) : Prop :=
  Tri Tryz.prog 140 [vP xb1 xo1, vI 1] h fun v_1 h_1 =>
  ∃ (Kind1 : Int) (Op1 Name1 : List UInt8) (Value1 : Int) (Text1 : List UInt8) (Argsa1 : Option Addr) (Argsn1 Argsc1 : Nat) (Line1 Column1 : Int), v_1 = vA [vI Kind1, vS Op1, vS Name1, vI Value1, vS Text1, vL Argsa1 Argsn1 Argsc1, vI Line1, vI Column1] ∧
  Q (vA [vI Kind1, vS Op1, vS Name1, vI Value1, vS Text1, vL Argsa1 Argsn1 Argsc1, vI Line1, vI Column1]) h_1
theorem e91 (xb1 : Nat) (xo1 : Nat) (h : PHeap) (Q : Value → PHeap → Prop) : dnF Tryz.prog Tryz.f91.ntmps d91 [.cell 2 true 8] [vP xb1 xo1] h Q = R91 xb1 xo1 h Q := by kernel_rfl
theorem T91 {xb1 : Nat} {xo1 : Nat} {h : PHeap} {Q : Value → PHeap → Prop} (hR : R91 xb1 xo1 h Q) : Tri Tryz.prog 91 [vP xb1 xo1] h Q :=
  tri_of_dn mixed Tryz.func91 rfl (by kernel_rfl) low91 res91 rfl (Eq.mpr (e91 xb1 xo1 h Q) hR)
/- (*replevin/syntax.parser).take -/
abbrev o92_0 : Op := .unOp Go.UnOp.not 4 (Go.Operand.tmp 6)
def d92 : DCode :=
  .seq (.ops [⟨some 4, .base (.mv (.tmp 0)), none⟩,
  ⟨some 5, .base (.mv (.tmp 1)), none⟩,
  ⟨some 6, .call (.func 90) [.tmp 4, .tmp 5] (.one false [.bool]), none⟩,
  ⟨some 7, .base (.pure o92_0 4), none⟩])
 (.cond (.tmp 7) (.ops [⟨some 8, .base (.mv (.tmp 0)), none⟩,
    ⟨some 9, .call (.func 47) [.tmp 8, .const (vI 30)] (.tup []), none⟩])
 (.skip))
theorem low92 : low Tryz.prog (fun _ => false) (Tryz.f92.body.getD .skip) = some (eC d92) := by kernel_rfl
theorem res92 : lowRes Tryz.prog Tryz.f92.results.toList = some [] := by kernel_rfl
def R92 (xb1 : Nat) (xo1 : Nat) (text1 : List UInt8) (h : PHeap) (Q : Value → PHeap → Prop) : Prop :=
  Tri Tryz.prog 90 [vP xb1 xo1, vS text1] h fun v_1 h_1 =>
  ∃ (c1 : Bool), v_1 = vB c1 ∧
  br (!c1)
  (Tri Tryz.prog 47 [vP xb1 xo1, vI 30] h_1 fun v_2 h_2 =>
    v_2 = vT [] ∧
    Q (vT []) h_2)
  (Q (vT []) h_1)
theorem e92 (xb1 : Nat) (xo1 : Nat) (text1 : List UInt8) (h : PHeap) (Q : Value → PHeap → Prop) : dnF Tryz.prog Tryz.f92.ntmps d92 [] [vP xb1 xo1, vS text1] h Q = R92 xb1 xo1 text1 h Q := by kernel_rfl
theorem T92 {xb1 : Nat} {xo1 : Nat} {text1 : List UInt8} {h : PHeap} {Q : Value → PHeap → Prop} (hR : R92 xb1 xo1 text1 h Q) : Tri Tryz.prog 92 [vP xb1 xo1, vS text1] h Q :=
  tri_of_dn mixed Tryz.func92 rfl (by kernel_rfl) low92 res92 rfl (Eq.mpr (e92 xb1 xo1 text1 h Q) hR)
/- (*replevin/syntax.parser).condition -/
def d93 : DCode :=
  .seq (.ops [⟨some 2, .base (.mv (.const (vL none 0 0))), none⟩])
 (.seq (.ops [⟨some 4, .base (.mv (.tmp 0)), none⟩,
  ⟨some 5, .call (.func 92) [.tmp 4, .const (vS [40])] (.tup []), none⟩])
 (.seq (.ops [⟨some 6, .base (.mv (.tmp 0)), none⟩,
  ⟨some 7, .call (.func 91) [.tmp 6] (.one true [.int .i64, .str, .str, .int .i64, .str, .slice, .int .i64, .int .i64]), none⟩,
  ⟨some 3, .base (.alloc 48 [vI 0, vS [], vS [], vI 0, vS [], vL none 0 0, vI 0, vI 0] false), none⟩,
  ⟨none, .base (.store 8 (.tmp 3) (.tmp 7)), none⟩])
 (.seq (.ops [⟨some 8, .base (.mv (.tmp 0)), none⟩,
  ⟨some 9, .call (.func 92) [.tmp 8, .const (vS [41])] (.tup []), none⟩])
 (.seq (.ops [⟨some 10, .load true [.int .i64, .str, .str, .int .i64, .str, .slice, .int .i64, .int .i64] (.tmp 3), none⟩,
  ⟨some 11, .heap (.buildSlice 48 1 [vI 0, vS [], vS [], vI 0, vS [], vL none 0 0, vI 0, vI 0] [(0, 8, .tmp 10)]), none⟩,
  ⟨some 2, .base (.mv (.tmp 11)), none⟩])
 (.ret)))))
theorem low93 : low Tryz.prog (fun _ => false) (Tryz.f93.body.getD .skip) = some (eC d93) := by kernel_rfl
theorem res93 : lowRes Tryz.prog Tryz.f93.results.toList = some [.tmp 2] := by kernel_rfl
def R93 (xb1 : Nat) (xo1 : Nat) (h : PHeap) (Q : Value → PHeap → Prop) : Prop :=
  Tri Tryz.prog 92 [vP xb1 xo1, vS [40]] h fun v_1 h_1 =>
  v_1 = vT [] ∧
  Tri Tryz.prog 91 [vP xb1 xo1] h_1 fun v_2 h_2 =>
  ∃ (Kind1 : Int) (Op1 Name1 : List UInt8) (Value1 : Int) (Text1 : List UInt8) (Argsa1 : Option Addr) (Argsn1 Argsc1 : Nat) (Line1 Column1 : Int), v_2 = vA [vI Kind1, vS Op1, vS Name1, vI Value1, vS Text1, vL Argsa1 Argsn1 Argsc1, vI Line1, vI Column1] ∧
  Tri Tryz.prog 92 [vP xb1 xo1, vS [41]] h_2 fun v_3 h_3 =>
  v_3 = vT [] ∧
  ∀ (b1 : Nat), h_3 b1 = none → ∀ (h_4 : PHeap), h_4 = h_3.put b1 (.cells ⟨[vI Kind1, vS Op1, vS Name1, vI Value1, vS Text1, vL Argsa1 Argsn1 Argsc1, vI Line1, vI Column1]⟩ 48) →
  Q (vL (ad b1 0) 1 1) h_4
theorem e93 (xb1 : Nat) (xo1 : Nat) (h : PHeap) (Q : Value → PHeap → Prop) : dnF Tryz.prog Tryz.f93.ntmps d93 [.tmp 2] [vP xb1 xo1] h Q = R93 xb1 xo1 h Q := by kernel_rfl
theorem T93 {xb1 : Nat} {xo1 : Nat} {h : PHeap} {Q : Value → PHeap → Prop} (hR : R93 xb1 xo1 h Q) : Tri Tryz.prog 93 [vP xb1 xo1] h Q :=
  tri_of_dn mixed Tryz.func93 rfl (by kernel_rfl) low93 res93 rfl (Eq.mpr (e93 xb1 xo1 h Q) hR)
/- (*replevin/syntax.parser).block -/
abbrev o94_0 : Op := .binOp Go.BinOp.eql 27 (Go.Operand.tmp 9) (Go.Operand.const (vI 0)) 27
abbrev o94_1 : Op := .unOp Go.UnOp.not 4 (Go.Operand.tmp 13)
abbrev o94_2 : Op := .call { callee := (Go.Callee.builtin Go.Builtin.append), args := #[(Go.Operand.tmp 16), (Go.Operand.tmp 19)], argTypes := #[52, 52] }
def d94 : DCode :=
  .seq (.ops [⟨some 2, .base (.mv (.const (vL none 0 0))), none⟩])
 (.seq (.ops [⟨some 3, .base (.mv (.const (vL none 0 0))), none⟩])
 (.seq (.ops [⟨some 4, .base (.mv (.tmp 0)), none⟩,
  ⟨some 5, .call (.func 92) [.tmp 4, .const (vS [123])] (.tup []), none⟩])
 (.seq (.block 0 (.loop [6, 7, 8, 9, 10, 11, 12, 13, 14, 15, 16, 17, 18, 19, 20, 3] [(3, .slice)] [] (.seq (.seq (.ops [⟨some 6, .base (.mv (.tmp 0)), none⟩,
      ⟨some 7, .base (.nilCheck (.tmp 6)), none⟩,
      ⟨some 8, .base (.fieldAddr 5 (.tmp 7)), none⟩,
      ⟨some 9, .load false [.int .i64] (.tmp 8), none⟩,
      ⟨some 10, .base (.pure o94_0 4), none⟩,
      ⟨some 11, .base (.mv (.tmp 10)), none⟩,
      ⟨some 12, .base (.mv (.tmp 0)), some (11, true)⟩,
      ⟨some 13, .call (.func 44) [.tmp 12, .const (vS [125])] (.one false [.bool]), some (11, true)⟩,
      ⟨some 14, .base (.pure o94_1 4), some (11, true)⟩,
      ⟨some 15, .base (.pick (.tmp 11) (.tmp 14) (.const (vB false))), none⟩])
     (.cond (.tmp 15) (.skip)
     (.exit 0)))
     (.block 1 (.ops [⟨some 16, .base (.mv (.tmp 3)), none⟩,
        ⟨some 17, .base (.mv (.tmp 0)), none⟩,
        ⟨some 18, .call (.func 141) [.tmp 17] (.one true [.int .i64, .str, .slice, .slice, .slice, .int .i64, .int .i64]), none⟩,
        ⟨some 19, .heap (.buildSlice 56 1 [vI 0, vS [], vL none 0 0, vL none 0 0, vL none 0 0, vI 0, vI 0] [(0, 7, .tmp 18)]), none⟩,
        ⟨some 20, .raw o94_2 52 (.one false [.slice]), none⟩,
        ⟨some 3, .base (.mv (.tmp 20)), none⟩])))))
 (.seq (.ops [⟨some 21, .base (.mv (.tmp 0)), none⟩,
  ⟨some 22, .call (.func 92) [.tmp 21, .const (vS [125])] (.tup []), none⟩])
 (.seq (.ops [⟨some 23, .base (.mv (.tmp 3)), none⟩,
  ⟨some 2, .base (.mv (.tmp 23)), none⟩])
 (.ret))))))
theorem low94 : low Tryz.prog (fun _ => false) (Tryz.f94.body.getD .skip) = some (eC d94) := by kernel_rfl
theorem res94 : lowRes Tryz.prog Tryz.f94.results.toList = some [.tmp 2] := by kernel_rfl
def R94 (xb1 : Nat) (xo1 : Nat) (h : PHeap) (Q : Value → PHeap → Prop) : Prop :=
  Tri Tryz.prog 92 [vP xb1 xo1, vS [123]] h fun v_1 h_1 =>
  v_1 = vT [] ∧
  ∃ (I_1 : Nat → Option Addr → Nat → Nat → PHeap → Prop), (∃ (m2 : Nat), I_1 m2 none 0 0 h_1) ∧
  ∀ (m1 : Nat) (la1 : Option Addr) (ln1 : Nat) (lc1 : Nat) (h_2 : PHeap), I_1 m1 la1 ln1 lc1 h_2 →
  ∃ (i1 : Int), h_2.cell xb1 (xo1 + 5) = some (vI i1) ∧
  br (i1 == 0)
  (Tri Tryz.prog 44 [vP xb1 xo1, vS [125]] h_2 fun v_2 h_3 =>
    ∃ (c1 : Bool), v_2 = vB c1 ∧
    br (!c1)
    (Tri Tryz.prog 141 [vP xb1 xo1] h_3 fun v_3 h_4 =>
      ∃ (Kind1 : Int) (Name1 : List UInt8) (Argsa1 : Option Addr) (Argsn1 Argsc1 : Nat) (Bodya1 : Option Addr) (Bodyn1 Bodyc1 : Nat) (Elsea1 : Option Addr) (Elsen1 Elsec1 : Nat) (Line1 Column1 : Int), v_3 = vA [vI Kind1, vS Name1, vL Argsa1 Argsn1 Argsc1, vL Bodya1 Bodyn1 Bodyc1, vL Elsea1 Elsen1 Elsec1, vI Line1, vI Column1] ∧
      ∀ (b1 : Nat), h_4 b1 = none → ∀ (h_5 : PHeap), h_5 = h_4.put b1 (.cells ⟨[vI Kind1, vS Name1, vL Argsa1 Argsn1 Argsc1, vL Bodya1 Bodyn1 Bodyc1, vL Elsea1 Elsen1 Elsec1, vI Line1, vI Column1]⟩ 56) →
      Raw Tryz.prog (execOp (rho [(16, vL la1 ln1 lc1), (19, vL (ad b1 0) 1 1)]) (mkO o94_2 52)) h_5 fun v_4 h_6 =>
      ∃ (sa1 : Option Addr) (sn1 sc1 : Nat), v_4 = vL sa1 sn1 sc1 ∧
      ∃ (m3 : Nat), m3 < m1 ∧ I_1 m3 sa1 sn1 sc1 h_6 ∧
      True)
    (Tri Tryz.prog 92 [vP xb1 xo1, vS [125]] h_3 fun v_5 h_7 =>
      v_5 = vT [] ∧
      Q (vL la1 ln1 lc1) h_7))
  (Tri Tryz.prog 92 [vP xb1 xo1, vS [125]] h_2 fun v_6 h_8 =>
    v_6 = vT [] ∧
    Q (vL la1 ln1 lc1) h_8)
theorem e94 (xb1 : Nat) (xo1 : Nat) (h : PHeap) (Q : Value → PHeap → Prop) : dnF Tryz.prog Tryz.f94.ntmps d94 [.tmp 2] [vP xb1 xo1] h Q = R94 xb1 xo1 h Q := by kernel_rfl
theorem T94 {xb1 : Nat} {xo1 : Nat} {h : PHeap} {Q : Value → PHeap → Prop} (hR : R94 xb1 xo1 h Q) : Tri Tryz.prog 94 [vP xb1 xo1] h Q :=
  tri_of_dn mixed Tryz.func94 rfl (by kernel_rfl) low94 res94 rfl (Eq.mpr (e94 xb1 xo1 h Q) hR)
/- (*replevin/syntax.parser).advance -/
def d139 : DCode :=
  .seq (.ops [⟨some 2, .base (.alloc 162 [vI 0, vS [], vI 0, vS [], vI 0, vI 0] false), none⟩])
 (.seq (.ops [⟨some 4, .base (.mv (.tmp 0)), none⟩,
  ⟨some 5, .base (.nilCheck (.tmp 4)), none⟩,
  ⟨some 6, .base (.fieldAddr 0 (.tmp 5)), none⟩,
  ⟨some 7, .load false [.slice] (.tmp 6), none⟩,
  ⟨some 8, .indexAddr 6 (.tmp 7) (.const (vI 0)), none⟩,
  ⟨some 9, .load true [.int .i64, .str, .int .i64, .str, .int .i64, .int .i64] (.tmp 8), none⟩,
  ⟨some 3, .base (.alloc 162 [vI 0, vS [], vI 0, vS [], vI 0, vI 0] false), none⟩,
  ⟨none, .base (.store 6 (.tmp 3) (.tmp 9)), none⟩])
 (.seq (.ops [⟨some 10, .base (.mv (.tmp 0)), none⟩,
  ⟨some 11, .base (.mv (.tmp 0)), none⟩,
  ⟨some 12, .base (.nilCheck (.tmp 11)), none⟩,
  ⟨some 13, .base (.fieldAddr 0 (.tmp 12)), none⟩,
  ⟨some 14, .load false [.slice] (.tmp 13), none⟩,
  ⟨some 15, .sliceL 6 (.tmp 14) (some (.const (vI 1))) none, none⟩,
  ⟨some 16, .base (.nilCheck (.tmp 10)), none⟩,
  ⟨some 17, .base (.fieldAddr 0 (.tmp 16)), none⟩,
  ⟨none, .heap (.store 1 (.tmp 17) (.tmp 15)), none⟩])
 (.seq (.ops [⟨some 18, .load true [.int .i64, .str, .int .i64, .str, .int .i64, .int .i64] (.tmp 3), none⟩,
  ⟨none, .base (.store 6 (.tmp 2) (.tmp 18)), none⟩])
 (.ret))))
theorem low139 : low Tryz.prog (fun _ => false) (Tryz.f139.body.getD .skip) = some (eC d139) := by kernel_rfl
theorem res139 : lowRes Tryz.prog Tryz.f139.results.toList = some [.cell 2 true 6] := by kernel_rfl
def R139 (xb1 : Nat) (xo1 : Nat) (h : PHeap) (Q : Value → PHeap → Prop) : Prop :=
  ∃ (sa1 : Option Addr) (sn1 sc1 : Nat), h.cell xb1 xo1 = some (vL sa1 sn1 sc1) ∧
  ∃ (b1 o1 : Nat), sa1 = some ⟨b1, o1, none⟩ ∧ (0 ≤ (0 : Int) ∧ (0 : Int) < sn1) ∧
  ∃ (Kind1 : Int) (Text1 : List UInt8) (Value1 : Int) (Bytes1 : List UInt8) (Line1 Column1 : Int), h.row b1 o1 [vI Kind1, vS Text1, vI Value1, vS Bytes1, vI Line1, vI Column1] ∧
  ∃ (sa2 : Option Addr) (sn2 sc2 : Nat), h.cell xb1 xo1 = some (vL sa2 sn2 sc2) ∧
  (okA sa2 sn2 sc2 ∧ 0 ≤ (1 : Int) ∧ (1 : Int) ≤ ((sn2 : Nat) : Int) ∧ ((sn2 : Nat) : Int) ≤ sc2) ∧ ∀ (a1 : Option Addr), SlA sa2 a1 1 sc2 6 →
  ∃ (l1 : List Value) (t1 : TypeId) (z1 : Nat × Nat), h xb1 = some (.cells ⟨l1⟩ t1 z1) ∧ (xo1 + 1 ≤ l1.length ∧ z1.2 ≤ xo1) ∧
  ∀ (h_1 : PHeap), h_1 = h.put xb1 (.cells ⟨splice l1 xo1 [vL a1 (((sn2 : Nat) : Int).toNat - 1) (sc2 - 1)]⟩ t1 z1) →
  Q (vA [vI Kind1, vS Text1, vI Value1, vS Bytes1, vI Line1, vI Column1]) h_1
theorem e139 (xb1 : Nat) (xo1 : Nat) (h : PHeap) (Q : Value → PHeap → Prop) : dnF Tryz.prog Tryz.f139.ntmps d139 [.cell 2 true 6] [vP xb1 xo1] h Q = R139 xb1 xo1 h Q := by kernel_rfl
theorem T139 {xb1 : Nat} {xo1 : Nat} {h : PHeap} {Q : Value → PHeap → Prop} (hR : R139 xb1 xo1 h Q) : Tri Tryz.prog 139 [vP xb1 xo1] h Q :=
  tri_of_dn mixed Tryz.func139 rfl (by kernel_rfl) low139 res139 rfl (Eq.mpr (e139 xb1 xo1 h Q) hR)
/- (*replevin/syntax.parser).binary -/
abbrev o140_0 : Op := .binOp Go.BinOp.eql 3 (Go.Operand.tmp 8) (Go.Operand.const (vI 11)) 3
abbrev o140_1 : Op := .binOp Go.BinOp.add 3 (Go.Operand.tmp 13) (Go.Operand.const (vI 1)) 3
abbrev o140_2 : Op := .binOp Go.BinOp.eql 3 (Go.Operand.tmp 26) (Go.Operand.tmp 27) 3
abbrev o140_3 : Op := .binOp Go.BinOp.add 3 (Go.Operand.tmp 33) (Go.Operand.const (vI 1)) 3
def d140 : DCode :=
  .seq (.ops [⟨some 4, .base (.alloc 48 [vI 0, vS [], vS [], vI 0, vS [], vL none 0 0, vI 0, vI 0] false), none⟩])
 (.seq (.seq (.ops [⟨some 8, .base (.mv (.tmp 1)), none⟩,
  ⟨some 9, .base (.pure o140_0 4), none⟩])
 (.cond (.tmp 9) (.seq (.ops [⟨some 10, .base (.mv (.tmp 0)), none⟩,
    ⟨some 11, .call (.func 172) [.tmp 10] (.one true [.int .i64, .str, .str, .int .i64, .str, .slice, .int .i64, .int .i64]), none⟩,
    ⟨none, .base (.store 8 (.tmp 4) (.tmp 11)), none⟩])
   (.ret))
 (.skip)))
 (.seq (.ops [⟨some 12, .base (.mv (.tmp 0)), none⟩,
  ⟨some 13, .base (.mv (.tmp 1)), none⟩,
  ⟨some 14, .base (.pure o140_1 3), none⟩,
  ⟨some 15, .call (.func 140) [.tmp 12, .tmp 14] (.one true [.int .i64, .str, .str, .int .i64, .str, .slice, .int .i64, .int .i64]), none⟩,
  ⟨some 5, .base (.alloc 48 [vI 0, vS [], vS [], vI 0, vS [], vL none 0 0, vI 0, vI 0] false), none⟩,
  ⟨none, .base (.store 8 (.tmp 5) (.tmp 15)), none⟩])
 (.seq (.block 0 (.loop [16, 17, 18, 19, 20, 21, 22, 23, 24, 25, 26, 27, 28, 29, 30, 31, 6, 32, 33, 34, 35, 7, 36, 37, 38, 39, 40, 41, 42, 43, 44, 45] [] [(5, [.int .i64, .str, .str, .int .i64, .str, .slice, .int .i64, .int .i64])] (.seq (.seq (.ops [⟨some 16, .base (.mv (.tmp 0)), none⟩,
      ⟨some 17, .call (.func 43) [.tmp 16, .const (vI 5)] (.one false [.bool]), none⟩,
      ⟨some 18, .base (.mv (.tmp 17)), none⟩,
      ⟨some 19, .base (.mv (.tmp 0)), some (18, true)⟩,
      ⟨some 20, .base (.nilCheck (.tmp 19)), some (18, true)⟩,
      ⟨some 21, .base (.fieldAddr 0 (.tmp 20)), some (18, true)⟩,
      ⟨some 22, .load false [.slice] (.tmp 21), some (18, true)⟩,
      ⟨some 23, .indexAddr 6 (.tmp 22) (.const (vI 0)), some (18, true)⟩,
      ⟨some 24, .base (.fieldAddr 1 (.tmp 23)), some (18, true)⟩,
      ⟨some 25, .load false [.str] (.tmp 24), some (18, true)⟩,
      ⟨some 26, .call (.func 26) [.tmp 25] (.one false [.int .i64]), some (18, true)⟩,
      ⟨some 27, .base (.mv (.tmp 1)), some (18, true)⟩,
      ⟨some 28, .base (.pure o140_2 4), some (18, true)⟩,
      ⟨some 29, .base (.pick (.tmp 18) (.tmp 28) (.const (vB false))), none⟩])
     (.cond (.tmp 29) (.skip)
     (.exit 0)))
     (.block 1 (.seq (.ops [⟨some 30, .base (.mv (.tmp 0)), none⟩,
        ⟨some 31, .call (.func 139) [.tmp 30] (.one true [.int .i64, .str, .int .i64, .str, .int .i64, .int .i64]), none⟩,
        ⟨some 6, .base (.alloc 162 [vI 0, vS [], vI 0, vS [], vI 0, vI 0] false), none⟩,
        ⟨none, .base (.store 6 (.tmp 6) (.tmp 31)), none⟩])
       (.seq (.ops [⟨some 32, .base (.mv (.tmp 0)), none⟩,
        ⟨some 33, .base (.mv (.tmp 1)), none⟩,
        ⟨some 34, .base (.pure o140_3 3), none⟩,
        ⟨some 35, .call (.func 140) [.tmp 32, .tmp 34] (.one true [.int .i64, .str, .str, .int .i64, .str, .slice, .int .i64, .int .i64]), none⟩,
        ⟨some 7, .base (.alloc 48 [vI 0, vS [], vS [], vI 0, vS [], vL none 0 0, vI 0, vI 0] false), none⟩,
        ⟨none, .base (.store 8 (.tmp 7) (.tmp 35)), none⟩])
       (.ops [⟨some 36, .base (.fieldAddr 1 (.tmp 6)), none⟩,
        ⟨some 37, .load false [.str] (.tmp 36), none⟩,
        ⟨some 38, .load true [.int .i64, .str, .str, .int .i64, .str, .slice, .int .i64, .int .i64] (.tmp 5), none⟩,
        ⟨some 39, .load true [.int .i64, .str, .str, .int .i64, .str, .slice, .int .i64, .int .i64] (.tmp 7), none⟩,
        ⟨some 40, .heap (.buildSlice 48 2 [vI 0, vS [], vS [], vI 0, vS [], vL none 0 0, vI 0, vI 0, vI 0, vS [], vS [], vI 0, vS [], vL none 0 0, vI 0, vI 0] [(0, 8, .tmp 38), (8, 8, .tmp 39)]), none⟩,
        ⟨some 41, .base (.fieldAddr 4 (.tmp 6)), none⟩,
        ⟨some 42, .load false [.int .i64] (.tmp 41), none⟩,
        ⟨some 43, .base (.fieldAddr 5 (.tmp 6)), none⟩,
        ⟨some 44, .load false [.int .i64] (.tmp 43), none⟩,
        ⟨some 45, .base (.build [vI 0, vS [], vS [], vI 0, vS [], vL none 0 0, vI 0, vI 0] [(0, 1, .const (vI 7)), (1, 1, .tmp 37), (5, 1, .tmp 40), (6, 1, .tmp 42), (7, 1, .tmp 44)]), none⟩,
        ⟨none, .base (.store 8 (.tmp 5) (.tmp 45)), none⟩])))))))
 (.seq (.ops [⟨some 46, .load true [.int .i64, .str, .str, .int .i64, .str, .slice, .int .i64, .int .i64] (.tmp 5), none⟩,
  ⟨none, .base (.store 8 (.tmp 4) (.tmp 46)), none⟩])
 (.ret)))))
theorem low140 : low Tryz.prog (fun _ => false) (Tryz.f140.body.getD .skip) = some (eC d140) := by kernel_rfl
theorem res140 : lowRes Tryz.prog Tryz.f140.results.toList = some [.cell 4 true 8] := by kernel_rfl
def R140 (xb1 : Nat) (xo1 : Nat) (level1 : Int) (h : PHeap) (Q : Value → PHeap → Prop) : Prop :=
  br (level1 == 11)
  (Tri Tryz.prog 172 [vP xb1 xo1] h fun v_1 h_1 =>
    ∃ (Kind1 : Int) (Op1 Name1 : List UInt8) (Value1 : Int) (Text1 : List UInt8) (Argsa1 : Option Addr) (Argsn1 Argsc1 : Nat) (Line1 Column1 : Int), v_1 = vA [vI Kind1, vS Op1, vS Name1, vI Value1, vS Text1, vL Argsa1 Argsn1 Argsc1, vI Line1, vI Column1] ∧
    Q (vA [vI Kind1, vS Op1, vS Name1, vI Value1, vS Text1, vL Argsa1 Argsn1 Argsc1, vI Line1, vI Column1]) h_1)
  (Tri Tryz.prog 140 [vP xb1 xo1, vI (IntKind.i64.wrap (level1 + 1))] h fun v_2 h_2 =>
    ∃ (Kind2 : Int) (Op2 Name2 : List UInt8) (Value2 : Int) (Text2 : List UInt8) (Argsa2 : Option Addr) (Argsn2 Argsc2 : Nat) (Line2 Column2 : Int), v_2 = vA [vI Kind2, vS Op2, vS Name2, vI Value2, vS Text2, vL Argsa2 Argsn2 Argsc2, vI Line2, vI Column2] ∧
    ∃ (I_1 : Nat → Int → List UInt8 → List UInt8 → Int → List UInt8 → Option Addr → Nat → Nat → Int → Int → PHeap → Prop), (∃ (m2 : Nat), I_1 m2 Kind2 Op2 Name2 Value2 Text2 Argsa2 Argsn2 Argsc2 Line2 Column2 h_2) ∧
    ∀ (m1 : Nat) (Kind3 : Int) (Op3 : List UInt8) (Name3 : List UInt8) (Value3 : Int) (Text3 : List UInt8) (Argsa3 : Option Addr) (Argsn3 : Nat) (Argsc3 : Nat) (Line3 : Int) (Column3 : Int) (h_3 : PHeap), I_1 m1 Kind3 Op3 Name3 Value3 Text3 Argsa3 Argsn3 Argsc3 Line3 Column3 h_3 →
    Tri Tryz.prog 43 [vP xb1 xo1, vI 5] h_3 fun v_3 h_4 =>
    ∃ (c1 : Bool), v_3 = vB c1 ∧
    br c1
    (∃ (sa1 : Option Addr) (sn1 sc1 : Nat), h_4.cell xb1 xo1 = some (vL sa1 sn1 sc1) ∧
      ∃ (b1 o1 : Nat), sa1 = some ⟨b1, o1, none⟩ ∧ (0 ≤ (0 : Int) ∧ (0 : Int) < sn1) ∧
      ∃ (l1 : List UInt8), h_4.cell b1 (o1 + 1) = some (vS l1) ∧
      Tri Tryz.prog 26 [vS l1] h_4 fun v_4 h_5 =>
      ∃ (i1 : Int), v_4 = vI i1 ∧
      br (i1 == level1)
      (Tri Tryz.prog 139 [vP xb1 xo1] h_5 fun v_5 h_6 =>
        ∃ (Kind4 : Int) (Text4 : List UInt8) (Value4 : Int) (Bytes1 : List UInt8) (Line4 Column4 : Int), v_5 = vA [vI Kind4, vS Text4, vI Value4, vS Bytes1, vI Line4, vI Column4] ∧
        Tri Tryz.prog 140 [vP xb1 xo1, vI (IntKind.i64.wrap (level1 + 1))] h_6 fun v_6 h_7 =>
        ∃ (Kind5 : Int) (Op4 Name4 : List UInt8) (Value5 : Int) (Text5 : List UInt8) (Argsa4 : Option Addr) (Argsn4 Argsc4 : Nat) (Line5 Column5 : Int), v_6 = vA [vI Kind5, vS Op4, vS Name4, vI Value5, vS Text5, vL Argsa4 Argsn4 Argsc4, vI Line5, vI Column5] ∧
        ∀ (b2 : Nat), h_7 b2 = none → ∀ (h_8 : PHeap), h_8 = h_7.put b2 (.cells ⟨[vI Kind3, vS Op3, vS Name3, vI Value3, vS Text3, vL Argsa3 Argsn3 Argsc3, vI Line3, vI Column3, vI Kind5, vS Op4, vS Name4, vI Value5, vS Text5, vL Argsa4 Argsn4 Argsc4, vI Line5, vI Column5]⟩ 48) →
        ∃ (m3 : Nat), m3 < m1 ∧ I_1 m3 (7 : Int) Text4 [] (0 : Int) [] (ad b2 0) 2 2 Line4 Column4 h_8 ∧
        ([vI 0, vS [], vS [], vI 0, vS [], vL none 0 0, vI 0, vI 0] : List Value) = ([vI 0, vS [], vS [], vI 0, vS [], vL none 0 0, vI 0, vI 0] : List Value) ∧ True)
      (Q (vA [vI Kind3, vS Op3, vS Name3, vI Value3, vS Text3, vL Argsa3 Argsn3 Argsc3, vI Line3, vI Column3]) h_5))
    (Q (vA [vI Kind3, vS Op3, vS Name3, vI Value3, vS Text3, vL Argsa3 Argsn3 Argsc3, vI Line3, vI Column3]) h_4))
theorem e140 (xb1 : Nat) (xo1 : Nat) (level1 : Int) (h : PHeap) (Q : Value → PHeap → Prop) : dnF Tryz.prog Tryz.f140.ntmps d140 [.cell 4 true 8] [vP xb1 xo1, vI level1] h Q = R140 xb1 xo1 level1 h Q := by kernel_rfl
theorem T140 {xb1 : Nat} {xo1 : Nat} {level1 : Int} {h : PHeap} {Q : Value → PHeap → Prop} (hR : R140 xb1 xo1 level1 h Q) : Tri Tryz.prog 140 [vP xb1 xo1, vI level1] h Q :=
  tri_of_dn mixed Tryz.func140 rfl (by kernel_rfl) low140 res140 rfl (Eq.mpr (e140 xb1 xo1 level1 h Q) hR)
/- (*replevin/syntax.parser).statement -/
abbrev o141_0 : Op := .lookup 79 (Go.Operand.tmp 15) (Go.Operand.tmp 22) true
abbrev o141_1 : Op := .extract (Go.Operand.tmp 11) 0
abbrev o141_2 : Op := .extract (Go.Operand.tmp 11) 1
def d141 : DCode :=
  .seq (.ops [⟨some 2, .base (.alloc 56 [vI 0, vS [], vL none 0 0, vL none 0 0, vL none 0 0, vI 0, vI 0] false), none⟩])
 (.seq (.seq (.ops [⟨some 5, .base (.mv (.tmp 0)), none⟩,
  ⟨some 6, .call (.func 43) [.tmp 5, .const (vI 1)] (.one false [.bool]), none⟩])
 (.cond (.tmp 6) (.seq (.ops [⟨some 7, .base (.mv (.tmp 0)), none⟩,
    ⟨some 8, .call (.func 173) [.tmp 7] (.one true [.int .i64, .str, .slice, .slice, .slice, .int .i64, .int .i64]), none⟩,
    ⟨none, .base (.store 7 (.tmp 2) (.tmp 8)), none⟩])
   (.ret))
 (.skip)))
 (.seq (.seq (.ops [⟨some 9, .base (.mv (.tmp 0)), none⟩,
  ⟨some 10, .call (.func 43) [.tmp 9, .const (vI 4)] (.one false [.bool]), none⟩])
 (.cond (.tmp 10) (.seq (.draw [(⟨some 12, .base (.mv (.tmp 0)), none⟩, []),
    (⟨some 13, .base (.nilCheck (.tmp 12)), none⟩, [0]),
    (⟨some 14, .base (.fieldAddr 2 (.tmp 13)), none⟩, [1]),
    (⟨some 15, .load false [.map] (.tmp 14), none⟩, [2]),
    (⟨some 16, .base (.mv (.tmp 0)), none⟩, []),
    (⟨some 17, .base (.nilCheck (.tmp 16)), none⟩, [4]),
    (⟨some 18, .base (.fieldAddr 0 (.tmp 17)), none⟩, [5]),
    (⟨some 19, .load false [.slice] (.tmp 18), none⟩, [6]),
    (⟨some 20, .indexAddr 6 (.tmp 19) (.const (vI 0)), none⟩, [7]),
    (⟨some 21, .base (.fieldAddr 1 (.tmp 20)), none⟩, [8]),
    (⟨some 22, .load false [.str] (.tmp 21), none⟩, [9]),
    (⟨some 23, .raw o141_0 235 (.tup [(false, [.any]), (false, [.bool])]), none⟩, [3, 10]),
    (⟨some 11, .base (.mv (.tmp 23)), none⟩, [11]),
    (⟨some 24, .base (.pure o141_1 82), none⟩, [12]),
    (⟨some 25, .base (.pure o141_2 4), none⟩, [12]),
    (⟨some 3, .base (.mv (.tmp 24)), none⟩, [13, 0, 1, 2, 3, 4, 5, 6, 7, 8, 9, 10, 11, 12, 13]),
    (⟨some 4, .base (.mv (.tmp 25)), none⟩, [14, 15, 0, 1, 2, 3, 4, 5, 6, 7, 8, 9, 10, 11, 12, 13, 14, 15])])
   (.seq (.ops [⟨some 26, .base (.mv (.tmp 4)), none⟩])
   (.cond (.tmp 26) (.seq (.ops [⟨some 27, .base (.mv (.tmp 3)), none⟩,
      ⟨some 28, .callA (.tmp 27) [] (.one true [.int .i64, .str, .slice, .slice, .slice, .int .i64, .int .i64]), none⟩,
      ⟨none, .base (.store 7 (.tmp 2) (.tmp 28)), none⟩])
     (.ret))
   (.skip))))
 (.skip)))
 (.seq (.ops [⟨some 29, .base (.mv (.tmp 0)), none⟩,
  ⟨some 30, .call (.func 47) [.tmp 29, .const (vI 30)] (.tup []), none⟩])
 (.seq (.ops [⟨some 31, .base (.build [vI 0, vS [], vL none 0 0, vL none 0 0, vL none 0 0, vI 0, vI 0] []), none⟩,
  ⟨none, .base (.store 7 (.tmp 2) (.tmp 31)), none⟩])
 (.ret)))))
theorem low141 : low Tryz.prog (fun _ => false) (Tryz.f141.body.getD .skip) = some (eC d141) := by kernel_rfl
theorem res141 : lowRes Tryz.prog Tryz.f141.results.toList = some [.cell 2 true 7] := by kernel_rfl
def R141 (xb1 : Nat) (xo1 : Nat) (h : PHeap) (Q : Value → PHeap → Prop) : Prop :=
  Tri Tryz.prog 43 [vP xb1 xo1, vI 1] h fun v_1 h_1 =>
  ∃ (c1 : Bool), v_1 = vB c1 ∧
  br c1
  (Tri Tryz.prog 173 [vP xb1 xo1] h_1 fun v_2 h_2 =>
    ∃ (Kind1 : Int) (Name1 : List UInt8) (Argsa1 : Option Addr) (Argsn1 Argsc1 : Nat) (Bodya1 : Option Addr) (Bodyn1 Bodyc1 : Nat) (Elsea1 : Option Addr) (Elsen1 Elsec1 : Nat) (Line1 Column1 : Int), v_2 = vA [vI Kind1, vS Name1, vL Argsa1 Argsn1 Argsc1, vL Bodya1 Bodyn1 Bodyc1, vL Elsea1 Elsen1 Elsec1, vI Line1, vI Column1] ∧
    Q (vA [vI Kind1, vS Name1, vL Argsa1 Argsn1 Argsc1, vL Bodya1 Bodyn1 Bodyc1, vL Elsea1 Elsen1 Elsec1, vI Line1, vI Column1]) h_2)
  (Tri Tryz.prog 43 [vP xb1 xo1, vI 4] h_1 fun v_3 h_3 =>
    ∃ (c2 : Bool), v_3 = vB c2 ∧
    br c2
    (∃ (m1 : Nat), h_3.cell xb1 (xo1 + 2) = some (vM m1) ∧
      ∃ (sa1 : Option Addr) (sn1 sc1 : Nat), h_3.cell xb1 xo1 = some (vL sa1 sn1 sc1) ∧
      ∃ (b1 o1 : Nat), sa1 = some ⟨b1, o1, none⟩ ∧ (0 ≤ (0 : Int) ∧ (0 : Int) < sn1) ∧
      ∃ (l1 : List UInt8), h_3.cell b1 (o1 + 1) = some (vS l1) ∧
      Raw Tryz.prog (execOp (rho [(15, vM m1), (22, vS l1)]) (mkO o141_0 235)) h_3 fun v_4 h_4 =>
      ∃ (u1 : Value) (c3 : Bool), v_4 = vT [u1, vB c3] ∧
      (h_4.cell xb1 xo1 = some (vL sa1 sn1 sc1)) ∧
      br c3
      (∃ (f1 : Nat) (x1 y1 : List Value), u1 = vF f1 x1 y1 ∧
        Tri Tryz.prog f1 (x1 ++ [] ++ y1) h_4 fun v_5 h_5 =>
        ∃ (Kind2 : Int) (Name2 : List UInt8) (Argsa2 : Option Addr) (Argsn2 Argsc2 : Nat) (Bodya2 : Option Addr) (Bodyn2 Bodyc2 : Nat) (Elsea2 : Option Addr) (Elsen2 Elsec2 : Nat) (Line2 Column2 : Int), v_5 = vA [vI Kind2, vS Name2, vL Argsa2 Argsn2 Argsc2, vL Bodya2 Bodyn2 Bodyc2, vL Elsea2 Elsen2 Elsec2, vI Line2, vI Column2] ∧
        Q (vA [vI Kind2, vS Name2, vL Argsa2 Argsn2 Argsc2, vL Bodya2 Bodyn2 Bodyc2, vL Elsea2 Elsen2 Elsec2, vI Line2, vI Column2]) h_5)
      (Tri Tryz.prog 47 [vP xb1 xo1, vI 30] h_4 fun v_6 h_6 =>
        v_6 = vT [] ∧
        Q (vA [vI 0, vS [], vL none 0 0, vL none 0 0, vL none 0 0, vI 0, vI 0]) h_6))
    (Tri Tryz.prog 47 [vP xb1 xo1, vI 30] h_3 fun v_7 h_7 =>
      v_7 = vT [] ∧
      Q (vA [vI 0, vS [], vL none 0 0, vL none 0 0, vL none 0 0, vI 0, vI 0]) h_7))
theorem e141 (xb1 : Nat) (xo1 : Nat) (h : PHeap) (Q : Value → PHeap → Prop) : dnF Tryz.prog Tryz.f141.ntmps d141 [.cell 2 true 7] [vP xb1 xo1] h Q = R141 xb1 xo1 h Q := by kernel_rfl
theorem T141 {xb1 : Nat} {xo1 : Nat} {h : PHeap} {Q : Value → PHeap → Prop} (hR : R141 xb1 xo1 h Q) : Tri Tryz.prog 141 [vP xb1 xo1] h Q :=
  tri_of_dn mixed Tryz.func141 rfl (by kernel_rfl) low141 res141 rfl (Eq.mpr (e141 xb1 xo1 h Q) hR)
/- (*replevin/syntax.parser).unary -/
abbrev o172_0 : Op := .unOp Go.UnOp.not 4 (Go.Operand.tmp 7)
def d172 : DCode :=
  .seq (.ops [⟨some 2, .base (.alloc 48 [vI 0, vS [], vS [], vI 0, vS [], vL none 0 0, vI 0, vI 0] false), none⟩])
 (.seq (.seq (.ops [⟨some 4, .heap (.buildSlice 9 3 [vS [], vS [], vS []] [(0, 1, .const (vS [45])), (1, 1, .const (vS [33])), (2, 1, .const (vS [126]))]), none⟩,
  ⟨some 5, .base (.mv (.tmp 0)), none⟩,
  ⟨some 6, .mkF 44 [.tmp 5] [] 40, none⟩,
  ⟨some 7, .call (.func 191) [.tmp 4, .tmp 6] (.one false [.bool]), none⟩,
  ⟨some 8, .base (.pure o172_0 4), none⟩])
 (.cond (.tmp 8) (.seq (.ops [⟨some 9, .base (.mv (.tmp 0)), none⟩,
    ⟨some 10, .call (.func 192) [.tmp 9] (.one true [.int .i64, .str, .str, .int .i64, .str, .slice, .int .i64, .int .i64]), none⟩,
    ⟨none, .base (.store 8 (.tmp 2) (.tmp 10)), none⟩])
   (.ret))
 (.skip)))
 (.seq (.ops [⟨some 11, .base (.mv (.tmp 0)), none⟩,
  ⟨some 12, .call (.func 139) [.tmp 11] (.one true [.int .i64, .str, .int .i64, .str, .int .i64, .int .i64]), none⟩,
  ⟨some 3, .base (.alloc 162 [vI 0, vS [], vI 0, vS [], vI 0, vI 0] false), none⟩,
  ⟨none, .base (.store 6 (.tmp 3) (.tmp 12)), none⟩])
 (.seq (.draw [(⟨some 13, .base (.fieldAddr 1 (.tmp 3)), none⟩, []),
  (⟨some 14, .load false [.str] (.tmp 13), none⟩, [0]),
  (⟨some 15, .base (.mv (.tmp 0)), none⟩, []),
  (⟨some 16, .call (.func 172) [.tmp 15] (.one true [.int .i64, .str, .str, .int .i64, .str, .slice, .int .i64, .int .i64]), none⟩, [2]),
  (⟨some 17, .heap (.buildSlice 48 1 [vI 0, vS [], vS [], vI 0, vS [], vL none 0 0, vI 0, vI 0] [(0, 8, .tmp 16)]), none⟩, [3]),
  (⟨some 18, .base (.fieldAddr 4 (.tmp 3)), none⟩, []),
  (⟨some 19, .load false [.int .i64] (.tmp 18), none⟩, [5]),
  (⟨some 20, .base (.fieldAddr 5 (.tmp 3)), none⟩, []),
  (⟨some 21, .load false [.int .i64] (.tmp 20), none⟩, [7]),
  (⟨some 22, .base (.build [vI 0, vS [], vS [], vI 0, vS [], vL none 0 0, vI 0, vI 0] [(0, 1, .const (vI 6)), (1, 1, .tmp 14), (5, 1, .tmp 17), (6, 1, .tmp 19), (7, 1, .tmp 21)]), none⟩, [1, 4, 6, 8]),
  (⟨none, .base (.store 8 (.tmp 2) (.tmp 22)), none⟩, [9, 3, 0, 1, 2, 3, 4, 5, 6, 7, 8, 9])])
 (.ret))))
theorem low172 : low Tryz.prog (fun _ => false) (Tryz.f172.body.getD .skip) = some (eC d172) := by kernel_rfl
theorem res172 : lowRes Tryz.prog Tryz.f172.results.toList = some [.cell 2 true 8] := by kernel_rfl
def R172 (xb1 : Nat) (xo1 : Nat) (h : PHeap) (Q : Value → PHeap → Prop) : Prop :=
  ∀ (b1 : Nat), h b1 = none → ∀ (h_1 : PHeap), h_1 = h.put b1 (.cells ⟨[vS [45], vS [33], vS [126]]⟩ 9) →
  Tri Tryz.prog 191 [vL (ad b1 0) 3 3, vF 44 [vP xb1 xo1] []] h_1 fun v_1 h_2 =>
  ∃ (c1 : Bool), v_1 = vB c1 ∧
  br (!c1)
  (Tri Tryz.prog 192 [vP xb1 xo1] h_2 fun v_2 h_3 =>
    ∃ (Kind1 : Int) (Op1 Name1 : List UInt8) (Value1 : Int) (Text1 : List UInt8) (Argsa1 : Option Addr) (Argsn1 Argsc1 : Nat) (Line1 Column1 : Int), v_2 = vA [vI Kind1, vS Op1, vS Name1, vI Value1, vS Text1, vL Argsa1 Argsn1 Argsc1, vI Line1, vI Column1] ∧
    Q (vA [vI Kind1, vS Op1, vS Name1, vI Value1, vS Text1, vL Argsa1 Argsn1 Argsc1, vI Line1, vI Column1]) h_3)
  (Tri Tryz.prog 139 [vP xb1 xo1] h_2 fun v_3 h_4 =>
    ∃ (Kind2 : Int) (Text2 : List UInt8) (Value2 : Int) (Bytes1 : List UInt8) (Line2 Column2 : Int), v_3 = vA [vI Kind2, vS Text2, vI Value2, vS Bytes1, vI Line2, vI Column2] ∧
    Tri Tryz.prog 172 [vP xb1 xo1] h_4 fun v_4 h_5 =>
    ∃ (Kind3 : Int) (Op2 Name2 : List UInt8) (Value3 : Int) (Text3 : List UInt8) (Argsa2 : Option Addr) (Argsn2 Argsc2 : Nat) (Line3 Column3 : Int), v_4 = vA [vI Kind3, vS Op2, vS Name2, vI Value3, vS Text3, vL Argsa2 Argsn2 Argsc2, vI Line3, vI Column3] ∧
    (([vI Column2] : List Value) = ([vI Column2] : List Value)) ∧
    (([vI Line2] : List Value) = ([vI Line2] : List Value)) ∧
    (([vS Text2] : List Value) = ([vS Text2] : List Value)) ∧
    ∀ (b2 : Nat), h_5 b2 = none → ∀ (h_6 : PHeap), h_6 = h_5.put b2 (.cells ⟨[vI Kind3, vS Op2, vS Name2, vI Value3, vS Text3, vL Argsa2 Argsn2 Argsc2, vI Line3, vI Column3]⟩ 48) →
    (([vI Column2] : List Value) = ([vI Column2] : List Value)) ∧
    (([vI Line2] : List Value) = ([vI Line2] : List Value)) ∧
    (([vS Text2] : List Value) = ([vS Text2] : List Value)) ∧
    Q (vA [vI 6, vS Text2, vS [], vI 0, vS [], vL (ad b2 0) 1 1, vI Line2, vI Column2]) h_6)
theorem e172 (xb1 : Nat) (xo1 : Nat) (h : PHeap) (Q : Value → PHeap → Prop) : dnF Tryz.prog Tryz.f172.ntmps d172 [.cell 2 true 8] [vP xb1 xo1] h Q = R172 xb1 xo1 h Q := by kernel_rfl
theorem T172 {xb1 : Nat} {xo1 : Nat} {h : PHeap} {Q : Value → PHeap → Prop} (hR : R172 xb1 xo1 h Q) : Tri Tryz.prog 172 [vP xb1 xo1] h Q :=
  tri_of_dn mixed Tryz.func172 rfl (by kernel_rfl) low172 res172 rfl (Eq.mpr (e172 xb1 xo1 h Q) hR)
/- (*replevin/syntax.parser).named -/
def d173 : DCode :=
  .seq (.ops [⟨some 2, .base (.alloc 56 [vI 0, vS [], vL none 0 0, vL none 0 0, vL none 0 0, vI 0, vI 0] false), none⟩])
 (.seq (.ops [⟨some 6, .base (.mv (.tmp 0)), none⟩,
  ⟨some 7, .base (.nilCheck (.tmp 6)), none⟩,
  ⟨some 8, .base (.fieldAddr 0 (.tmp 7)), none⟩,
  ⟨some 9, .load false [.slice] (.tmp 8), none⟩,
  ⟨some 10, .indexAddr 6 (.tmp 9) (.const (vI 0)), none⟩,
  ⟨some 11, .load true [.int .i64, .str, .int .i64, .str, .int .i64, .int .i64] (.tmp 10), none⟩,
  ⟨some 3, .base (.alloc 162 [vI 0, vS [], vI 0, vS [], vI 0, vI 0] false), none⟩,
  ⟨none, .base (.store 6 (.tmp 3) (.tmp 11)), none⟩])
 (.seq (.ops [⟨some 12, .base (.mv (.tmp 0)), none⟩,
  ⟨some 13, .call (.func 88) [.tmp 12, .const (vI 2)] (.one true [.int .i64, .str, .slice, .slice, .slice, .int .i64, .int .i64]), none⟩,
  ⟨some 4, .base (.alloc 56 [vI 0, vS [], vL none 0 0, vL none 0 0, vL none 0 0, vI 0, vI 0] false), none⟩,
  ⟨none, .base (.store 7 (.tmp 4) (.tmp 13)), none⟩])
 (.seq (.block 0 (.seq (.ops [⟨some 21, .base (.mv (.tmp 0)), none⟩,
    ⟨some 22, .call (.func 90) [.tmp 21, .const (vS [61])] (.one false [.bool]), none⟩,
    ⟨some 20, .base (.mv (.tmp 22)), none⟩])
   (.cond (.tmp 20) (.seq (.ops [⟨some 23, .base (.fieldAddr 1 (.tmp 3)), none⟩,
      ⟨some 24, .load false [.str] (.tmp 23), none⟩,
      ⟨some 25, .base (.fieldAddr 1 (.tmp 4)), none⟩,
      ⟨none, .base (.store 1 (.tmp 25) (.tmp 24)), none⟩])
     (.ops [⟨some 26, .base (.mv (.tmp 0)), none⟩,
      ⟨some 27, .call (.func 91) [.tmp 26] (.one true [.int .i64, .str, .str, .int .i64, .str, .slice, .int .i64, .int .i64]), none⟩,
      ⟨some 28, .heap (.buildSlice 48 1 [vI 0, vS [], vS [], vI 0, vS [], vL none 0 0, vI 0, vI 0] [(0, 8, .tmp 27)]), none⟩,
      ⟨some 29, .base (.fieldAddr 2 (.tmp 4)), none⟩,
      ⟨none, .base (.store 1 (.tmp 29) (.tmp 28)), none⟩]))
   (.seq (.ops [⟨some 31, .base (.mv (.tmp 0)), none⟩,
      ⟨some 32, .call (.func 90) [.tmp 31, .const (vS [91])] (.one false [.bool]), none⟩,
      ⟨some 30, .base (.mv (.tmp 32)), none⟩])
     (.cond (.tmp 30) (.seq (.draw [(⟨some 33, .base (.fieldAddr 1 (.tmp 3)), none⟩, []),
        (⟨some 34, .load false [.str] (.tmp 33), none⟩, [0]),
        (⟨some 35, .base (.fieldAddr 0 (.tmp 4)), none⟩, []),
        (⟨none, .base (.store 1 (.tmp 35) (.const (vI 3))), none⟩, [2]),
        (⟨some 36, .base (.fieldAddr 1 (.tmp 4)), none⟩, [0, 1, 2, 3]),
        (⟨none, .base (.store 1 (.tmp 36) (.tmp 34)), none⟩, [4, 1, 3, 0, 1, 2, 3])])
       (.seq (.ops [⟨some 37, .base (.mv (.tmp 0)), none⟩,
        ⟨some 38, .call (.func 91) [.tmp 37] (.one true [.int .i64, .str, .str, .int .i64, .str, .slice, .int .i64, .int .i64]), none⟩,
        ⟨some 5, .base (.alloc 48 [vI 0, vS [], vS [], vI 0, vS [], vL none 0 0, vI 0, vI 0] false), none⟩,
        ⟨none, .base (.store 8 (.tmp 5) (.tmp 38)), none⟩])
       (.seq (.ops [⟨some 39, .base (.mv (.tmp 0)), none⟩,
        ⟨some 40, .call (.func 92) [.tmp 39, .const (vS [93])] (.tup []), none⟩])
       (.seq (.ops [⟨some 41, .base (.mv (.tmp 0)), none⟩,
        ⟨some 42, .call (.func 92) [.tmp 41, .const (vS [61])] (.tup []), none⟩])
       (.draw [(⟨some 43, .load true [.int .i64, .str, .str, .int .i64, .str, .slice, .int .i64, .int .i64] (.tmp 5), none⟩, []),
        (⟨some 44, .base (.mv (.tmp 0)), none⟩, []),
        (⟨some 45, .call (.func 91) [.tmp 44] (.one true [.int .i64, .str, .str, .int .i64, .str, .slice, .int .i64, .int .i64]), none⟩, [1]),
        (⟨some 46, .heap (.buildSlice 48 2 [vI 0, vS [], vS [], vI 0, vS [], vL none 0 0, vI 0, vI 0, vI 0, vS [], vS [], vI 0, vS [], vL none 0 0, vI 0, vI 0] [(0, 8, .tmp 43), (8, 8, .tmp 45)]), none⟩, [0, 2]),
        (⟨some 47, .base (.fieldAddr 2 (.tmp 4)), none⟩, [0, 1, 2, 3]),
        (⟨none, .base (.store 1 (.tmp 47) (.tmp 46)), none⟩, [4, 3, 2, 0, 1, 2, 3])])))))
     (.seq (.ops [⟨some 14, .base (.fieldAddr 0 (.tmp 4)), none⟩,
        ⟨none, .base (.store 1 (.tmp 14) (.const (vI 4))), none⟩])
       (.ops [⟨some 15, .base (.mv (.tmp 0)), none⟩,
        ⟨some 16, .load true [.int .i64, .str, .int .i64, .str, .int .i64, .int .i64] (.tmp 3), none⟩,
        ⟨some 17, .call (.func 193) [.tmp 15, .tmp 16] (.one true [.int .i64, .str, .str, .int .i64, .str, .slice, .int .i64, .int .i64]), none⟩,
        ⟨some 18, .heap (.buildSlice 48 1 [vI 0, vS [], vS [], vI 0, vS [], vL none 0 0, vI 0, vI 0] [(0, 8, .tmp 17)]), none⟩,
        ⟨some 19, .base (.fieldAddr 2 (.tmp 4)), none⟩,
        ⟨none, .base (.store 1 (.tmp 19) (.tmp 18)), none⟩])))))))
 (.seq (.ops [⟨some 48, .base (.mv (.tmp 0)), none⟩,
  ⟨some 49, .call (.func 92) [.tmp 48, .const (vS [59])] (.tup []), none⟩])
 (.seq (.ops [⟨some 50, .load true [.int .i64, .str, .slice, .slice, .slice, .int .i64, .int .i64] (.tmp 4), none⟩,
  ⟨none, .base (.store 7 (.tmp 2) (.tmp 50)), none⟩])
 (.ret))))))
theorem low173 : low Tryz.prog (fun _ => false) (Tryz.f173.body.getD .skip) = some (eC d173) := by kernel_rfl
theorem res173 : lowRes Tryz.prog Tryz.f173.results.toList = some [.cell 2 true 7] := by kernel_rfl
def R173 (xb1 : Nat) (xo1 : Nat) (h : PHeap) (Q : Value → PHeap → Prop) : Prop :=
  ∃ (sa1 : Option Addr) (sn1 sc1 : Nat), h.cell xb1 xo1 = some (vL sa1 sn1 sc1) ∧
  ∃ (b1 o1 : Nat), sa1 = some ⟨b1, o1, none⟩ ∧ (0 ≤ (0 : Int) ∧ (0 : Int) < sn1) ∧
  ∃ (Kind1 : Int) (Text1 : List UInt8) (Value1 : Int) (Bytes1 : List UInt8) (Line1 Column1 : Int), h.row b1 o1 [vI Kind1, vS Text1, vI Value1, vS Bytes1, vI Line1, vI Column1] ∧
  Tri Tryz.prog 88 [vP xb1 xo1, vI 2] h fun v_1 h_1 =>
  ∃ (Kind2 : Int) (Name1 : List UInt8) (Argsa1 : Option Addr) (Argsn1 Argsc1 : Nat) (Bodya1 : Option Addr) (Bodyn1 Bodyc1 : Nat) (Elsea1 : Option Addr) (Elsen1 Elsec1 : Nat) (Line2 Column2 : Int), v_1 = vA [vI Kind2, vS Name1, vL Argsa1 Argsn1 Argsc1, vL Bodya1 Bodyn1 Bodyc1, vL Elsea1 Elsen1 Elsec1, vI Line2, vI Column2] ∧
  Tri Tryz.prog 90 [vP xb1 xo1, vS [61]] h_1 fun v_2 h_2 =>
  ∃ (c1 : Bool), v_2 = vB c1 ∧
  br c1
  (Tri Tryz.prog 91 [vP xb1 xo1] h_2 fun v_3 h_3 =>
    ∃ (Kind3 : Int) (Op1 Name2 : List UInt8) (Value2 : Int) (Text2 : List UInt8) (Argsa2 : Option Addr) (Argsn2 Argsc2 : Nat) (Line3 Column3 : Int), v_3 = vA [vI Kind3, vS Op1, vS Name2, vI Value2, vS Text2, vL Argsa2 Argsn2 Argsc2, vI Line3, vI Column3] ∧
    ∀ (b2 : Nat), h_3 b2 = none → ∀ (h_4 : PHeap), h_4 = h_3.put b2 (.cells ⟨[vI Kind3, vS Op1, vS Name2, vI Value2, vS Text2, vL Argsa2 Argsn2 Argsc2, vI Line3, vI Column3]⟩ 48) →
    Tri Tryz.prog 92 [vP xb1 xo1, vS [59]] h_4 fun v_4 h_5 =>
    v_4 = vT [] ∧
    Q (vA [vI Kind2, vS Text1, vL (ad b2 0) 1 1, vL Bodya1 Bodyn1 Bodyc1, vL Elsea1 Elsen1 Elsec1, vI Line2, vI Column2]) h_5)
  (Tri Tryz.prog 90 [vP xb1 xo1, vS [91]] h_2 fun v_5 h_6 =>
    ∃ (c2 : Bool), v_5 = vB c2 ∧
    br c2
    ((([vS Text1] : List Value) = ([vS Text1] : List Value)) ∧
      Tri Tryz.prog 91 [vP xb1 xo1] h_6 fun v_6 h_7 =>
      ∃ (Kind4 : Int) (Op2 Name3 : List UInt8) (Value3 : Int) (Text3 : List UInt8) (Argsa3 : Option Addr) (Argsn3 Argsc3 : Nat) (Line4 Column4 : Int), v_6 = vA [vI Kind4, vS Op2, vS Name3, vI Value3, vS Text3, vL Argsa3 Argsn3 Argsc3, vI Line4, vI Column4] ∧
      Tri Tryz.prog 92 [vP xb1 xo1, vS [93]] h_7 fun v_7 h_8 =>
      v_7 = vT [] ∧
      Tri Tryz.prog 92 [vP xb1 xo1, vS [61]] h_8 fun v_8 h_9 =>
      v_8 = vT [] ∧
      Tri Tryz.prog 91 [vP xb1 xo1] h_9 fun v_9 h_10 =>
      ∃ (Kind5 : Int) (Op3 Name4 : List UInt8) (Value4 : Int) (Text4 : List UInt8) (Argsa4 : Option Addr) (Argsn4 Argsc4 : Nat) (Line5 Column5 : Int), v_9 = vA [vI Kind5, vS Op3, vS Name4, vI Value4, vS Text4, vL Argsa4 Argsn4 Argsc4, vI Line5, vI Column5] ∧
      (([vI Kind4, vS Op2, vS Name3, vI Value3, vS Text3, vL Argsa3 Argsn3 Argsc3, vI Line4, vI Column4] : List Value) = ([vI Kind4, vS Op2, vS Name3, vI Value3, vS Text3, vL Argsa3 Argsn3 Argsc3, vI Line4, vI Column4] : List Value)) ∧
      ∀ (b3 : Nat), h_10 b3 = none → ∀ (h_11 : PHeap), h_11 = h_10.put b3 (.cells ⟨[vI Kind4, vS Op2, vS Name3, vI Value3, vS Text3, vL Argsa3 Argsn3 Argsc3, vI Line4, vI Column4, vI Kind5, vS Op3, vS Name4, vI Value4, vS Text4, vL Argsa4 Argsn4 Argsc4, vI Line5, vI Column5]⟩ 48) →
      Tri Tryz.prog 92 [vP xb1 xo1, vS [59]] h_11 fun v_10 h_12 =>
      v_10 = vT [] ∧
      Q (vA [vI 3, vS Text1, vL (ad b3 0) 2 2, vL Bodya1 Bodyn1 Bodyc1, vL Elsea1 Elsen1 Elsec1, vI Line2, vI Column2]) h_12)
    (Tri Tryz.prog 193 [vP xb1 xo1, vA [vI Kind1, vS Text1, vI Value1, vS Bytes1, vI Line1, vI Column1]] h_6 fun v_11 h_13 =>
      ∃ (Kind6 : Int) (Op4 Name5 : List UInt8) (Value5 : Int) (Text5 : List UInt8) (Argsa5 : Option Addr) (Argsn5 Argsc5 : Nat) (Line6 Column6 : Int), v_11 = vA [vI Kind6, vS Op4, vS Name5, vI Value5, vS Text5, vL Argsa5 Argsn5 Argsc5, vI Line6, vI Column6] ∧
      ∀ (b4 : Nat), h_13 b4 = none → ∀ (h_14 : PHeap), h_14 = h_13.put b4 (.cells ⟨[vI Kind6, vS Op4, vS Name5, vI Value5, vS Text5, vL Argsa5 Argsn5 Argsc5, vI Line6, vI Column6]⟩ 48) →
      Tri Tryz.prog 92 [vP xb1 xo1, vS [59]] h_14 fun v_12 h_15 =>
      v_12 = vT [] ∧
      Q (vA [vI 4, vS Name1, vL (ad b4 0) 1 1, vL Bodya1 Bodyn1 Bodyc1, vL Elsea1 Elsen1 Elsec1, vI Line2, vI Column2]) h_15))
theorem e173 (xb1 : Nat) (xo1 : Nat) (h : PHeap) (Q : Value → PHeap → Prop) : dnF Tryz.prog Tryz.f173.ntmps d173 [.cell 2 true 7] [vP xb1 xo1] h Q = R173 xb1 xo1 h Q := by kernel_rfl
theorem T173 {xb1 : Nat} {xo1 : Nat} {h : PHeap} {Q : Value → PHeap → Prop} (hR : R173 xb1 xo1 h Q) : Tri Tryz.prog 173 [vP xb1 xo1] h Q :=
  tri_of_dn mixed Tryz.func173 rfl (by kernel_rfl) low173 res173 rfl (Eq.mpr (e173 xb1 xo1 h Q) hR)
/- (*replevin/syntax.parser).primary -/
abbrev o192_0 : Op := .binOp Go.BinOp.neq 27 (Go.Operand.tmp 40) (Go.Operand.const (vI 0)) 27
def d192 : DCode :=
  .seq (.ops [⟨some 2, .base (.alloc 48 [vI 0, vS [], vS [], vI 0, vS [], vL none 0 0, vI 0, vI 0] false), none⟩])
 (.seq (.block 0 (.seq (.ops [⟨some 7, .base (.mv (.tmp 0)), none⟩,
    ⟨some 8, .call (.func 43) [.tmp 7, .const (vI 2)] (.one false [.bool]), none⟩,
    ⟨some 6, .base (.mv (.tmp 8)), none⟩])
   (.cond (.tmp 6) (.seq (.ops [⟨some 9, .base (.mv (.tmp 0)), none⟩,
      ⟨some 10, .call (.func 139) [.tmp 9] (.one true [.int .i64, .str, .int .i64, .str, .int .i64, .int .i64]), none⟩,
      ⟨some 3, .base (.alloc 162 [vI 0, vS [], vI 0, vS [], vI 0, vI 0] false), none⟩,
      ⟨none, .base (.store 6 (.tmp 3) (.tmp 10)), none⟩])
     (.seq (.ops [⟨some 11, .base (.fieldAddr 2 (.tmp 3)), none⟩,
      ⟨some 12, .load false [.int .i64] (.tmp 11), none⟩,
      ⟨some 13, .base (.fieldAddr 4 (.tmp 3)), none⟩,
      ⟨some 14, .load false [.int .i64] (.tmp 13), none⟩,
      ⟨some 15, .base (.fieldAddr 5 (.tmp 3)), none⟩,
      ⟨some 16, .load false [.int .i64] (.tmp 15), none⟩,
      ⟨some 17, .base (.build [vI 0, vS [], vS [], vI 0, vS [], vL none 0 0, vI 0, vI 0] [(0, 1, .const (vI 1)), (3, 1, .tmp 12), (6, 1, .tmp 14), (7, 1, .tmp 16)]), none⟩,
      ⟨none, .base (.store 8 (.tmp 2) (.tmp 17)), none⟩])
     (.ret)))
   (.seq (.ops [⟨some 19, .base (.mv (.tmp 0)), none⟩,
      ⟨some 20, .call (.func 43) [.tmp 19, .const (vI 3)] (.one false [.bool]), none⟩,
      ⟨some 18, .base (.mv (.tmp 20)), none⟩])
     (.cond (.tmp 18) (.seq (.ops [⟨some 21, .base (.mv (.tmp 0)), none⟩,
        ⟨some 22, .call (.func 139) [.tmp 21] (.one true [.int .i64, .str, .int .i64, .str, .int .i64, .int .i64]), none⟩,
        ⟨some 4, .base (.alloc 162 [vI 0, vS [], vI 0, vS [], vI 0, vI 0] false), none⟩,
        ⟨none, .base (.store 6 (.tmp 4) (.tmp 22)), none⟩])
       (.seq (.ops [⟨some 23, .base (.fieldAddr 3 (.tmp 4)), none⟩,
        ⟨some 24, .load false [.str] (.tmp 23), none⟩,
        ⟨some 25, .base (.fieldAddr 4 (.tmp 4)), none⟩,
        ⟨some 26, .load false [.int .i64] (.tmp 25), none⟩,
        ⟨some 27, .base (.fieldAddr 5 (.tmp 4)), none⟩,
        ⟨some 28, .load false [.int .i64] (.tmp 27), none⟩,
        ⟨some 29, .base (.build [vI 0, vS [], vS [], vI 0, vS [], vL none 0 0, vI 0, vI 0] [(0, 1, .const (vI 2)), (4, 1, .tmp 24), (6, 1, .tmp 26), (7, 1, .tmp 28)]), none⟩,
        ⟨none, .base (.store 8 (.tmp 2) (.tmp 29)), none⟩])
       (.ret)))
     (.seq (.ops [⟨some 31, .base (.mv (.tmp 0)), none⟩,
        ⟨some 32, .call (.func 43) [.tmp 31, .const (vI 1)] (.one false [.bool]), none⟩,
        ⟨some 30, .base (.mv (.tmp 32)), none⟩])
       (.cond (.tmp 30) (.seq (.ops [⟨some 33, .base (.mv (.tmp 0)), none⟩,
          ⟨some 34, .call (.func 202) [.tmp 33] (.one true [.int .i64, .str, .str, .int .i64, .str, .slice, .int .i64, .int .i64]), none⟩,
          ⟨none, .base (.store 8 (.tmp 2) (.tmp 34)), none⟩])
         (.ret))
       (.skip))))))))
 (.seq (.ops [⟨some 35, .base (.mv (.tmp 0)), none⟩,
  ⟨some 36, .call (.func 92) [.tmp 35, .const (vS [40])] (.tup []), none⟩])
 (.seq (.seq (.ops [⟨some 37, .base (.mv (.tmp 0)), none⟩,
  ⟨some 38, .base (.nilCheck (.tmp 37)), none⟩,
  ⟨some 39, .base (.fieldAddr 5 (.tmp 38)), none⟩,
  ⟨some 40, .load false [.int .i64] (.tmp 39), none⟩,
  ⟨some 41, .base (.pure o192_0 4), none⟩])
 (.cond (.tmp 41) (.seq (.ops [⟨some 42, .base (.build [vI 0, vS [], vS [], vI 0, vS [], vL none 0 0, vI 0, vI 0] []), none⟩,
    ⟨none, .base (.store 8 (.tmp 2) (.tmp 42)), none⟩])
   (.ret))
 (.skip)))
 (.seq (.ops [⟨some 43, .base (.mv (.tmp 0)), none⟩,
  ⟨some 44, .call (.func 91) [.tmp 43] (.one true [.int .i64, .str, .str, .int .i64, .str, .slice, .int .i64, .int .i64]), none⟩,
  ⟨some 5, .base (.alloc 48 [vI 0, vS [], vS [], vI 0, vS [], vL none 0 0, vI 0, vI 0] false), none⟩,
  ⟨none, .base (.store 8 (.tmp 5) (.tmp 44)), none⟩])
 (.seq (.ops [⟨some 45, .base (.mv (.tmp 0)), none⟩,
  ⟨some 46, .call (.func 92) [.tmp 45, .const (vS [41])] (.tup []), none⟩])
 (.seq (.ops [⟨some 47, .load true [.int .i64, .str, .str, .int .i64, .str, .slice, .int .i64, .int .i64] (.tmp 5), none⟩,
  ⟨none, .base (.store 8 (.tmp 2) (.tmp 47)), none⟩])
 (.ret)))))))
theorem low192 : low Tryz.prog (fun _ => false) (Tryz.f192.body.getD .skip) = some (eC d192) := by kernel_rfl
theorem res192 : lowRes Tryz.prog Tryz.f192.results.toList = some [.cell 2 true 8] := by kernel_rfl
def R192 (xb1 : Nat) (xo1 : Nat) (h : PHeap) (Q : Value → PHeap → Prop) : Prop :=
  Tri Tryz.prog 43 [vP xb1 xo1, vI 2] h fun v_1 h_1 =>
  ∃ (c1 : Bool), v_1 = vB c1 ∧
  br c1
  (Tri Tryz.prog 139 [vP xb1 xo1] h_1 fun v_2 h_2 =>
    ∃ (Kind1 : Int) (Text1 : List UInt8) (Value1 : Int) (Bytes1 : List UInt8) (Line1 Column1 : Int), v_2 = vA [vI Kind1, vS Text1, vI Value1, vS Bytes1, vI Line1, vI Column1] ∧
    Q (vA [vI 1, vS [], vS [], vI Value1, vS [], vL none 0 0, vI Line1, vI Column1]) h_2)
  (Tri Tryz.prog 43 [vP xb1 xo1, vI 3] h_1 fun v_3 h_3 =>
    ∃ (c2 : Bool), v_3 = vB c2 ∧
    br c2
    (Tri Tryz.prog 139 [vP xb1 xo1] h_3 fun v_4 h_4 =>
      ∃ (Kind2 : Int) (Text2 : List UInt8) (Value2 : Int) (Bytes2 : List UInt8) (Line2 Column2 : Int), v_4 = vA [vI Kind2, vS Text2, vI Value2, vS Bytes2, vI Line2, vI Column2] ∧
      Q (vA [vI 2, vS [], vS [], vI 0, vS Bytes2, vL none 0 0, vI Line2, vI Column2]) h_4)
    (Tri Tryz.prog 43 [vP xb1 xo1, vI 1] h_3 fun v_5 h_5 =>
      ∃ (c3 : Bool), v_5 = vB c3 ∧
      br c3
      (Tri Tryz.prog 202 [vP xb1 xo1] h_5 fun v_6 h_6 =>
        ∃ (Kind3 : Int) (Op1 Name1 : List UInt8) (Value3 : Int) (Text3 : List UInt8) (Argsa1 : Option Addr) (Argsn1 Argsc1 : Nat) (Line3 Column3 : Int), v_6 = vA [vI Kind3, vS Op1, vS Name1, vI Value3, vS Text3, vL Argsa1 Argsn1 Argsc1, vI Line3, vI Column3] ∧
        Q (vA [vI Kind3, vS Op1, vS Name1, vI Value3, vS Text3, vL Argsa1 Argsn1 Argsc1, vI Line3, vI Column3]) h_6)
      (Tri Tryz.prog 92 [vP xb1 xo1, vS [40]] h_5 fun v_7 h_7 =>
        v_7 = vT [] ∧
        ∃ (i1 : Int), h_7.cell xb1 (xo1 + 5) = some (vI i1) ∧
        br (i1 != 0)
        (Q (vA [vI 0, vS [], vS [], vI 0, vS [], vL none 0 0, vI 0, vI 0]) h_7)
        (Tri Tryz.prog 91 [vP xb1 xo1] h_7 fun v_8 h_8 =>
          ∃ (Kind4 : Int) (Op2 Name2 : List UInt8) (Value4 : Int) (Text4 : List UInt8) (Argsa2 : Option Addr) (Argsn2 Argsc2 : Nat) (Line4 Column4 : Int), v_8 = vA [vI Kind4, vS Op2, vS Name2, vI Value4, vS Text4, vL Argsa2 Argsn2 Argsc2, vI Line4, vI Column4] ∧
          Tri Tryz.prog 92 [vP xb1 xo1, vS [41]] h_8 fun v_9 h_9 =>
          v_9 = vT [] ∧
          Q (vA [vI Kind4, vS Op2, vS Name2, vI Value4, vS Text4, vL Argsa2 Argsn2 Argsc2, vI Line4, vI Column4]) h_9))))
theorem e192 (xb1 : Nat) (xo1 : Nat) (h : PHeap) (Q : Value → PHeap → Prop) : dnF Tryz.prog Tryz.f192.ntmps d192 [.cell 2 true 8] [vP xb1 xo1] h Q = R192 xb1 xo1 h Q := by kernel_rfl
theorem T192 {xb1 : Nat} {xo1 : Nat} {h : PHeap} {Q : Value → PHeap → Prop} (hR : R192 xb1 xo1 h Q) : Tri Tryz.prog 192 [vP xb1 xo1] h Q :=
  tri_of_dn mixed Tryz.func192 rfl (by kernel_rfl) low192 res192 rfl (Eq.mpr (e192 xb1 xo1 h Q) hR)
/- (*replevin/syntax.parser).call -/
abbrev o193_0 : Op := .binOp Go.BinOp.eql 27 (Go.Operand.tmp 18) (Go.Operand.const (vI 0)) 27
abbrev o193_1 : Op := .unOp Go.UnOp.not 4 (Go.Operand.tmp 22)
abbrev o193_2 : Op := .call { callee := (Go.Callee.builtin Go.Builtin.append), args := #[(Go.Operand.tmp 26), (Go.Operand.tmp 29)], argTypes := #[46, 46] }
abbrev o193_3 : Op := .call { callee := (Go.Callee.builtin Go.Builtin.append), args := #[(Go.Operand.tmp 35), (Go.Operand.tmp 38)], argTypes := #[46, 46] }
def d193 : DCode :=
  .seq (.ops [⟨some 3, .base (.box 162 (.tmp 1) false), none⟩,
  ⟨some 4, .base (.alloc 48 [vI 0, vS [], vS [], vI 0, vS [], vL none 0 0, vI 0, vI 0] false), none⟩])
 (.seq (.ops [⟨some 6, .base (.fieldAddr 1 (.tmp 3)), none⟩,
  ⟨some 7, .load false [.str] (.tmp 6), none⟩,
  ⟨some 8, .base (.fieldAddr 4 (.tmp 3)), none⟩,
  ⟨some 9, .load false [.int .i64] (.tmp 8), none⟩,
  ⟨some 10, .base (.fieldAddr 5 (.tmp 3)), none⟩,
  ⟨some 11, .load false [.int .i64] (.tmp 10), none⟩,
  ⟨some 12, .base (.build [vI 0, vS [], vS [], vI 0, vS [], vL none 0 0, vI 0, vI 0] [(0, 1, .const (vI 5)), (2, 1, .tmp 7), (6, 1, .tmp 9), (7, 1, .tmp 11)]), none⟩,
  ⟨some 5, .base (.alloc 48 [vI 0, vS [], vS [], vI 0, vS [], vL none 0 0, vI 0, vI 0] false), none⟩,
  ⟨none, .base (.store 8 (.tmp 5) (.tmp 12)), none⟩])
 (.seq (.ops [⟨some 13, .base (.mv (.tmp 0)), none⟩,
  ⟨some 14, .call (.func 92) [.tmp 13, .const (vS [40])] (.tup []), none⟩])
 (.seq (.seq (.ops [⟨some 15, .base (.mv (.tmp 0)), none⟩,
  ⟨some 16, .base (.nilCheck (.tmp 15)), none⟩,
  ⟨some 17, .base (.fieldAddr 5 (.tmp 16)), none⟩,
  ⟨some 18, .load false [.int .i64] (.tmp 17), none⟩,
  ⟨some 19, .base (.pure o193_0 4), none⟩,
  ⟨some 20, .base (.mv (.tmp 19)), none⟩,
  ⟨some 21, .base (.mv (.tmp 0)), some (20, true)⟩,
  ⟨some 22, .call (.func 44) [.tmp 21, .const (vS [41])] (.one false [.bool]), some (20, true)⟩,
  ⟨some 23, .base (.pure o193_1 4), some (20, true)⟩,
  ⟨some 24, .base (.pick (.tmp 20) (.tmp 23) (.const (vB false))), none⟩])
 (.cond (.tmp 24) (.seq (.draw [(⟨some 25, .base (.fieldAddr 5 (.tmp 5)), none⟩, []),
    (⟨some 26, .load false [.slice] (.tmp 25), none⟩, [0]),
    (⟨some 27, .base (.mv (.tmp 0)), none⟩, []),
    (⟨some 28, .call (.func 91) [.tmp 27] (.one true [.int .i64, .str, .str, .int .i64, .str, .slice, .int .i64, .int .i64]), none⟩, [2]),
    (⟨some 29, .heap (.buildSlice 48 1 [vI 0, vS [], vS [], vI 0, vS [], vL none 0 0, vI 0, vI 0] [(0, 8, .tmp 28)]), none⟩, [3]),
    (⟨some 30, .raw o193_2 46 (.one false [.slice]), none⟩, [1, 4, 3]),
    (⟨some 31, .base (.fieldAddr 5 (.tmp 5)), none⟩, [0, 1, 2, 3, 4, 5]),
    (⟨none, .base (.store 1 (.tmp 31) (.tmp 30)), none⟩, [6, 5, 5, 0, 1, 2, 3, 4, 5])])
   (.block 0 (.loop [32, 33, 34, 35, 36, 37, 38, 39, 40] [] [(5, [.int .i64, .str, .str, .int .i64, .str, .slice, .int .i64, .int .i64])] (.seq (.seq (.ops [⟨some 32, .base (.mv (.tmp 0)), none⟩,
        ⟨some 33, .call (.func 90) [.tmp 32, .const (vS [44])] (.one false [.bool]), none⟩])
       (.cond (.tmp 33) (.skip)
       (.exit 0)))
       (.block 1 (.draw [(⟨some 34, .base (.fieldAddr 5 (.tmp 5)), none⟩, []),
          (⟨some 35, .load false [.slice] (.tmp 34), none⟩, [0]),
          (⟨some 36, .base (.mv (.tmp 0)), none⟩, []),
          (⟨some 37, .call (.func 91) [.tmp 36] (.one true [.int .i64, .str, .str, .int .i64, .str, .slice, .int .i64, .int .i64]), none⟩, [2]),
          (⟨some 38, .heap (.buildSlice 48 1 [vI 0, vS [], vS [], vI 0, vS [], vL none 0 0, vI 0, vI 0] [(0, 8, .tmp 37)]), none⟩, [3]),
          (⟨some 39, .raw o193_3 46 (.one false [.slice]), none⟩, [1, 4, 3]),
          (⟨some 40, .base (.fieldAddr 5 (.tmp 5)), none⟩, [0, 1, 2, 3, 4, 5]),
          (⟨none, .base (.store 1 (.tmp 40) (.tmp 39)), none⟩, [6, 5, 5, 0, 1, 2, 3, 4, 5])]))))))
 (.skip)))
 (.seq (.ops [⟨some 41, .base (.mv (.tmp 0)), none⟩,
  ⟨some 42, .call (.func 92) [.tmp 41, .const (vS [41])] (.tup []), none⟩])
 (.seq (.ops [⟨some 43, .load true [.int .i64, .str, .str, .int .i64, .str, .slice, .int .i64, .int .i64] (.tmp 5), none⟩,
  ⟨none, .base (.store 8 (.tmp 4) (.tmp 43)), none⟩])
 (.ret))))))
theorem low193 : low Tryz.prog (fun _ => false) (Tryz.f193.body.getD .skip) = some (eC d193) := by kernel_rfl
theorem res193 : lowRes Tryz.prog Tryz.f193.results.toList = some [.cell 4 true 8] := by kernel_rfl
def R193 (xb1 : Nat) (xo1 : Nat) (t_Kind1 : Int) (t_Text1 : List UInt8) (t_Value1 : Int) (t_Bytes1 : List UInt8) (t_Line1 : Int) (t_Column1 : Int) (h : PHeap) (Q : Value → PHeap → Prop) : Prop :=
  Tri Tryz.prog 92 [vP xb1 xo1, vS [40]] h fun v_1 h_1 =>
  v_1 = vT [] ∧
  ∃ (i1 : Int), h_1.cell xb1 (xo1 + 5) = some (vI i1) ∧
  br (i1 == 0)
  (Tri Tryz.prog 44 [vP xb1 xo1, vS [41]] h_1 fun v_2 h_2 =>
    ∃ (c1 : Bool), v_2 = vB c1 ∧
    br (!c1)
    (Tri Tryz.prog 91 [vP xb1 xo1] h_2 fun v_3 h_3 =>
      ∃ (Kind1 : Int) (Op1 Name1 : List UInt8) (Value1 : Int) (Text1 : List UInt8) (Argsa1 : Option Addr) (Argsn1 Argsc1 : Nat) (Line1 Column1 : Int), v_3 = vA [vI Kind1, vS Op1, vS Name1, vI Value1, vS Text1, vL Argsa1 Argsn1 Argsc1, vI Line1, vI Column1] ∧
      (([vL none 0 0] : List Value) = ([vL none 0 0] : List Value)) ∧
      ∀ (b1 : Nat), h_3 b1 = none → ∀ (h_4 : PHeap), h_4 = h_3.put b1 (.cells ⟨[vI Kind1, vS Op1, vS Name1, vI Value1, vS Text1, vL Argsa1 Argsn1 Argsc1, vI Line1, vI Column1]⟩ 48) →
      (([vL none 0 0] : List Value) = ([vL none 0 0] : List Value)) ∧
      Raw Tryz.prog (execOp (rho [(26, vL none 0 0), (29, vL (ad b1 0) 1 1)]) (mkO o193_2 46)) h_4 fun v_4 h_5 =>
      ∃ (sa1 : Option Addr) (sn1 sc1 : Nat), v_4 = vL sa1 sn1 sc1 ∧
      ∃ (I_1 : Nat → Int → List UInt8 → List UInt8 → Int → List UInt8 → Option Addr → Nat → Nat → Int → Int → PHeap → Prop), (∃ (m2 : Nat), I_1 m2 (5 : Int) [] t_Text1 (0 : Int) [] sa1 sn1 sc1 t_Line1 t_Column1 h_5) ∧
      ∀ (m1 : Nat) (Kind2 : Int) (Op2 : List UInt8) (Name2 : List UInt8) (Value2 : Int) (Text2 : List UInt8) (Argsa2 : Option Addr) (Argsn2 : Nat) (Argsc2 : Nat) (Line2 : Int) (Column2 : Int) (h_6 : PHeap), I_1 m1 Kind2 Op2 Name2 Value2 Text2 Argsa2 Argsn2 Argsc2 Line2 Column2 h_6 →
      Tri Tryz.prog 90 [vP xb1 xo1, vS [44]] h_6 fun v_5 h_7 =>
      ∃ (c2 : Bool), v_5 = vB c2 ∧
      br c2
      (Tri Tryz.prog 91 [vP xb1 xo1] h_7 fun v_6 h_8 =>
        ∃ (Kind3 : Int) (Op3 Name3 : List UInt8) (Value3 : Int) (Text3 : List UInt8) (Argsa3 : Option Addr) (Argsn3 Argsc3 : Nat) (Line3 Column3 : Int), v_6 = vA [vI Kind3, vS Op3, vS Name3, vI Value3, vS Text3, vL Argsa3 Argsn3 Argsc3, vI Line3, vI Column3] ∧
        (([vL Argsa2 Argsn2 Argsc2] : List Value) = ([vL Argsa2 Argsn2 Argsc2] : List Value)) ∧
        ∀ (b2 : Nat), h_8 b2 = none → ∀ (h_9 : PHeap), h_9 = h_8.put b2 (.cells ⟨[vI Kind3, vS Op3, vS Name3, vI Value3, vS Text3, vL Argsa3 Argsn3 Argsc3, vI Line3, vI Column3]⟩ 48) →
        (([vL Argsa2 Argsn2 Argsc2] : List Value) = ([vL Argsa2 Argsn2 Argsc2] : List Value)) ∧
        Raw Tryz.prog (execOp (rho [(35, vL Argsa2 Argsn2 Argsc2), (38, vL (ad b2 0) 1 1)]) (mkO o193_3 46)) h_9 fun v_7 h_10 =>
        ∃ (sa2 : Option Addr) (sn2 sc2 : Nat), v_7 = vL sa2 sn2 sc2 ∧
        ∃ (m3 : Nat), m3 < m1 ∧ I_1 m3 Kind2 Op2 Name2 Value2 Text2 sa2 sn2 sc2 Line2 Column2 h_10 ∧
        ([vI 0, vS [], vS [], vI 0, vS [], vL none 0 0, vI 0, vI 0] : List Value) = ([vI 0, vS [], vS [], vI 0, vS [], vL none 0 0, vI 0, vI 0] : List Value) ∧ ([vI t_Kind1, vS t_Text1, vI t_Value1, vS t_Bytes1, vI t_Line1, vI t_Column1] : List Value) = ([vI t_Kind1, vS t_Text1, vI t_Value1, vS t_Bytes1, vI t_Line1, vI t_Column1] : List Value) ∧ True)
      (Tri Tryz.prog 92 [vP xb1 xo1, vS [41]] h_7 fun v_8 h_11 =>
        v_8 = vT [] ∧
        Q (vA [vI Kind2, vS Op2, vS Name2, vI Value2, vS Text2, vL Argsa2 Argsn2 Argsc2, vI Line2, vI Column2]) h_11))
    (Tri Tryz.prog 92 [vP xb1 xo1, vS [41]] h_2 fun v_9 h_12 =>
      v_9 = vT [] ∧
      Q (vA [vI 5, vS [], vS t_Text1, vI 0, vS [], vL none 0 0, vI t_Line1, vI t_Column1]) h_12))
  (Tri Tryz.prog 92 [vP xb1 xo1, vS [41]] h_1 fun v_10 h_13 =>
    v_10 = vT [] ∧
    Q (vA [vI 5, vS [], vS t_Text1, vI 0, vS [], vL none 0 0, vI t_Line1, vI t_Column1]) h_13)
theorem e193 (xb1 : Nat) (xo1 : Nat) (t_Kind1 : Int) (t_Text1 : List UInt8) (t_Value1 : Int) (t_Bytes1 : List UInt8) (t_Line1 : Int) (t_Column1 : Int) (h : PHeap) (Q : Value → PHeap → Prop) : dnF Tryz.prog Tryz.f193.ntmps d193 [.cell 4 true 8] [vP xb1 xo1, vA [vI t_Kind1, vS t_Text1, vI t_Value1, vS t_Bytes1, vI t_Line1, vI t_Column1]] h Q = R193 xb1 xo1 t_Kind1 t_Text1 t_Value1 t_Bytes1 t_Line1 t_Column1 h Q := by kernel_rfl
theorem T193 {xb1 : Nat} {xo1 : Nat} {t_Kind1 : Int} {t_Text1 : List UInt8} {t_Value1 : Int} {t_Bytes1 : List UInt8} {t_Line1 : Int} {t_Column1 : Int} {h : PHeap} {Q : Value → PHeap → Prop} (hR : R193 xb1 xo1 t_Kind1 t_Text1 t_Value1 t_Bytes1 t_Line1 t_Column1 h Q) : Tri Tryz.prog 193 [vP xb1 xo1, vA [vI t_Kind1, vS t_Text1, vI t_Value1, vS t_Bytes1, vI t_Line1, vI t_Column1]] h Q :=
  tri_of_dn mixed Tryz.func193 rfl (by kernel_rfl) low193 res193 rfl (Eq.mpr (e193 xb1 xo1 t_Kind1 t_Text1 t_Value1 t_Bytes1 t_Line1 t_Column1 h Q) hR)
/- (*replevin/syntax.parser).name -/
def d202 : DCode :=
  .seq (.ops [⟨some 2, .base (.alloc 48 [vI 0, vS [], vS [], vI 0, vS [], vL none 0 0, vI 0, vI 0] false), none⟩])
 (.seq (.ops [⟨some 5, .base (.mv (.tmp 0)), none⟩,
  ⟨some 6, .call (.func 139) [.tmp 5] (.one true [.int .i64, .str, .int .i64, .str, .int .i64, .int .i64]), none⟩,
  ⟨some 3, .base (.alloc 162 [vI 0, vS [], vI 0, vS [], vI 0, vI 0] false), none⟩,
  ⟨none, .base (.store 6 (.tmp 3) (.tmp 6)), none⟩])
 (.seq (.seq (.ops [⟨some 7, .base (.mv (.tmp 0)), none⟩,
  ⟨some 8, .call (.func 44) [.tmp 7, .const (vS [40])] (.one false [.bool]), none⟩])
 (.cond (.tmp 8) (.seq (.ops [⟨some 9, .base (.mv (.tmp 0)), none⟩,
    ⟨some 10, .load true [.int .i64, .str, .int .i64, .str, .int .i64, .int .i64] (.tmp 3), none⟩,
    ⟨some 11, .call (.func 193) [.tmp 9, .tmp 10] (.one true [.int .i64, .str, .str, .int .i64, .str, .slice, .int .i64, .int .i64]), none⟩,
    ⟨none, .base (.store 8 (.tmp 2) (.tmp 11)), none⟩])
   (.ret))
 (.skip)))
 (.seq (.ops [⟨some 12, .base (.fieldAddr 1 (.tmp 3)), none⟩,
  ⟨some 13, .load false [.str] (.tmp 12), none⟩,
  ⟨some 14, .base (.fieldAddr 4 (.tmp 3)), none⟩,
  ⟨some 15, .load false [.int .i64] (.tmp 14), none⟩,
  ⟨some 16, .base (.fieldAddr 5 (.tmp 3)), none⟩,
  ⟨some 17, .load false [.int .i64] (.tmp 16), none⟩,
  ⟨some 18, .base (.build [vI 0, vS [], vS [], vI 0, vS [], vL none 0 0, vI 0, vI 0] [(0, 1, .const (vI 3)), (2, 1, .tmp 13), (6, 1, .tmp 15), (7, 1, .tmp 17)]), none⟩,
  ⟨some 4, .base (.alloc 48 [vI 0, vS [], vS [], vI 0, vS [], vL none 0 0, vI 0, vI 0] false), none⟩,
  ⟨none, .base (.store 8 (.tmp 4) (.tmp 18)), none⟩])
 (.seq (.seq (.ops [⟨some 19, .base (.mv (.tmp 0)), none⟩,
  ⟨some 20, .call (.func 44) [.tmp 19, .const (vS [91])] (.one false [.bool]), none⟩])
 (.cond (.tmp 20) (.seq (.ops [⟨some 21, .base (.mv (.tmp 0)), none⟩,
    ⟨some 22, .call (.func 92) [.tmp 21, .const (vS [91])] (.tup []), none⟩])
   (.seq (.ops [⟨some 23, .base (.fieldAddr 0 (.tmp 4)), none⟩,
    ⟨none, .base (.store 1 (.tmp 23) (.const (vI 4))), none⟩])
   (.seq (.ops [⟨some 24, .base (.mv (.tmp 0)), none⟩,
    ⟨some 25, .call (.func 91) [.tmp 24] (.one true [.int .i64, .str, .str, .int .i64, .str, .slice, .int .i64, .int .i64]), none⟩,
    ⟨some 26, .heap (.buildSlice 48 1 [vI 0, vS [], vS [], vI 0, vS [], vL none 0 0, vI 0, vI 0] [(0, 8, .tmp 25)]), none⟩,
    ⟨some 27, .base (.fieldAddr 5 (.tmp 4)), none⟩,
    ⟨none, .base (.store 1 (.tmp 27) (.tmp 26)), none⟩])
   (.ops [⟨some 28, .base (.mv (.tmp 0)), none⟩,
    ⟨some 29, .call (.func 92) [.tmp 28, .const (vS [93])] (.tup []), none⟩]))))
 (.skip)))
 (.seq (.ops [⟨some 30, .load true [.int .i64, .str, .str, .int .i64, .str, .slice, .int .i64, .int .i64] (.tmp 4), none⟩,
  ⟨none, .base (.store 8 (.tmp 2) (.tmp 30)), none⟩])
 (.ret))))))
theorem low202 : low Tryz.prog (fun _ => false) (Tryz.f202.body.getD .skip) = some (eC d202) := by kernel_rfl
theorem res202 : lowRes Tryz.prog Tryz.f202.results.toList = some [.cell 2 true 8] := by kernel_rfl
def R202 (xb1 : Nat) (xo1 : Nat) (h : PHeap) (Q : Value → PHeap → Prop) : Prop :=
  Tri Tryz.prog 139 [vP xb1 xo1] h fun v_1 h_1 =>
  ∃ (Kind1 : Int) (Text1 : List UInt8) (Value1 : Int) (Bytes1 : List UInt8) (Line1 Column1 : Int), v_1 = vA [vI Kind1, vS Text1, vI Value1, vS Bytes1, vI Line1, vI Column1] ∧
  Tri Tryz.prog 44 [vP xb1 xo1, vS [40]] h_1 fun v_2 h_2 =>
  ∃ (c1 : Bool), v_2 = vB c1 ∧
  br c1
  (Tri Tryz.prog 193 [vP xb1 xo1, vA [vI Kind1, vS Text1, vI Value1, vS Bytes1, vI Line1, vI Column1]] h_2 fun v_3 h_3 =>
    ∃ (Kind2 : Int) (Op1 Name1 : List UInt8) (Value2 : Int) (Text2 : List UInt8) (Argsa1 : Option Addr) (Argsn1 Argsc1 : Nat) (Line2 Column2 : Int), v_3 = vA [vI Kind2, vS Op1, vS Name1, vI Value2, vS Text2, vL Argsa1 Argsn1 Argsc1, vI Line2, vI Column2] ∧
    Q (vA [vI Kind2, vS Op1, vS Name1, vI Value2, vS Text2, vL Argsa1 Argsn1 Argsc1, vI Line2, vI Column2]) h_3)
  (Tri Tryz.prog 44 [vP xb1 xo1, vS [91]] h_2 fun v_4 h_4 =>
    ∃ (c2 : Bool), v_4 = vB c2 ∧
    br c2
    (Tri Tryz.prog 92 [vP xb1 xo1, vS [91]] h_4 fun v_5 h_5 =>
      v_5 = vT [] ∧
      Tri Tryz.prog 91 [vP xb1 xo1] h_5 fun v_6 h_6 =>
      ∃ (Kind3 : Int) (Op2 Name2 : List UInt8) (Value3 : Int) (Text3 : List UInt8) (Argsa2 : Option Addr) (Argsn2 Argsc2 : Nat) (Line3 Column3 : Int), v_6 = vA [vI Kind3, vS Op2, vS Name2, vI Value3, vS Text3, vL Argsa2 Argsn2 Argsc2, vI Line3, vI Column3] ∧
      ∀ (b1 : Nat), h_6 b1 = none → ∀ (h_7 : PHeap), h_7 = h_6.put b1 (.cells ⟨[vI Kind3, vS Op2, vS Name2, vI Value3, vS Text3, vL Argsa2 Argsn2 Argsc2, vI Line3, vI Column3]⟩ 48) →
      Tri Tryz.prog 92 [vP xb1 xo1, vS [93]] h_7 fun v_7 h_8 =>
      v_7 = vT [] ∧
      Q (vA [vI 4, vS [], vS Text1, vI 0, vS [], vL (ad b1 0) 1 1, vI Line1, vI Column1]) h_8)
    (Q (vA [vI 3, vS [], vS Text1, vI 0, vS [], vL none 0 0, vI Line1, vI Column1]) h_4))
theorem e202 (xb1 : Nat) (xo1 : Nat) (h : PHeap) (Q : Value → PHeap → Prop) : dnF Tryz.prog Tryz.f202.ntmps d202 [.cell 2 true 8] [vP xb1 xo1] h Q = R202 xb1 xo1 h Q := by kernel_rfl
theorem T202 {xb1 : Nat} {xo1 : Nat} {h : PHeap} {Q : Value → PHeap → Prop} (hR : R202 xb1 xo1 h Q) : Tri Tryz.prog 202 [vP xb1 xo1] h Q :=
  tri_of_dn mixed Tryz.func202 rfl (by kernel_rfl) low202 res202 rfl (Eq.mpr (e202 xb1 xo1 h Q) hR)
end Go.Proofs.D
namespace Go.Proofs.L
open Go Go.Den
set_option maxRecDepth 100000
set_option maxHeartbeats 4000000
theorem mixed : Tryz.prog.follows .mixedOrders = true := by kernel_rfl
/- slices.Contains[[]string,string] -/
noncomputable def s102 : {sc : SCode // low Tryz.prog (fun _ => false) (Tryz.f102.body.getD .skip) = some sc} := ⟨_, rfl⟩
noncomputable def r102 : {rs : List SRes // lowRes Tryz.prog Tryz.f102.results.toList = some rs} := ⟨_, rfl⟩
theorem t102 {args : List Value} {h : PHeap} {Q : Value → PHeap → Prop} (hn : Nat.ble args.length Tryz.f102.ntmps = true) (hd : denF Tryz.prog Tryz.f102.ntmps s102.1 r102.1 args h Q) : Tri Tryz.prog 102 args h Q :=
  tri_of_den mixed Tryz.func102 rfl (by kernel_rfl) s102.2 r102.2 hn hd
/- strings.HasPrefix -/
noncomputable def s131 : {sc : SCode // low Tryz.prog (fun _ => false) (Tryz.f131.body.getD .skip) = some sc} := ⟨_, rfl⟩
noncomputable def r131 : {rs : List SRes // lowRes Tryz.prog Tryz.f131.results.toList = some rs} := ⟨_, rfl⟩
theorem t131 {args : List Value} {h : PHeap} {Q : Value → PHeap → Prop} (hn : Nat.ble args.length Tryz.f131.ntmps = true) (hd : denF Tryz.prog Tryz.f131.ntmps s131.1 r131.1 args h Q) : Tri Tryz.prog 131 args h Q :=
  tri_of_den mixed Tryz.func131 rfl (by kernel_rfl) s131.2 r131.2 hn hd
/- replevin/lexer.leading -/
noncomputable def s132 : {sc : SCode // low Tryz.prog (fun _ => false) (Tryz.f132.body.getD .skip) = some sc} := ⟨_, rfl⟩
noncomputable def r132 : {rs : List SRes // lowRes Tryz.prog Tryz.f132.results.toList = some rs} := ⟨_, rfl⟩
theorem t132 {args : List Value} {h : PHeap} {Q : Value → PHeap → Prop} (hn : Nat.ble args.length Tryz.f132.ntmps = true) (hd : denF Tryz.prog Tryz.f132.ntmps s132.1 r132.1 args h Q) : Tri Tryz.prog 132 args h Q :=
  tri_of_den mixed Tryz.func132 rfl (by kernel_rfl) s132.2 r132.2 hn hd
/- (*replevin/lexer.scanner).skip_1 -/
noncomputable def s133 : {sc : SCode // low Tryz.prog (fun _ => false) (Tryz.f133.body.getD .skip) = some sc} := ⟨_, rfl⟩
noncomputable def r133 : {rs : List SRes // lowRes Tryz.prog Tryz.f133.results.toList = some rs} := ⟨_, rfl⟩
theorem t133 {args : List Value} {h : PHeap} {Q : Value → PHeap → Prop} (hn : Nat.ble args.length Tryz.f133.ntmps = true) (hd : denF Tryz.prog Tryz.f133.ntmps s133.1 r133.1 args h Q) : Tri Tryz.prog 133 args h Q :=
  tri_of_den mixed Tryz.func133 rfl (by kernel_rfl) s133.2 r133.2 hn hd
/- replevin/lexer.word -/
noncomputable def s134 : {sc : SCode // low Tryz.prog (fun _ => false) (Tryz.f134.body.getD .skip) = some sc} := ⟨_, rfl⟩
noncomputable def r134 : {rs : List SRes // lowRes Tryz.prog Tryz.f134.results.toList = some rs} := ⟨_, rfl⟩
theorem t134 {args : List Value} {h : PHeap} {Q : Value → PHeap → Prop} (hn : Nat.ble args.length Tryz.f134.ntmps = true) (hd : denF Tryz.prog Tryz.f134.ntmps s134.1 r134.1 args h Q) : Tri Tryz.prog 134 args h Q :=
  tri_of_den mixed Tryz.func134 rfl (by kernel_rfl) s134.2 r134.2 hn hd
/- replevin/lexer.number -/
noncomputable def s135 : {sc : SCode // low Tryz.prog (fun _ => false) (Tryz.f135.body.getD .skip) = some sc} := ⟨_, rfl⟩
noncomputable def r135 : {rs : List SRes // lowRes Tryz.prog Tryz.f135.results.toList = some rs} := ⟨_, rfl⟩
theorem t135 {args : List Value} {h : PHeap} {Q : Value → PHeap → Prop} (hn : Nat.ble args.length Tryz.f135.ntmps = true) (hd : denF Tryz.prog Tryz.f135.ntmps s135.1 r135.1 args h Q) : Tri Tryz.prog 135 args h Q :=
  tri_of_den mixed Tryz.func135 rfl (by kernel_rfl) s135.2 r135.2 hn hd
/- replevin/lexer.character -/
noncomputable def s136 : {sc : SCode // low Tryz.prog (fun _ => false) (Tryz.f136.body.getD .skip) = some sc} := ⟨_, rfl⟩
noncomputable def r136 : {rs : List SRes // lowRes Tryz.prog Tryz.f136.results.toList = some rs} := ⟨_, rfl⟩
theorem t136 {args : List Value} {h : PHeap} {Q : Value → PHeap → Prop} (hn : Nat.ble args.length Tryz.f136.ntmps = true) (hd : denF Tryz.prog Tryz.f136.ntmps s136.1 r136.1 args h Q) : Tri Tryz.prog 136 args h Q :=
  tri_of_den mixed Tryz.func136 rfl (by kernel_rfl) s136.2 r136.2 hn hd
/- replevin/lexer.quoted -/
noncomputable def s137 : {sc : SCode // low Tryz.prog (fun _ => false) (Tryz.f137.body.getD .skip) = some sc} := ⟨_, rfl⟩
noncomputable def r137 : {rs : List SRes // lowRes Tryz.prog Tryz.f137.results.toList = some rs} := ⟨_, rfl⟩
theorem t137 {args : List Value} {h : PHeap} {Q : Value → PHeap → Prop} (hn : Nat.ble args.length Tryz.f137.ntmps = true) (hd : denF Tryz.prog Tryz.f137.ntmps s137.1 r137.1 args h Q) : Tri Tryz.prog 137 args h Q :=
  tri_of_den mixed Tryz.func137 rfl (by kernel_rfl) s137.2 r137.2 hn hd
/- replevin/lexer.symbol -/
noncomputable def s138 : {sc : SCode // low Tryz.prog (fun _ => false) (Tryz.f138.body.getD .skip) = some sc} := ⟨_, rfl⟩
noncomputable def r138 : {rs : List SRes // lowRes Tryz.prog Tryz.f138.results.toList = some rs} := ⟨_, rfl⟩
theorem t138 {args : List Value} {h : PHeap} {Q : Value → PHeap → Prop} (hn : Nat.ble args.length Tryz.f138.ntmps = true) (hd : denF Tryz.prog Tryz.f138.ntmps s138.1 r138.1 args h Q) : Tri Tryz.prog 138 args h Q :=
  tri_of_den mixed Tryz.func138 rfl (by kernel_rfl) s138.2 r138.2 hn hd
/- slices.Index[[]string,string] -/
noncomputable def s149 : {sc : SCode // low Tryz.prog (fun _ => false) (Tryz.f149.body.getD .skip) = some sc} := ⟨_, rfl⟩
noncomputable def r149 : {rs : List SRes // lowRes Tryz.prog Tryz.f149.results.toList = some rs} := ⟨_, rfl⟩
theorem t149 {args : List Value} {h : PHeap} {Q : Value → PHeap → Prop} (hn : Nat.ble args.length Tryz.f149.ntmps = true) (hd : denF Tryz.prog Tryz.f149.ntmps s149.1 r149.1 args h Q) : Tri Tryz.prog 149 args h Q :=
  tri_of_den mixed Tryz.func149 rfl (by kernel_rfl) s149.2 r149.2 hn hd
/- internal/stringslite.HasPrefix -/
noncomputable def s164 : {sc : SCode // low Tryz.prog (fun _ => false) (Tryz.f164.body.getD .skip) = some sc} := ⟨_, rfl⟩
noncomputable def r164 : {rs : List SRes // lowRes Tryz.prog Tryz.f164.results.toList = some rs} := ⟨_, rfl⟩
theorem t164 {args : List Value} {h : PHeap} {Q : Value → PHeap → Prop} (hn : Nat.ble args.length Tryz.f164.ntmps = true) (hd : denF Tryz.prog Tryz.f164.ntmps s164.1 r164.1 args h Q) : Tri Tryz.prog 164 args h Q :=
  tri_of_den mixed Tryz.func164 rfl (by kernel_rfl) s164.2 r164.2 hn hd
/- replevin/lexer.isLetter -/
noncomputable def s165 : {sc : SCode // low Tryz.prog (fun _ => false) (Tryz.f165.body.getD .skip) = some sc} := ⟨_, rfl⟩
noncomputable def r165 : {rs : List SRes // lowRes Tryz.prog Tryz.f165.results.toList = some rs} := ⟨_, rfl⟩
theorem t165 {args : List Value} {h : PHeap} {Q : Value → PHeap → Prop} (hn : Nat.ble args.length Tryz.f165.ntmps = true) (hd : denF Tryz.prog Tryz.f165.ntmps s165.1 r165.1 args h Q) : Tri Tryz.prog 165 args h Q :=
  tri_of_den mixed Tryz.func165 rfl (by kernel_rfl) s165.2 r165.2 hn hd
/- replevin/lexer.isAlphanumeric -/
noncomputable def s166 : {sc : SCode // low Tryz.prog (fun _ => false) (Tryz.f166.body.getD .skip) = some sc} := ⟨_, rfl⟩
noncomputable def r166 : {rs : List SRes // lowRes Tryz.prog Tryz.f166.results.toList = some rs} := ⟨_, rfl⟩
theorem t166 {args : List Value} {h : PHeap} {Q : Value → PHeap → Prop} (hn : Nat.ble args.length Tryz.f166.ntmps = true) (hd : denF Tryz.prog Tryz.f166.ntmps s166.1 r166.1 args h Q) : Tri Tryz.prog 166 args h Q :=
  tri_of_den mixed Tryz.func166 rfl (by kernel_rfl) s166.2 r166.2 hn hd
/- replevin/lexer.Keywords -/
noncomputable def s167 : {sc : SCode // low Tryz.prog (fun _ => false) (Tryz.f167.body.getD .skip) = some sc} := ⟨_, rfl⟩
noncomputable def r167 : {rs : List SRes // lowRes Tryz.prog Tryz.f167.results.toList = some rs} := ⟨_, rfl⟩
theorem t167 {args : List Value} {h : PHeap} {Q : Value → PHeap → Prop} (hn : Nat.ble args.length Tryz.f167.ntmps = true) (hd : denF Tryz.prog Tryz.f167.ntmps s167.1 r167.1 args h Q) : Tri Tryz.prog 167 args h Q :=
  tri_of_den mixed Tryz.func167 rfl (by kernel_rfl) s167.2 r167.2 hn hd
/- replevin/lexer.isDigit -/
noncomputable def s168 : {sc : SCode // low Tryz.prog (fun _ => false) (Tryz.f168.body.getD .skip) = some sc} := ⟨_, rfl⟩
noncomputable def r168 : {rs : List SRes // lowRes Tryz.prog Tryz.f168.results.toList = some rs} := ⟨_, rfl⟩
theorem t168 {args : List Value} {h : PHeap} {Q : Value → PHeap → Prop} (hn : Nat.ble args.length Tryz.f168.ntmps = true) (hd : denF Tryz.prog Tryz.f168.ntmps s168.1 r168.1 args h Q) : Tri Tryz.prog 168 args h Q :=
  tri_of_den mixed Tryz.func168 rfl (by kernel_rfl) s168.2 r168.2 hn hd
/- replevin/lexer.valueOf -/
noncomputable def s169 : {sc : SCode // low Tryz.prog (fun _ => false) (Tryz.f169.body.getD .skip) = some sc} := ⟨_, rfl⟩
noncomputable def r169 : {rs : List SRes // lowRes Tryz.prog Tryz.f169.results.toList = some rs} := ⟨_, rfl⟩
theorem t169 {args : List Value} {h : PHeap} {Q : Value → PHeap → Prop} (hn : Nat.ble args.length Tryz.f169.ntmps = true) (hd : denF Tryz.prog Tryz.f169.ntmps s169.1 r169.1 args h Q) : Tri Tryz.prog 169 args h Q :=
  tri_of_den mixed Tryz.func169 rfl (by kernel_rfl) s169.2 r169.2 hn hd
/- replevin/lexer.one -/
noncomputable def s170 : {sc : SCode // low Tryz.prog (fun _ => false) (Tryz.f170.body.getD .skip) = some sc} := ⟨_, rfl⟩
noncomputable def r170 : {rs : List SRes // lowRes Tryz.prog Tryz.f170.results.toList = some rs} := ⟨_, rfl⟩
theorem t170 {args : List Value} {h : PHeap} {Q : Value → PHeap → Prop} (hn : Nat.ble args.length Tryz.f170.ntmps = true) (hd : denF Tryz.prog Tryz.f170.ntmps s170.1 r170.1 args h Q) : Tri Tryz.prog 170 args h Q :=
  tri_of_den mixed Tryz.func170 rfl (by kernel_rfl) s170.2 r170.2 hn hd
/- replevin/lexer.Symbols -/
noncomputable def s171 : {sc : SCode // low Tryz.prog (fun _ => false) (Tryz.f171.body.getD .skip) = some sc} := ⟨_, rfl⟩
noncomputable def r171 : {rs : List SRes // lowRes Tryz.prog Tryz.f171.results.toList = some rs} := ⟨_, rfl⟩
theorem t171 {args : List Value} {h : PHeap} {Q : Value → PHeap → Prop} (hn : Nat.ble args.length Tryz.f171.ntmps = true) (hd : denF Tryz.prog Tryz.f171.ntmps s171.1 r171.1 args h Q) : Tri Tryz.prog 171 args h Q :=
  tri_of_den mixed Tryz.func171 rfl (by kernel_rfl) s171.2 r171.2 hn hd
/- strings.CutPrefix -/
noncomputable def s187 : {sc : SCode // low Tryz.prog (fun _ => false) (Tryz.f187.body.getD .skip) = some sc} := ⟨_, rfl⟩
noncomputable def r187 : {rs : List SRes // lowRes Tryz.prog Tryz.f187.results.toList = some rs} := ⟨_, rfl⟩
theorem t187 {args : List Value} {h : PHeap} {Q : Value → PHeap → Prop} (hn : Nat.ble args.length Tryz.f187.ntmps = true) (hd : denF Tryz.prog Tryz.f187.ntmps s187.1 r187.1 args h Q) : Tri Tryz.prog 187 args h Q :=
  tri_of_den mixed Tryz.func187 rfl (by kernel_rfl) s187.2 r187.2 hn hd
/- replevin/lexer.isHex -/
noncomputable def s188 : {sc : SCode // low Tryz.prog (fun _ => false) (Tryz.f188.body.getD .skip) = some sc} := ⟨_, rfl⟩
noncomputable def r188 : {rs : List SRes // lowRes Tryz.prog Tryz.f188.results.toList = some rs} := ⟨_, rfl⟩
theorem t188 {args : List Value} {h : PHeap} {Q : Value → PHeap → Prop} (hn : Nat.ble args.length Tryz.f188.ntmps = true) (hd : denF Tryz.prog Tryz.f188.ntmps s188.1 r188.1 args h Q) : Tri Tryz.prog 188 args h Q :=
  tri_of_den mixed Tryz.func188 rfl (by kernel_rfl) s188.2 r188.2 hn hd
/- replevin/lexer.hexValue -/
noncomputable def s189 : {sc : SCode // low Tryz.prog (fun _ => false) (Tryz.f189.body.getD .skip) = some sc} := ⟨_, rfl⟩
noncomputable def r189 : {rs : List SRes // lowRes Tryz.prog Tryz.f189.results.toList = some rs} := ⟨_, rfl⟩
theorem t189 {args : List Value} {h : PHeap} {Q : Value → PHeap → Prop} (hn : Nat.ble args.length Tryz.f189.ntmps = true) (hd : denF Tryz.prog Tryz.f189.ntmps s189.1 r189.1 args h Q) : Tri Tryz.prog 189 args h Q :=
  tri_of_den mixed Tryz.func189 rfl (by kernel_rfl) s189.2 r189.2 hn hd
/- replevin/lexer.escape -/
noncomputable def s190 : {sc : SCode // low Tryz.prog (fun _ => false) (Tryz.f190.body.getD .skip) = some sc} := ⟨_, rfl⟩
noncomputable def r190 : {rs : List SRes // lowRes Tryz.prog Tryz.f190.results.toList = some rs} := ⟨_, rfl⟩
theorem t190 {args : List Value} {h : PHeap} {Q : Value → PHeap → Prop} (hn : Nat.ble args.length Tryz.f190.ntmps = true) (hd : denF Tryz.prog Tryz.f190.ntmps s190.1 r190.1 args h Q) : Tri Tryz.prog 190 args h Q :=
  tri_of_den mixed Tryz.func190 rfl (by kernel_rfl) s190.2 r190.2 hn hd
/- internal/stringslite.CutPrefix -/
noncomputable def s200 : {sc : SCode // low Tryz.prog (fun _ => false) (Tryz.f200.body.getD .skip) = some sc} := ⟨_, rfl⟩
noncomputable def r200 : {rs : List SRes // lowRes Tryz.prog Tryz.f200.results.toList = some rs} := ⟨_, rfl⟩
theorem t200 {args : List Value} {h : PHeap} {Q : Value → PHeap → Prop} (hn : Nat.ble args.length Tryz.f200.ntmps = true) (hd : denF Tryz.prog Tryz.f200.ntmps s200.1 r200.1 args h Q) : Tri Tryz.prog 200 args h Q :=
  tri_of_den mixed Tryz.func200 rfl (by kernel_rfl) s200.2 r200.2 hn hd
end Go.Proofs.L
/- The small language's tokens and trees in plain Lean. -/
namespace Go.Sx

abbrev Bytes := List UInt8

structure Tok where
  kind : Nat
  text : Bytes
  value : Nat
  bytes : Bytes
  pos : Nat
  deriving DecidableEq

def isLetter (c : UInt8) : Bool := decide (97 ≤ c.toNat) && decide (c.toNat ≤ 122) || decide (65 ≤ c.toNat) && decide (c.toNat ≤ 90) || c.toNat == 95
def isDigit (c : UInt8) : Bool := decide (48 ≤ c.toNat) && decide (c.toNat ≤ 57)
def isHex (c : UInt8) : Bool := isDigit c || decide (97 ≤ c.toNat) && decide (c.toNat ≤ 102)
def isAl (c : UInt8) : Bool := isLetter c || isDigit c
def hexV (c : UInt8) : Nat := if isDigit c then c.toNat - 48 else c.toNat - 87

/-- How many bytes at the beginning satisfy a condition. -/
def lead (p : UInt8 → Bool) : Bytes → Nat
  | [] => 0
  | c :: l => if p c then lead p l + 1 else 0

/-- How many bytes of blanks and comments a text begins with; 'true': within a comment. -/
def skipN : Bool → Bytes → Nat
  | _, [] => 0
  | true, c :: l => if c == 10 then skipN false l + 1 else skipN true l + 1
  | false, c :: l => if c == 10 || c == 32 || c == 9 then skipN false l + 1 else
      match l with
      | [] => 0
      | d :: _ => if c == 47 && d == 47 then skipN true l + 1 else 0

def words : List Bytes := [[98, 114, 101, 97, 107], [99, 111, 110, 116, 105, 110, 117, 101], [101, 108, 115, 101], [102, 117, 110, 99], [105, 102], [114, 101, 116, 117, 114, 110], [118, 97, 114], [119, 104, 105, 108, 101]]
def marks : List Bytes := [[33], [33, 61], [37], [38], [38, 38], [40], [41], [42], [43], [44], [45], [47], [59], [60], [60, 60], [60, 61], [61], [61, 61], [62], [62, 61], [62, 62], [91], [93], [94], [123], [124], [124, 124], [125], [126]]

/-- The value of hexadecimal and of decimal digits. -/
def hexNum (l : Bytes) : Nat := l.foldl (fun n c => 16 * n + hexV c) 0
def decNum (l : Bytes) : Nat := l.foldl (fun n c => 10 * n + (c.toNat - 48)) 0

/-- The value of a number, or the error (3: its form, 2: its range). -/
def numS (w : Bytes) : Except Nat Nat :=
  match w with
  | 48 :: 120 :: l => if l.length = 0 || 8 < l.length || !l.all isHex then .error 3 else .ok (hexNum l)
  | _ => if !w.all isDigit || (1 < w.length && w.head? == some 48) then .error 3 else if 4294967295 < decNum w then .error 2 else .ok (decNum w)

/-- The byte that an escape's second byte stands for. -/
def escS (c : UInt8) : Option UInt8 :=
  if c == 110 then some 10 else if c == 116 then some 9 else if c == 48 then some 0 else if c == 92 then some 92 else if c == 39 then some 39 else if c == 34 then some 34 else none

/-- A byte or an escape at the beginning of a text: the byte and its length; or the error (4: short, 6: a byte) and where. -/
def charS : Bytes → Except (Nat × Nat) (UInt8 × Nat)
  | [] => .error (4, 0)
  | 92 :: l => match l with
    | [] => .error (4, 0)
    | 120 :: m => match m with
      | [] => .error (4, 0)
      | a :: m => if !isHex a then .error (6, 2) else match m with
        | [] => .error (4, 0)
        | b :: _ => if !isHex b then .error (6, 3) else .ok (UInt8.ofNat (16 * hexV a + hexV b), 4)
    | c :: _ => match escS c with
      | some b => .ok (b, 2)
      | none => .error (6, 1)
  | c :: _ => if c.toNat < 32 || 126 < c.toNat then .error (6, 0) else .ok (c, 1)

/-- The bytes of a string behind its first quote, and the length of the text up to the last quote; or the error and where. -/
def strS : Nat → Bytes → Except (Nat × Nat) (Bytes × Nat)
  | 0, _ => .error (4, 0)
  | _ + 1, [] => .error (4, 0)
  | f + 1, c :: l => if c == 34 then .ok ([], 0) else match charS (c :: l) with
    | .error (4, _) => .error (4, 0)
    | .error (e, k) => .error (e, k)
    | .ok (b, n) => match strS f ((c :: l).drop n) with
      | .error (4, _) => .error (4, 0)
      | .error (e, k) => .error (e, k + n)
      | .ok (m, k) => .ok (b :: m, k + n)

/-- A token at the beginning of a text: its kind, its length, its value and its bytes; or the error and where. -/
def oneS (l : Bytes) : Except (Nat × Nat) (Nat × Nat × Nat × Bytes) :=
  match l with
  | [] => .error (6, 0)
  | c :: r =>
    if isLetter c then
      let k := lead isAl l
      if 32 < k then .error (5, 0) else if words.contains (l.take k) then .ok (4, k, 0, []) else .ok (1, k, 0, [])
    else if isDigit c then
      match numS (l.take (lead isAl l)) with
      | .error e => .error (e, 0)
      | .ok v => .ok (2, lead isAl l, v, [])
    else if c == 39 then
      if r.head? == some 39 then .error (6, 1) else
      match charS r with
      | .error (4, _) => .error (4, 0)
      | .error (e, k) => .error (e, k + 1)
      | .ok (b, n) => match r.drop n with
        | [] => .error (4, 0)
        | d :: _ => if d == 39 then .ok (2, n + 2, b.toNat, []) else .error (6, n + 1)
    else if c == 34 then
      match strS (r.length + 1) r with
      | .error (4, _) => .error (4, 0)
      | .error (e, k) => .error (e, k + 1)
      | .ok (m, k) => if 200 < m.length then .error (5, 0) else .ok (3, k + 2, 0, m)
    else if marks.contains (l.take 2) then .ok (5, (l.take 2).length, 0, [])
    else if marks.contains (l.take 1) then .ok (5, 1, 0, [])
    else .error (6, 0)

/-- The tokens from an offset on, k of which came before. -/
def scanL : Nat → Nat → Bytes → Nat → Except (Nat × Nat) (List Tok)
  | 0, _, _, _ => .error (0, 0)
  | f + 1, k, l, at_ =>
    let n := skipN false l
    let r := l.drop n
    match r with
    | [] => .ok [⟨0, [], 0, [], at_ + n⟩]
    | _ :: _ => if k = 4096 then .error (9, at_ + n) else match oneS r with
      | .error (e, i) => .error (e, at_ + n + i)
      | .ok (kind, len, v, b) => match scanL f (k + 1) (r.drop len) (at_ + n + len) with
        | .error e => .error e
        | .ok ts => .ok (⟨kind, r.take len, v, b, at_ + n⟩ :: ts)

def scanS (s : Bytes) : Except (Nat × Nat) (List Tok) := if 16384 < s.length then .error (5, 0) else scanL (s.length + 1) 0 s 0

/-- The line and the column of an offset. -/
def placeL : Bytes → Nat → Nat × Nat → Nat × Nat
  | _, 0, p => p
  | [], _ + 1, p => p
  | c :: l, n + 1, p => placeL l n (if c == 10 then (p.1 + 1, 1) else (p.1, p.2 + 1))
def place (s : Bytes) (n : Nat) : Nat × Nat := placeL s n (1, 1)

/-! ### Trees -/

inductive E where
  | mk (kind : Nat) (op name : Bytes) (value : Nat) (text : Bytes) (args : List E) (pos : Nat)

inductive S where
  | mk (kind : Nat) (name : Bytes) (args : List E) (body els : List S) (pos : Nat)

structure G where
  name : Bytes
  size : Nat
  value : Nat
  pos : Nat

structure F where
  name : Bytes
  params : List Bytes
  body : List S
  pos : Nat

structure Pg where
  globals : List G
  funcs : List F

/-- A reader's answer: the error and where (0: no fuel), or the value, the tokens that are left and the open brackets. -/
abbrev R (α : Type) := Except (Nat × Nat) (α × List Tok × Int)

def levelS (op : Bytes) : Nat :=
  if op == [124, 124] then 1 else if op == [38, 38] then 2 else if op == [124] then 3 else if op == [94] then 4 else if op == [38] then 5
  else if op == [61, 61] || op == [33, 61] then 6 else if op == [60] || op == [60, 61] || op == [62] || op == [62, 61] then 7
  else if op == [60, 60] || op == [62, 62] then 8 else if op == [43] || op == [45] then 9 else if op == [42] || op == [47] || op == [37] then 10 else 0

def hd (ts : List Tok) : Tok := ts.headD ⟨0, [], 0, [], 0⟩

/-- Is the next token this keyword or symbol? -/
def isT (ts : List Tok) (t : Bytes) : Bool := ((hd ts).kind == 4 || (hd ts).kind == 5) && (hd ts).text == t
def isK (ts : List Tok) (k : Nat) : Bool := (hd ts).kind == k

def opens (t : Bytes) : Bool := t == [40] || t == [91] || t == [123]
def closes (t : Bytes) : Bool := t == [41] || t == [93] || t == [125]

def takeT (t : Bytes) (ts : List Tok) (d : Int) : R Unit :=
  if !isT ts t then .error (30, (hd ts).pos)
  else if opens t then (if d = 32 then .error (9, (hd ts).pos) else .ok ((), ts.tail, d + 1))
  else if closes t then .ok ((), ts.tail, d - 1) else .ok ((), ts.tail, d)

def takeK (k : Nat) (ts : List Tok) (d : Int) : R Tok :=
  if isK ts k then .ok (hd ts, ts.tail, d) else .error (30, (hd ts).pos)

def bindR {α β : Type} (r : R α) (f : α → List Tok → Int → R β) : R β :=
  match r with
  | .error e => .error e
  | .ok (a, ts, d) => f a ts d

mutual
/-- Operators of a level and higher ones. -/
def pBin : Nat → Nat → List Tok → Int → R E
  | 0, _, _, _ => .error (0, 0)
  | f + 1, lv, ts, d => if lv = 11 then pUn f ts d else bindR (pBin f (lv + 1) ts d) fun e ts d => pLoop f lv e ts d
def pLoop : Nat → Nat → E → List Tok → Int → R E
  | 0, _, _, _, _ => .error (0, 0)
  | f + 1, lv, e, ts, d => if isK ts 5 && levelS (hd ts).text == lv then
      bindR (pBin f (lv + 1) ts.tail d) fun e' ts' d' => pLoop f lv (.mk 7 (hd ts).text [] 0 [] [e, e'] (hd ts).pos) ts' d'
    else .ok (e, ts, d)
def pUn : Nat → List Tok → Int → R E
  | 0, _, _ => .error (0, 0)
  | f + 1, ts, d => if isT ts [45] || isT ts [33] || isT ts [126] then
      bindR (pUn f ts.tail d) fun e ts' d' => .ok (.mk 6 (hd ts).text [] 0 [] [e] (hd ts).pos, ts', d')
    else pPrim f ts d
def pPrim : Nat → List Tok → Int → R E
  | 0, _, _ => .error (0, 0)
  | f + 1, ts, d => if isK ts 2 then .ok (.mk 1 [] [] (hd ts).value [] [] (hd ts).pos, ts.tail, d)
    else if isK ts 3 then .ok (.mk 2 [] [] 0 (hd ts).bytes [] (hd ts).pos, ts.tail, d)
    else if isK ts 1 then pName f ts d
    else bindR (takeT [40] ts d) fun _ ts d => bindR (pBin f 1 ts d) fun e ts d => bindR (takeT [41] ts d) fun _ ts d => .ok (e, ts, d)
def pName : Nat → List Tok → Int → R E
  | 0, _, _ => .error (0, 0)
  | f + 1, ts, d => if isT ts.tail [40] then pCall f (hd ts) ts.tail d
    else if isT ts.tail [91] then bindR (takeT [91] ts.tail d) fun _ ts' d => bindR (pBin f 1 ts' d) fun e ts' d => bindR (takeT [93] ts' d) fun _ ts' d =>
      .ok (.mk 4 [] (hd ts).text 0 [] [e] (hd ts).pos, ts', d)
    else .ok (.mk 3 [] (hd ts).text 0 [] [] (hd ts).pos, ts.tail, d)
def pCall : Nat → Tok → List Tok → Int → R E
  | 0, _, _, _ => .error (0, 0)
  | f + 1, t, ts, d => bindR (takeT [40] ts d) fun _ ts d => bindR (pArgs f ts d) fun l ts d => bindR (takeT [41] ts d) fun _ ts d => .ok (.mk 5 [] t.text 0 [] l t.pos, ts, d)
def pArgs : Nat → List Tok → Int → R (List E)
  | 0, _, _ => .error (0, 0)
  | f + 1, ts, d => if isT ts [41] then .ok ([], ts, d) else bindR (pBin f 1 ts d) fun e ts d => pMore f [e] ts d
def pMore : Nat → List E → List Tok → Int → R (List E)
  | 0, _, _, _ => .error (0, 0)
  | f + 1, l, ts, d => if isT ts [44] then bindR (takeT [44] ts d) fun _ ts d => bindR (pBin f 1 ts d) fun e ts d => pMore f (l ++ [e]) ts d else .ok (l, ts, d)
end

def pCond (f : Nat) (ts : List Tok) (d : Int) : R E :=
  bindR (takeT [40] ts d) fun _ ts d => bindR (pBin f 1 ts d) fun e ts d => bindR (takeT [41] ts d) fun _ ts d => .ok (e, ts, d)

mutual
def pBlock : Nat → List Tok → Int → R (List S)
  | 0, _, _ => .error (0, 0)
  | f + 1, ts, d => bindR (takeT [123] ts d) fun _ ts d => pStmts f [] ts d
def pStmts : Nat → List S → List Tok → Int → R (List S)
  | 0, _, _, _ => .error (0, 0)
  | f + 1, l, ts, d => if isT ts [125] then bindR (takeT [125] ts d) fun _ ts d => .ok (l, ts, d) else bindR (pStmt f ts d) fun s ts d => pStmts f (l ++ [s]) ts d
def pStmt : Nat → List Tok → Int → R S
  | 0, _, _ => .error (0, 0)
  | f + 1, ts, d => if isK ts 1 then pNamed f ts d
    else if isT ts [118, 97, 114] then bindR (takeK 1 ts.tail d) fun t ts' d =>
      if isT ts' [61] then bindR (takeT [61] ts' d) fun _ ts' d => bindR (pBin f 1 ts' d) fun e ts' d => bindR (takeT [59] ts' d) fun _ ts' d => .ok (.mk 1 t.text [e] [] [] (hd ts).pos, ts', d)
      else bindR (takeT [59] ts' d) fun _ ts' d => .ok (.mk 1 t.text [] [] [] (hd ts).pos, ts', d)
    else if isT ts [105, 102] then pIf f ts d
    else if isT ts [119, 104, 105, 108, 101] then bindR (pCond f ts.tail d) fun e ts' d => bindR (pBlock f ts' d) fun b ts' d => .ok (.mk 6 [] [e] b [] (hd ts).pos, ts', d)
    else if isT ts [114, 101, 116, 117, 114, 110] then
      if isT ts.tail [59] then bindR (takeT [59] ts.tail d) fun _ ts' d => .ok (.mk 7 [] [] [] [] (hd ts).pos, ts', d)
      else bindR (pBin f 1 ts.tail d) fun e ts' d => bindR (takeT [59] ts' d) fun _ ts' d => .ok (.mk 7 [] [e] [] [] (hd ts).pos, ts', d)
    else if isT ts [98, 114, 101, 97, 107] then bindR (takeT [59] ts.tail d) fun _ ts' d => .ok (.mk 8 [] [] [] [] (hd ts).pos, ts', d)
    else if isT ts [99, 111, 110, 116, 105, 110, 117, 101] then bindR (takeT [59] ts.tail d) fun _ ts' d => .ok (.mk 9 [] [] [] [] (hd ts).pos, ts', d)
    else .error (30, (hd ts).pos)
def pIf : Nat → List Tok → Int → R S
  | 0, _, _ => .error (0, 0)
  | f + 1, ts, d => bindR (pCond f ts.tail d) fun e ts' d => bindR (pBlock f ts' d) fun b ts' d =>
      if isT ts' [101, 108, 115, 101] then
        if isT ts'.tail [105, 102] then bindR (pIf f ts'.tail d) fun s ts' d => .ok (.mk 5 [] [e] b [s] (hd ts).pos, ts', d)
        else bindR (pBlock f ts'.tail d) fun b' ts' d => .ok (.mk 5 [] [e] b b' (hd ts).pos, ts', d)
      else .ok (.mk 5 [] [e] b [] (hd ts).pos, ts', d)
def pNamed : Nat → List Tok → Int → R S
  | 0, _, _ => .error (0, 0)
  | f + 1, ts, d => if isT ts.tail [61] then bindR (takeT [61] ts.tail d) fun _ ts' d => bindR (pBin f 1 ts' d) fun e ts' d => bindR (takeT [59] ts' d) fun _ ts' d => .ok (.mk 2 (hd ts).text [e] [] [] (hd ts).pos, ts', d)
    else if isT ts.tail [91] then bindR (takeT [91] ts.tail d) fun _ ts' d => bindR (pBin f 1 ts' d) fun i ts' d => bindR (takeT [93] ts' d) fun _ ts' d => bindR (takeT [61] ts' d) fun _ ts' d =>
      bindR (pBin f 1 ts' d) fun e ts' d => bindR (takeT [59] ts' d) fun _ ts' d => .ok (.mk 3 (hd ts).text [i, e] [] [] (hd ts).pos, ts', d)
    else bindR (pCall f (hd ts) ts.tail d) fun e ts' d => bindR (takeT [59] ts' d) fun _ ts' d => .ok (.mk 4 [] [e] [] [] (hd ts).pos, ts', d)
end

def pGlobal (ts : List Tok) (d : Int) : R G :=
  bindR (takeT [118, 97, 114] ts d) fun _ ts d => bindR (takeK 1 ts d) fun t ts d =>
    if isT ts [61] then bindR (takeT [61] ts d) fun _ ts d => bindR (takeK 2 ts d) fun n ts d => bindR (takeT [59] ts d) fun _ ts d => .ok (⟨t.text, 0, n.value, t.pos⟩, ts, d)
    else if isT ts [91] then bindR (takeT [91] ts d) fun _ ts d => bindR (takeK 2 ts d) fun n ts d => bindR (takeT [93] ts d) fun _ ts d => bindR (takeT [59] ts d) fun _ ts d => .ok (⟨t.text, n.value, 0, t.pos⟩, ts, d)
    else bindR (takeT [59] ts d) fun _ ts d => .ok (⟨t.text, 0, 0, t.pos⟩, ts, d)

def pMoreP : Nat → List Bytes → List Tok → Int → R (List Bytes)
  | 0, _, _, _ => .error (0, 0)
  | f + 1, l, ts, d => if isT ts [44] then bindR (takeT [44] ts d) fun _ ts d => bindR (takeK 1 ts d) fun t ts d => pMoreP f (l ++ [t.text]) ts d else .ok (l, ts, d)

def pParams (f : Nat) (ts : List Tok) (d : Int) : R (List Bytes) :=
  if isT ts [41] then .ok ([], ts, d) else bindR (takeK 1 ts d) fun t ts d => pMoreP f [t.text] ts d

def pFunc (f : Nat) (ts : List Tok) (d : Int) : R F :=
  bindR (takeT [102, 117, 110, 99] ts d) fun _ ts d => bindR (takeK 1 ts d) fun t ts d => bindR (takeT [40] ts d) fun _ ts d => bindR (pParams f ts d) fun ps ts d =>
    bindR (takeT [41] ts d) fun _ ts d => bindR (pBlock f ts d) fun b ts d => .ok (⟨t.text, ps, b, t.pos⟩, ts, d)

def pProg : Nat → Pg → List Tok → Int → R Pg
  | 0, _, _, _ => .error (0, 0)
  | f + 1, p, ts, d => if isK ts 0 then .ok (p, ts, d)
    else if isT ts [118, 97, 114] then bindR (pGlobal ts d) fun g ts d => pProg f ⟨p.globals ++ [g], p.funcs⟩ ts d
    else bindR (pFunc f ts d) fun g ts d => pProg f ⟨p.globals, p.funcs ++ [g]⟩ ts d

/-- The program of a text, or the error and its offset. -/
def parseS (s : Bytes) : Except (Nat × Nat) Pg :=
  match scanS s with
  | .error e => .error e
  | .ok ts => match pProg (20 * ts.length + 40) ⟨[], []⟩ ts 0 with
    | .error e => .error e
    | .ok (p, _, _) => .ok p
end Go.Sx
namespace Go.Proofs.L
open Go Go.Den Go.Sx
set_option maxRecDepth 100000

theorem ret_bool {a b : Bool} (h : a = b) : retV [.bool a] = .bool b := by rw [h]; rfl

theorem isLetter_tri (c : UInt8) (h : PHeap) : Tri Tryz.prog 165 [byteV c] h fun v h' => v = .bool (isLetter c) ∧ h' = h := by
  refine t165 rfl ?_
  conv => whnf
  refine br_split (fun h1 => ?_) (fun h1 => ?_) <;> conv => whnf
  · refine br_split (fun h2 => ?_) (fun h2 => ?_) <;> conv => whnf
    · refine ⟨ret_bool ?_, rfl⟩
      rw [Bool.eq_iff_iff]; simp [isLetter] at *; omega
    · refine br_split (fun h3 => ?_) (fun h3 => ?_) <;> conv => whnf
      · refine br_split (fun h4 => ?_) (fun h4 => ?_) <;> conv => whnf
        all_goals refine ⟨ret_bool ?_, rfl⟩
        all_goals rw [Bool.eq_iff_iff]; simp [isLetter] at *; omega
      · refine ⟨ret_bool ?_, rfl⟩
        rw [Bool.eq_iff_iff]; simp [isLetter] at *; omega
  · refine br_split (fun h2 => ?_) (fun h2 => ?_) <;> conv => whnf
    · refine br_split (fun h3 => ?_) (fun h3 => ?_) <;> conv => whnf
      all_goals refine ⟨ret_bool ?_, rfl⟩
      all_goals rw [Bool.eq_iff_iff]; simp [isLetter] at *; omega
    · refine ⟨ret_bool ?_, rfl⟩
      rw [Bool.eq_iff_iff]; simp [isLetter] at *; omega

theorem isDigit_tri (c : UInt8) (h : PHeap) : Tri Tryz.prog 168 [byteV c] h fun v h' => v = .bool (isDigit c) ∧ h' = h := by
  refine t168 rfl ?_
  conv => whnf
  refine br_split (fun h1 => ?_) (fun h1 => ?_) <;> conv => whnf
  all_goals refine ⟨ret_bool ?_, rfl⟩
  all_goals rw [Bool.eq_iff_iff]; simp [isDigit] at *; omega

theorem isHex_tri (c : UInt8) (h : PHeap) : Tri Tryz.prog 188 [byteV c] h fun v h' => v = .bool (isHex c) ∧ h' = h := by
  refine t188 rfl ?_
  conv => whnf
  refine Tri.mono (isDigit_tri c h) ?_
  rintro v h' ⟨rfl, rfl⟩
  conv => whnf
  refine br_split (fun h1 => ?_) (fun h1 => ?_) <;> conv => whnf
  · exact ⟨ret_bool (by simp [isHex, h1]), rfl⟩
  · refine br_split (fun h2 => ?_) (fun h2 => ?_) <;> conv => whnf
    all_goals refine ⟨ret_bool ?_, rfl⟩
    all_goals rw [Bool.eq_iff_iff]; simp [isHex, h1] at *; omega

theorem isAl_tri (c : UInt8) (h : PHeap) : Tri Tryz.prog 166 [byteV c] h fun v h' => v = .bool (isAl c) ∧ h' = h := by
  refine t166 rfl ?_
  conv => whnf
  refine Tri.mono (isLetter_tri c h) ?_
  rintro v h' ⟨rfl, rfl⟩
  conv => whnf
  refine br_split (fun h1 => ?_) (fun h1 => ?_) <;> conv => whnf
  · exact ⟨ret_bool (by simp [isAl, h1]), rfl⟩
  · refine Tri.mono (isDigit_tri c h') ?_
    rintro v h'' ⟨rfl, rfl⟩
    conv => whnf
    exact ⟨ret_bool (by simp [isAl, h1]), rfl⟩

theorem notNl_tri (c : UInt8) (h : PHeap) : Tri Tryz.prog 133 [byteV c] h fun v h' => v = .bool (!(c == 10)) ∧ h' = h := by
  refine t133 rfl ?_
  conv => whnf
  refine ⟨ret_bool ?_, rfl⟩
  rw [Bool.eq_iff_iff]; simp [← UInt8.toNat_inj]; omega
end Go.Proofs.L
namespace Go.Proofs.L
open Go Go.Den Go.Sx
set_option maxRecDepth 100000

abbrev str (l : Bytes) : Value := .string ⟨⟨l⟩⟩
abbrev fnv (g : FuncId) : Value := .func (.func g) #[] #[]
abbrev int (n : Int) : Value := .int .i64 n

theorem lead_le (p : UInt8 → Bool) : ∀ l, lead p l ≤ l.length
  | [] => by simp [lead]
  | c :: l => by
    simp only [lead, List.length_cons]
    have := lead_le p l
    split <;> omega

theorem lead_next (p : UInt8 → Bool) : ∀ {l : Bytes} {n : Nat} {c : UInt8}, n ≤ lead p l → l[n]? = some c → (p c = true → n + 1 ≤ lead p l) ∧ (p c = false → n = lead p l)
  | [], n, c, _, hc => by simp at hc
  | d :: l, n, c, hn, hc => by
    simp only [lead] at hn ⊢
    cases n with
    | zero =>
      simp at hc; subst hc
      constructor
      · intro h; rw [if_pos h]; omega
      · intro h; rw [if_neg (by simp [h])]
    | succ n =>
      simp at hc
      split at hn
      · rename_i hd
        have := lead_next p (n := n) (by omega) hc
        rw [if_pos hd]
        exact ⟨fun h => by have := this.1 h; omega, fun h => by have := this.2 h; omega⟩
      · omega

/-- Numbers of int that fit. -/
theorem wrap64 {n : Int} (h0 : -9223372036854775808 ≤ n) (h1 : n ≤ 9223372036854775807) : IntKind.i64.wrap n = n := IntWalk.i64_in n ⟨h0, h1⟩

theorem wrap8 {n : Int} (h0 : 0 ≤ n) (h1 : n ≤ 255) : IntKind.u8.wrap n = n := by
  unfold IntKind.wrap
  simp [IntKind.bits, IntKind.signed]
  omega

theorem leading_tri (l : Bytes) (g : FuncId) (p : UInt8 → Bool) (hp : ∀ c h, Tri Tryz.prog g [byteV c] h fun v h' => v = .bool (p c) ∧ h' = h) (h : PHeap) (hl : l.length ≤ 1000000000) :
    Tri Tryz.prog 132 [str l, fnv g] h fun v h' => v = int (lead p l) ∧ h' = h := by
  refine t132 rfl ?_
  conv => whnf
  refine ⟨Nat, fun n h1 => h1 = h ∧ n ≤ lead p l, fun n => [(5, .val (int n))], fun _ => [], fun n _ => l.length - n, ⟨0, ⟨rfl, Nat.zero_le _⟩, rfl, trivial⟩, fun _ => trivial, ?_⟩
  rintro n h1 ⟨rfl, hn⟩
  have hle := lead_le p l
  conv => whnf
  refine br_split (fun h1 => ?_) (fun h1 => ?_) <;> conv => whnf
  · simp only [decide_eq_true_eq] at h1
    have hlt : n < l.length := by omega
    refine ⟨by omega, l[n], by simp [hlt], ?_⟩
    conv => whnf
    refine Tri.mono (hp _ _) ?_
    rintro v h' ⟨rfl, rfl⟩
    conv => whnf
    have hnx := lead_next p hn (List.getElem?_eq_getElem hlt)
    refine br_split (fun h2 => ?_) (fun h2 => ?_) <;> conv => whnf
    · refine ⟨n + 1, ⟨rfl, hnx.1 h2⟩, Nat.sub_lt_sub_left hlt (Nat.lt_succ_self _), ?_, trivial⟩
      show SV.val (.int .i64 (IntKind.i64.wrap (n + 1))) = _
      rw [wrap64 (by omega) (by omega)]; rfl
    · refine ⟨?_, rfl⟩
      have := hnx.2 h2
      rw [← this]; rfl
  · simp only [decide_eq_false_iff_not] at h1
    refine ⟨?_, rfl⟩
    have : n = lead p l := by omega
    rw [← this]; rfl
end Go.Proofs.L
namespace Go.Proofs.L
open Go Go.Den Go.Sx
set_option maxRecDepth 100000

/-! ### Heaps that grow -/

def Ext (h h' : PHeap) : Prop := ∀ k o, h k = some o → h' k = some o

theorem Ext.refl (h : PHeap) : Ext h h := fun _ _ e => e
theorem Ext.trans {h h' h'' : PHeap} (a : Ext h h') (b : Ext h' h'') : Ext h h'' := fun k o e => b k o (a k o e)
theorem Ext.put {h : PHeap} {b : Nat} (hb : h b = none) (o : Obj) : Ext h (h.put b o) := by
  intro k o' hk
  have : k ≠ b := fun e => by rw [e, hb] at hk; cases hk
  simp only [PHeap.put, if_neg this]; exact hk
theorem Ext.cell {h h' : PHeap} (a : Ext h h') {b o : Nat} {v : Value} (hc : h.cell b o = some v) : h'.cell b o = some v := by
  unfold PHeap.cell at *
  split at hc
  · rename_i c t f hb; rw [a _ _ hb]; exact hc
  · cases hc
theorem Ext.row {h h' : PHeap} (a : Ext h h') {b : Nat} : ∀ {l : List Value} {o : Nat}, h.row b o l → h'.row b o l
  | [], _, _ => trivial
  | [_], _, hr => a.cell hr
  | _ :: _ :: _, _, hr => ⟨a.cell hr.1, Ext.row a hr.2⟩
theorem put_same (h : PHeap) (b : Nat) (o : Obj) : (h.put b o) b = some o := by simp [PHeap.put]
theorem row_put (h : PHeap) (b : Nat) (t : TypeId) (fz : Nat × Nat) (l : List Value) : (h.put b (.cells ⟨l⟩ t fz)).row b 0 l := by
  refine row_of l 0 fun j v hj => ?_
  simp [PHeap.cell, put_same, hj]

/-! ### Strings -/

theorem hasPrefix_tri (l m : Bytes) (h : PHeap) : Tri Tryz.prog 164 [str l, str m] h fun v h' => v = .bool (m.isPrefixOf l) ∧ h' = h := by
  refine t164 rfl ?_
  conv => whnf
  refine br_split (fun h1 => ?_) (fun h1 => ?_) <;> conv => whnf
  · simp only [decide_eq_true_eq] at h1
    refine ⟨⟨by omega, by omega, by omega⟩, ?_⟩
    conv => whnf
    refine ⟨ret_bool ?_, rfl⟩
    rw [Bool.eq_iff_iff]
    simp [List.isPrefixOf_iff_prefix]
    constructor
    · intro e; exact ⟨l.drop m.length, by have := List.take_append_drop m.length l; rw [e] at this; exact this⟩
    · rintro ⟨r, rfl⟩; simp
  · simp only [decide_eq_false_iff_not] at h1
    refine ⟨ret_bool ?_, rfl⟩
    cases hp : m.isPrefixOf l with
    | false => rfl
    | true =>
      obtain ⟨r, rfl⟩ := List.isPrefixOf_iff_prefix.1 hp
      simp at h1; omega

theorem stringsHasPrefix_tri (l m : Bytes) (h : PHeap) : Tri Tryz.prog 131 [str l, str m] h fun v h' => v = .bool (m.isPrefixOf l) ∧ h' = h := by
  refine t131 rfl ?_
  conv => whnf
  refine Tri.mono (hasPrefix_tri l m h) ?_
  rintro v h' ⟨rfl, rfl⟩
  conv => whnf
  exact ⟨rfl, rfl⟩

theorem cutPrefix200_tri (l m : Bytes) (h : PHeap) : Tri Tryz.prog 200 [str l, str m] h fun v h' => v = (if m.isPrefixOf l then .tuple ⟨[str (l.drop m.length), .bool true]⟩ else .tuple ⟨[str l, .bool false]⟩) ∧ h' = h := by
  refine t200 rfl ?_
  conv => whnf
  refine Tri.mono (hasPrefix_tri l m h) ?_
  rintro v h' ⟨rfl, rfl⟩
  conv => whnf
  cases hp : m.isPrefixOf l <;> conv => whnf
  · exact ⟨rfl, rfl⟩
  · obtain ⟨r, rfl⟩ := List.isPrefixOf_iff_prefix.1 hp
    refine ⟨⟨by omega, by simp; omega, by omega⟩, ?_⟩
    conv => whnf
    refine ⟨?_, rfl⟩
    simp [retV]
    exact List.take_of_length_le (by omega)

theorem cutPrefix_tri (l m : Bytes) (h : PHeap) : Tri Tryz.prog 187 [str l, str m] h fun v h' => v = (if m.isPrefixOf l then .tuple ⟨[str (l.drop m.length), .bool true]⟩ else .tuple ⟨[str l, .bool false]⟩) ∧ h' = h := by
  refine t187 rfl ?_
  conv => whnf
  refine Tri.mono (cutPrefix200_tri l m h) ?_
  rintro v h' ⟨rfl, rfl⟩
  cases hp : m.isPrefixOf l
  · conv => whnf
    exact ⟨rfl, rfl⟩
  · conv => whnf
    exact ⟨rfl, rfl⟩

/-! ### Lists of strings -/

theorem index_tri (ss : List Bytes) (s : Bytes) (b o c : Nat) (h : PHeap) (hr : h.row b o (ss.map str)) (hl : ss.length ≤ 1000000) :
    Tri Tryz.prog 149 [.slice (some ⟨b, o, none⟩) ss.length c, str s] h fun v h' => (∃ r : Int, v = int r ∧ decide (r ≥ 0) = ss.contains s) ∧ h' = h := by
  refine t149 rfl ?_
  conv => whnf
  refine ⟨Nat, fun n h1 => h1 = h ∧ n ≤ ss.length ∧ ∀ j, j < n → ss[j]? ≠ some s, fun n => [(8, .val (int n))], fun _ => [], fun n _ => ss.length - n, ⟨0, ⟨rfl, Nat.zero_le _, fun j hj => by omega⟩, rfl, trivial⟩, fun _ => trivial, ?_⟩
  rintro n h1 ⟨rfl, hn, hno⟩
  conv => whnf
  refine br_split (fun h1 => ?_) (fun h1 => ?_) <;> conv => whnf
  · simp only [decide_eq_true_eq] at h1
    have hlt : n < ss.length := by omega
    refine ⟨⟨by omega, by omega⟩, ?_⟩
    conv => whnf
    refine ⟨[str ss[n]], rfl, ?_, ?_⟩
    · have := PHeap.row_get hr n (str ss[n]) (by simp [hlt])
      show PHeap.cell _ b _ = _
      simpa using this
    · conv => whnf
      refine br_split (fun h2 => ?_) (fun h2 => ?_) <;> conv => whnf
      · refine ⟨⟨n, rfl, ?_⟩, rfl⟩
        have e : ss[n] = s := (beq_iff_eq.1 h2).symm
        have hm : s ∈ ss := by rw [← e]; exact List.getElem_mem hlt
        have : decide ((n : Int) ≥ 0) = true := by simp
        rw [this]; exact (List.contains_iff_mem.2 hm).symm
      · refine ⟨n + 1, ⟨rfl, hlt, fun j hj => ?_⟩, Nat.sub_lt_sub_left hlt (Nat.lt_succ_self _), ?_, trivial⟩
        · by_cases e : j = n
          · subst e
            rw [List.getElem?_eq_getElem hlt]
            intro e2
            simp at e2
            rw [e2] at h2; simp at h2
          · exact hno j (by omega)
        · show SV.val (.int .i64 (IntKind.i64.wrap (n + 1))) = _
          rw [wrap64 (by omega) (by omega)]; rfl
  · simp only [decide_eq_false_iff_not] at h1
    have e : n = ss.length := by omega
    refine ⟨⟨-1, rfl, ?_⟩, rfl⟩
    have : decide ((-1 : Int) ≥ 0) = false := by decide
    rw [this]
    cases hc : ss.contains s with
    | false => rfl
    | true =>
      obtain ⟨j, hj, e2⟩ := List.getElem_of_mem (List.contains_iff_mem.1 hc)
      exact absurd (by rw [List.getElem?_eq_getElem hj, e2]) (hno j (by omega))

theorem contains_tri (ss : List Bytes) (s : Bytes) (b o c : Nat) (h : PHeap) (hr : h.row b o (ss.map str)) (hl : ss.length ≤ 1000000) :
    Tri Tryz.prog 102 [.slice (some ⟨b, o, none⟩) ss.length c, str s] h fun v h' => v = .bool (ss.contains s) ∧ h' = h := by
  refine t102 rfl ?_
  conv => whnf
  refine Tri.mono (index_tri ss s b o c h hr hl) ?_
  rintro v h' ⟨⟨r, rfl, hd⟩, rfl⟩
  conv => whnf
  exact ⟨ret_bool hd, rfl⟩

theorem keywords_tri (h : PHeap) : Tri Tryz.prog 167 [] h fun v h' => ∃ b, v = .slice (some ⟨b, 0, none⟩) 8 8 ∧ h'.row b 0 (words.map str) ∧ Ext h h' := by
  refine t167 rfl ?_
  conv => whnf
  intro b hb
  conv => whnf
  exact ⟨b, rfl, row_put h b _ _ _, Ext.put hb _⟩

theorem symbols_tri (h : PHeap) : Tri Tryz.prog 171 [] h fun v h' => ∃ b, v = .slice (some ⟨b, 0, none⟩) 29 29 ∧ h'.row b 0 (marks.map str) ∧ Ext h h' := by
  refine t171 rfl ?_
  conv => whnf
  intro b hb
  conv => whnf
  exact ⟨b, rfl, row_put h b _ _ _, Ext.put hb _⟩
end Go.Proofs.L
namespace Go.Proofs.L
open Go Go.Den Go.Sx
set_option maxRecDepth 100000
attribute [local irreducible] IntKind.wrap

theorem hexValue_tri (c : UInt8) (hc : isHex c = true) (h : PHeap) : Tri Tryz.prog 189 [byteV c] h fun v h' => v = .int .u8 (hexV c) ∧ h' = h := by
  refine t189 rfl ?_
  conv => whnf
  refine Tri.mono (isDigit_tri c h) ?_
  rintro v h' ⟨rfl, rfl⟩
  conv => whnf
  refine br_split (fun h1 => ?_) (fun h1 => ?_) <;> conv => whnf
  · refine ⟨?_, rfl⟩
    show Value.int .u8 (IntKind.u8.wrap ((c.toNat : Int) - 48)) = _
    have hd := h1
    simp [isDigit] at hd
    rw [wrap8 (by omega) (by omega)]
    simp only [hexV, h1, if_true]
    congr 1; omega
  · refine ⟨?_, rfl⟩
    show Value.int .u8 (IntKind.u8.wrap (IntKind.u8.wrap ((c.toNat : Int) - 97) + 10)) = _
    simp [isHex, h1] at hc
    rw [wrap8 (n := (c.toNat : Int) - 97) (by omega) (by omega), wrap8 (by omega) (by omega)]
    simp only [hexV, h1]
    congr 1; simp; omega

def errT (e : Nat) : Value := .tuple ⟨[int 0, int e]⟩
def n0 : Except Nat Nat → Int
  | .ok n => n
  | .error _ => 0
def n1 : Except Nat Nat → Int
  | .ok _ => 0
  | .error e => e
def numV (r : Except Nat Nat) : Value := .tuple ⟨[int (n0 r), int (n1 r)]⟩

theorem lead_eq (p : UInt8 → Bool) : ∀ l : Bytes, lead p l = l.length ↔ l.all p = true
  | [] => by simp [lead]
  | c :: l => by
    have ih := lead_eq p l
    have hle := lead_le p l
    simp only [lead, List.all_cons, List.length_cons, Bool.and_eq_true, ← ih]
    by_cases hp : p c = true
    · simp [hp]
    · simp [hp]

theorem lead_all (p : UInt8 → Bool) (l : Bytes) : decide ((lead p l : Int) < l.length) = !l.all p := by
  have h1 := lead_eq p l
  have h2 := lead_le p l
  cases ha : l.all p with
  | true => have := h1.2 ha; simp; omega
  | false =>
    have : lead p l ≠ l.length := fun e => by rw [h1.1 e] at ha; cases ha
    simp; omega

theorem hexNum_snoc (l : Bytes) (c : UInt8) : hexNum (l ++ [c]) = 16 * hexNum l + hexV c := by simp [hexNum]
theorem decNum_snoc (l : Bytes) (c : UInt8) : decNum (l ++ [c]) = 10 * decNum l + (c.toNat - 48) := by simp [decNum]
theorem hexV_lt (c : UInt8) (hc : isHex c = true) : hexV c < 16 := by
  simp [isHex, isDigit] at hc
  unfold hexV isDigit
  split
  · rename_i h; simp at h; omega
  · rename_i h; simp at h; omega
theorem hexNum_lt : ∀ (n : Nat) (l : Bytes), l.length = n → l.all isHex = true → hexNum l < 16 ^ n
  | 0, l, hl, _ => by
    have : l = [] := List.eq_nil_of_length_eq_zero hl
    subst this; simp [hexNum]
  | n + 1, l, hl, ha => by
    obtain ⟨m, c, rfl⟩ : ∃ m c, l = m ++ [c] := ⟨l.dropLast, l.getLast (by intro e; rw [e] at hl; simp at hl), (List.dropLast_concat_getLast _).symm⟩
    simp at hl ha
    have ih := hexNum_lt n m hl (by simpa using ha.1)
    have := hexV_lt c ha.2
    rw [hexNum_snoc, Nat.pow_succ]; omega

theorem take_snoc {l : Bytes} {n : Nat} (hn : n < l.length) : l.take (n + 1) = l.take n ++ [l[n]] := by
  rw [List.take_succ_eq_append_getElem hn]

theorem valueHex_tri (l : Bytes) (h : PHeap) (hl : l.length ≤ 1000000) :
    Tri Tryz.prog 169 [str (48 :: 120 :: l)] h fun v h' => v = numV (numS (48 :: 120 :: l)) ∧ h' = h := by
  refine t169 rfl ?_
  conv => whnf
  refine Tri.mono (cutPrefix_tri _ _ _) ?_
  rintro v h' ⟨rfl, rfl⟩
  conv => whnf
  refine br_split (fun h1 => ?_) (fun h1 => ?_) <;> conv => whnf
  · refine ⟨?_, rfl⟩
    have : l = [] := by
      have h1 : ((l.length : Nat) : Int) < 1 := by simpa using h1
      exact List.eq_nil_of_length_eq_zero (by omega)
    subst this; rfl
  · have h1 : ¬ ((l.length : Nat) : Int) < 1 := by simpa using h1
    refine br_split (fun h2 => ?_) (fun h2 => ?_) <;> conv => whnf
    · refine ⟨?_, rfl⟩
      have h2 : 8 < l.length := by
        have h2 : ((l.length : Nat) : Int) > 8 := by simpa using h2
        omega
      simp [numS, h2, numV, n0, n1, retV]
    · have h2 : ¬ 8 < l.length := by
        have h2 : ¬ ((l.length : Nat) : Int) > 8 := by simpa using h2
        omega
      refine Tri.mono (leading_tri l 188 isHex isHex_tri _ (by omega)) ?_
      rintro v h' ⟨rfl, rfl⟩
      conv => whnf
      refine br_split (fun h3 => ?_) (fun h3 => ?_) <;> conv => whnf
      · refine ⟨?_, rfl⟩
        have h3 : (!l.all isHex) = true := by rw [← lead_all]; exact h3
        simp only [Bool.not_eq_true'] at h3
        simp [numS, h3, numV, n0, n1, retV]
      · have h3 : l.all isHex = true := by
          have : (!l.all isHex) = false := by rw [← lead_all]; exact h3
          simpa using this
        have hb : ∀ n, n ≤ l.length → hexNum (l.take n) < 4294967296 := fun n hn => by
          have := hexNum_lt n (l.take n) (by simp; omega) (by rw [List.all_eq_true] at h3 ⊢; exact fun c hc => h3 c (List.mem_of_mem_take hc))
          have h16 : (16 : Nat) ^ n ≤ 16 ^ 8 := Nat.pow_le_pow_right (by omega) (by omega)
          have : (16 : Nat) ^ 8 = 4294967296 := by decide
          omega
        refine ⟨Nat, fun n h1 => h1 = h' ∧ n ≤ l.length, fun n => [(6, .val (int (hexNum (l.take n)))), (33, .val (int n))], fun _ => [], fun n _ => l.length - n, ⟨0, ⟨rfl, Nat.zero_le _⟩, ⟨rfl, rfl⟩, trivial⟩, fun _ => trivial, ?_⟩
        rintro n h1 ⟨rfl, hn⟩
        conv => whnf
        refine br_split (fun h4 => ?_) (fun h4 => ?_) <;> conv => whnf
        · have hlt : n < l.length := by
            have h4 : (n : Int) < (l.length : Int) := by simpa using h4
            omega
          refine ⟨by omega, l[n], by simp [hlt], ?_⟩
          conv => whnf
          have hx : isHex l[n] = true := by rw [List.all_eq_true] at h3; exact h3 _ (List.getElem_mem hlt)
          refine Tri.mono (hexValue_tri _ hx _) ?_
          rintro v h' ⟨rfl, rfl⟩
          conv => whnf
          have b1 := hb n hn
          have b2 := hexV_lt _ hx
          refine ⟨n + 1, ⟨rfl, hlt⟩, Nat.sub_lt_sub_left hlt (Nat.lt_succ_self _), ⟨?_, ?_⟩, trivial⟩
          · show SV.val (.int .i64 (IntKind.i64.wrap (IntKind.i64.wrap ((hexNum (l.take n) : Int) * 16) + IntKind.i64.wrap (hexV l[n])))) = _
            rw [wrap64 (n := (hexNum (l.take n) : Int) * 16) (by omega) (by omega), wrap64 (n := (hexV l[n] : Int)) (by omega) (by omega), wrap64 (by omega) (by omega), take_snoc hlt, hexNum_snoc]
            congr 2; omega
          · show SV.val (.int .i64 (IntKind.i64.wrap (n + 1))) = _
            rw [wrap64 (by omega) (by omega)]; rfl
        · have e : n = l.length := by
            have h4 : ¬ (n : Int) < (l.length : Int) := by simpa using h4
            omega
          refine ⟨?_, rfl⟩
          subst e
          rw [List.take_length]
          have h0 : l.length ≠ 0 := by omega
          simp [numS, h0, h2, h3, numV, n0, n1, retV]

theorem dec_step {w : Bytes} {n : Nat} (hlt : n < w.length) (hd : decNum (w.take n) ≤ 4294967295) (d1 : 48 ≤ w[n].toNat) (d2 : w[n].toNat ≤ 57) :
    IntKind.i64.wrap (IntKind.i64.wrap ((decNum (w.take n) : Int) * 10) + IntKind.i64.wrap (IntKind.u8.wrap ((w[n].toNat : Int) - 48))) = (decNum (w.take (n + 1)) : Int) := by
  rw [take_snoc hlt, decNum_snoc]
  generalize decNum (w.take n) = a at *
  generalize w[n].toNat = b at *
  rw [wrap64 (n := (a : Int) * 10) (by omega) (by omega), wrap8 (by omega) (by omega), wrap64 (n := (b : Int) - 48) (by omega) (by omega), wrap64 (by omega) (by omega)]
  omega

theorem decNum_mono (l : Bytes) (n : Nat) : decNum (l.take n) ≤ decNum l := by
  have h1 : ∀ (m : Bytes) (a b : Nat), a ≤ b → a ≤ m.foldl (fun n c => 10 * n + (c.toNat - 48)) b := by
    intro m
    induction m with
    | nil => intro a b h; exact h
    | cons c m ih => intro a b h; exact ih a _ (by show a ≤ 10 * b + (c.toNat - 48); omega)
  conv => rhs; rw [← List.take_append_drop n l]
  unfold decNum
  rw [List.foldl_append]
  exact h1 _ _ _ (Nat.le_refl _)

theorem numS_dec {w : Bytes} (hp : ¬ (([48, 120] : Bytes).isPrefixOf w) = true) : numS w = if !w.all isDigit || (1 < w.length && w.head? == some 48) then .error 3 else if 4294967295 < decNum w then .error 2 else .ok (decNum w) := by
  unfold numS
  split
  · exact absurd (by simp) hp
  · rfl

theorem cutPrefix_no (l m : Bytes) (h : PHeap) (hp : ¬ m.isPrefixOf l = true) : Tri Tryz.prog 187 [str l, str m] h fun v h' => v = .tuple ⟨[str l, .bool false]⟩ ∧ h' = h := by
  have := cutPrefix_tri l m h
  rw [if_neg hp] at this
  exact this

theorem valueDec_tri (w : Bytes) (c0 : UInt8) (h : PHeap) (hget : w[0]? = some c0) (hl : w.length ≤ 1000000) (hp : ¬ (([48, 120] : Bytes).isPrefixOf w) = true) :
    Tri Tryz.prog 169 [str w] h fun v h' => v = numV (if !w.all isDigit || (1 < w.length && c0 == 48) then .error 3 else if 4294967295 < decNum w then .error 2 else .ok (decNum w)) ∧ h' = h := by
  refine t169 rfl ?_
  conv => whnf
  refine Tri.mono (cutPrefix_no _ _ _ hp) ?_
  rintro v h' ⟨rfl, rfl⟩
  conv => whnf
  refine Tri.mono (leading_tri w 168 isDigit isDigit_tri _ (by omega)) ?_
  rintro v h' ⟨rfl, rfl⟩
  conv => whnf
  refine br_split (fun h1 => ?_) (fun h1 => ?_) <;> conv => whnf
  · refine ⟨?_, rfl⟩
    have h3 : (!w.all isDigit) = true := by rw [← lead_all]; exact h1
    rw [h3]; rfl
  · have h3 : (!w.all isDigit) = false := by rw [← lead_all]; exact h1
    have ha : w.all isDigit = true := by simpa using h3
    have hlen : 0 < w.length := (List.getElem?_eq_some_iff.1 hget).1
    have hdig : ∀ n (hn : n < w.length), 48 ≤ (w[n]).toNat ∧ (w[n]).toNat ≤ 57 := fun n hn => by
      rw [List.all_eq_true] at ha
      have := ha _ (List.getElem_mem hn)
      simpa [isDigit] using this
    have hbad : (1 < w.length && c0 == 48) = true → numV (if !w.all isDigit || (1 < w.length && c0 == 48) then .error 3 else if 4294967295 < decNum w then .error 2 else .ok (decNum w)) = numV (.error 3) := fun e => by rw [e]; simp
    have hgood : (1 < w.length && c0 == 48) = false → numV (if !w.all isDigit || (1 < w.length && c0 == 48) then .error 3 else if 4294967295 < decNum w then .error 2 else .ok (decNum w)) = numV (if 4294967295 < decNum w then .error 2 else .ok (decNum w)) := fun e => by rw [e, h3]; rfl
    refine ⟨by decide, c0, hget, ?_⟩
    conv => whnf
    refine br_split (fun h4 => ?a) (fun h4 => ?b)
    case' a =>
      conv => whnf
      refine br_split (fun h5 => ?c) (fun h5 => ?d)
    case c =>
      conv => whnf
      refine ⟨?_, rfl⟩
      have e : (1 < w.length && c0 == 48) = true := by
        simp only [decide_eq_true_eq] at h5
        have h4 : (c0.toNat : Int) = 48 := by simpa using h4
        simp [← UInt8.toNat_inj]; omega
      rw [hbad e]; rfl
    all_goals conv => whnf
    all_goals
      have e : (1 < w.length && c0 == 48) = false := by
        first
        | (have h5 : ¬ ((w.length : Nat) : Int) > 1 := by simpa using h5
           simp; omega)
        | (have h4 : ¬ (c0.toNat : Int) = 48 := by simpa using h4
           simp [← UInt8.toNat_inj]; omega)
      refine ⟨Nat, fun n h1 => h1 = h' ∧ n ≤ w.length ∧ decNum (w.take n) ≤ 4294967295, fun n => [(8, .val (int (decNum (w.take n)))), (63, .val (int n))], fun _ => [], fun n _ => w.length - n, ⟨0, ⟨rfl, Nat.zero_le _, by simp [decNum]⟩, ⟨rfl, rfl⟩, trivial⟩, fun _ => trivial, ?_⟩
      rintro n h1 ⟨rfl, hn, hd⟩
      conv => whnf
      refine br_split (fun h6 => ?_) (fun h6 => ?_) <;> conv => whnf
      · have hlt : n < w.length := by
          have h6 : (n : Int) < (w.length : Int) := by simpa using h6
          omega
        refine ⟨by omega, w[n], by simp [hlt], ?_⟩
        conv => whnf
        have d1 := (hdig n hlt).1
        have d2 := (hdig n hlt).2
        have hval := dec_step hlt hd d1 d2
        refine br_split (fun h7 => ?_) (fun h7 => ?_) <;> conv => whnf
        · refine ⟨?_, rfl⟩
          have h7 : IntKind.i64.wrap (IntKind.i64.wrap ((decNum (w.take n) : Int) * 10) + IntKind.i64.wrap (IntKind.u8.wrap ((w[n].toNat : Int) - 48))) > 4294967295 := by simpa using h7
          rw [hval] at h7
          have hm := decNum_mono w (n + 1)
          rw [hgood e, if_pos (by omega)]; rfl
        · have h7 : ¬ IntKind.i64.wrap (IntKind.i64.wrap ((decNum (w.take n) : Int) * 10) + IntKind.i64.wrap (IntKind.u8.wrap ((w[n].toNat : Int) - 48))) > 4294967295 := by simpa using h7
          rw [hval] at h7
          refine ⟨n + 1, ⟨rfl, hlt, by omega⟩, Nat.sub_lt_sub_left hlt (Nat.lt_succ_self _), ⟨?_, ?_⟩, trivial⟩
          · show SV.val (.int .i64 (IntKind.i64.wrap (IntKind.i64.wrap ((decNum (w.take n) : Int) * 10) + IntKind.i64.wrap (IntKind.u8.wrap ((w[n].toNat : Int) - 48))))) = _
            rw [hval]
          · show SV.val (.int .i64 (IntKind.i64.wrap (n + 1))) = _
            rw [wrap64 (by omega) (by omega)]; rfl
      · have en : n = w.length := by
          have h6 : ¬ (n : Int) < (w.length : Int) := by simpa using h6
          omega
        refine ⟨?_, rfl⟩
        subst en
        rw [List.take_length] at hd ⊢
        rw [hgood e, if_neg (by omega)]; rfl

theorem valueOf_tri (w : Bytes) (h : PHeap) (hw : w ≠ []) (hl : w.length ≤ 1000000) : Tri Tryz.prog 169 [str w] h fun v h' => v = numV (numS w) ∧ h' = h := by
  by_cases hp : (([48, 120] : Bytes).isPrefixOf w) = true
  · obtain ⟨l, rfl⟩ := List.isPrefixOf_iff_prefix.1 hp
    exact valueHex_tri l h (by simp at hl; omega)
  · cases w with
    | nil => exact absurd rfl hw
    | cons c w' =>
      have := valueDec_tri (c :: w') c h rfl hl hp
      rw [numS_dec hp]
      refine Tri.mono this ?_
      rintro v h' ⟨rfl, rfl⟩
      refine ⟨?_, rfl⟩
      simp only [List.head?_cons]
      rfl
end Go.Proofs.L
namespace Go.Proofs.L
open Go Go.Den Go.Sx
set_option maxRecDepth 100000
attribute [local irreducible] IntKind.wrap

/-- The table of escapes: 1 plus the byte, or 0. -/
def escN (c : Nat) : Nat := if c = 110 then 11 else if c = 116 then 10 else if c = 48 then 1 else if c = 92 then 93 else if c = 39 then 40 else if c = 34 then 35 else 0
def EscTab (h : PHeap) : Prop := ∀ i, i < 128 → h.cell 2 i = some (.int .u8 (escN i))
theorem EscTab.ext {h h' : PHeap} (e : Ext h h') (t : EscTab h) : EscTab h' := fun i hi => e.cell (t i hi)

def c0 : Except (Nat × Nat) (UInt8 × Nat) → Int
  | .ok (b, _) => b.toNat
  | .error _ => 0
def c1 (n : Nat) : Except (Nat × Nat) (UInt8 × Nat) → Int
  | .ok (_, k) => (n + k : Nat)
  | .error (e, k) => if e = 4 then 0 else (n + k : Nat)
def c2 : Except (Nat × Nat) (UInt8 × Nat) → Int
  | .ok _ => 0
  | .error (e, _) => e
def charV (n : Nat) (r : Except (Nat × Nat) (UInt8 × Nat)) : Value := .tuple ⟨[.int .u8 (c0 r), int (c1 n r), int (c2 r)]⟩

theorem charS_esc {c : UInt8} {m : Bytes} (hc : c ≠ 120) : charS (92 :: c :: m) = match escS c with
    | some b => .ok (b, 2)
    | none => .error (6, 1) := by
  simp [charS]
  cases escS c <;> rfl

def escCheck (c : UInt8) : Bool := match escS c with
  | none => decide (128 ≤ c.toNat) || escN c.toNat == 0
  | some b => decide (c.toNat < 128) && escN c.toNat == b.toNat + 1

theorem escCheck_all : ∀ n, n < 256 → escCheck (UInt8.ofNat n) = true := by decide +kernel

theorem escCheck_any (c : UInt8) : escCheck c = true := by
  have := escCheck_all c.toNat c.toNat_lt
  rwa [UInt8.ofNat_toNat] at this

theorem esc_none {c : UInt8} (h : 128 ≤ c.toNat ∨ escN c.toNat = 0) : escS c = none := by
  have hc := escCheck_any c
  unfold escCheck at hc
  split at hc
  · assumption
  · simp at hc; omega

theorem esc_some {c : UInt8} (h1 : c.toNat < 128) (h2 : escN c.toNat ≠ 0) : ∃ b, escS c = some b ∧ escN c.toNat = b.toNat + 1 := by
  have hc := escCheck_any c
  unfold escCheck at hc
  split at hc
  · simp at hc; omega
  · rename_i b hb; simp at hc; exact ⟨b, hb, hc.2⟩

theorem hex_short {m ds : Bytes} (h1 : ds = m.take ds.length) (h2 : ds.length < 2) (h3 : ds.all isHex = true) (h4 : m.length = ds.length) : charS (92 :: 120 :: m) = .error (4, 0) := by
  rw [h4.symm, List.take_length] at h1
  subst h1
  match ds, h2 with
  | [], _ => rfl
  | [a], _ => simp at h3; simp [charS, h3]

theorem hex_bad {m ds : Bytes} {c : UInt8} (h1 : ds = m.take ds.length) (h2 : ds.length < 2) (h3 : ds.all isHex = true) (h4 : m[ds.length]? = some c) (h5 : isHex c = false) : charS (92 :: 120 :: m) = .error (6, 2 + ds.length) := by
  match ds, h2 with
  | [], _ =>
    match m, h4 with
    | d :: m, h4 => simp at h4; subst h4; simp [charS, h5]
  | [a], _ =>
    match m, h1, h4 with
    | b :: d :: m, h1, h4 => simp at h1 h4 h3; subst h1 h4; simp [charS, h5, h3]

theorem hex_ok {m ds : Bytes} (h1 : ds = m.take ds.length) (h2 : ds.length = 2) (h3 : ds.all isHex = true) : charS (92 :: 120 :: m) = .ok (UInt8.ofNat (hexNum ds), 4) := by
  match ds, h2 with
  | [a, b], _ =>
    match m, h1 with
    | c :: d :: m, h1 => simp at h1 h3; obtain ⟨rfl, rfl⟩ := h1; simp [charS, h3, hexNum]

theorem hexByte_step {ds : Bytes} {c : UInt8} (h2 : ds.length < 2) (h3 : ds.all isHex = true) (hc : isHex c = true) :
    IntKind.u8.wrap (IntKind.u8.wrap ((hexNum ds : Int) * 16) + (hexV c : Int)) = (hexNum (ds ++ [c]) : Int) := by
  have h4 := hexNum_lt ds.length ds rfl h3
  have h5 := hexV_lt c hc
  have h6 : (16 : Nat) ^ ds.length ≤ 16 ^ 1 := Nat.pow_le_pow_right (by omega) (by omega)
  rw [hexNum_snoc]
  generalize hexNum ds = a at *
  generalize hexV c = b at *
  rw [wrap8 (n := (a : Int) * 16) (by omega) (by omega), wrap8 (by omega) (by omega)]
  omega

theorem take_len_snoc {m ds : Bytes} {c : UInt8} (h1 : ds = m.take ds.length) (h4 : m[ds.length]? = some c) : ds ++ [c] = m.take (ds ++ [c]).length := by
  have hlt : ds.length < m.length := (List.getElem?_eq_some_iff.1 h4).1
  have hg : m[ds.length] = c := (List.getElem?_eq_some_iff.1 h4).2
  rw [List.length_append, List.length_singleton, List.take_succ_eq_append_getElem hlt, ← h1, hg]

theorem escape_nil (l : Bytes) (n : Nat) (h : PHeap) (hlen : l.length = n + 1) (hl : l.length ≤ 1000000) :
    Tri Tryz.prog 190 [str l, int n] h fun v h' => v = charV n (charS [92]) ∧ h' = h := by
  have w1 : IntKind.i64.wrap ((n : Int) + 1) = ((n + 1 : Nat) : Int) := by rw [wrap64 (by omega) (by omega)]; rfl
  refine t190 rfl ?_
  conv => whnf
  refine br_split (fun h1 => ?_) (fun h1 => ?_) <;> conv => whnf
  · exact ⟨rfl, rfl⟩
  · have h1 : ¬ IntKind.i64.wrap ((n : Int) + 1) = (l.length : Int) := by simpa using h1
    exact absurd (by rw [w1, hlen]) h1

theorem escape_cons (l : Bytes) (n : Nat) (h : PHeap) (ht : EscTab h) (d : UInt8) (m : Bytes) (hlen : l.length = n + 2 + m.length) (hget0 : l[n + 1]? = some d) (hget : ∀ k, l[n + 2 + k]? = m[k]?) (hl : l.length ≤ 1000000) :
    Tri Tryz.prog 190 [str l, int n] h fun v h' => v = charV n (charS (92 :: d :: m)) ∧ h' = h := by
  have w1 : IntKind.i64.wrap ((n : Int) + 1) = ((n + 1 : Nat) : Int) := by rw [wrap64 (by omega) (by omega)]; rfl
  have w2 : IntKind.i64.wrap ((n : Int) + 2) = ((n + 2 : Nat) : Int) := by rw [wrap64 (by omega) (by omega)]; rfl
  have w4 : IntKind.i64.wrap ((n : Int) + 4) = ((n + 4 : Nat) : Int) := by rw [wrap64 (by omega) (by omega)]; rfl
  have hg0 : l[(IntKind.i64.wrap ((n : Int) + 1)).toNat]? = some d := by rw [w1, Int.toNat_natCast]; exact hget0
  have hp0 : 0 ≤ IntKind.i64.wrap ((n : Int) + 1) := by rw [w1]; omega
  have wd : IntKind.i64.wrap (d.toNat : Int) = (d.toNat : Int) := wrap64 (by omega) (by have := d.toNat_lt; omega)
  refine t190 rfl ?_
  conv => whnf
  refine br_split (fun h1 => ?_) (fun h1 => ?_) <;> conv => whnf
  · have h1 : IntKind.i64.wrap ((n : Int) + 1) = (l.length : Int) := by simpa using h1
    exact absurd (w1 ▸ h1) (by omega)
  · refine ⟨hp0, d, hg0, ?_⟩
    conv => whnf
    refine br_split (fun h2 => ?_) (fun h2 => ?_) <;> conv => whnf
    · have h2 : d ≠ 120 := by
        intro e; subst e; simp at h2
      refine br_split (fun h3 => ?_) (fun h3 => ?_) <;> conv => whnf
      · have h3 : IntKind.i64.wrap (d.toNat : Int) ≥ 128 := by simpa using h3
        rw [wd] at h3
        refine ⟨?_, rfl⟩
        rw [charS_esc h2, esc_none (.inl (by omega))]
        show Value.tuple ⟨[.int .u8 0, .int .i64 (IntKind.i64.wrap ((n : Int) + 1)), .int .i64 6]⟩ = _
        rw [w1]; rfl
      · have h3 : ¬ IntKind.i64.wrap (d.toNat : Int) ≥ 128 := by simpa using h3
        rw [wd] at h3
        have hlt : d.toNat < 128 := by omega
        have hcell := ht d.toNat hlt
        refine ⟨⟨by omega, by omega⟩, ?_⟩
        conv => whnf
        refine ⟨[.int .u8 (escN d.toNat)], rfl, ?_, ?_⟩
        · show h.cell 2 (0 + (d.toNat : Int).toNat * 1) = _
          rw [Int.toNat_natCast, Nat.mul_one, Nat.zero_add]; exact hcell
        conv => whnf
        refine br_split (fun h4 => ?_) (fun h4 => ?_) <;> conv => whnf
        · have h4 : (escN d.toNat : Int) = 0 := by simpa using h4
          refine ⟨?_, rfl⟩
          rw [charS_esc h2, esc_none (.inr (by omega))]
          show Value.tuple ⟨[.int .u8 0, .int .i64 (IntKind.i64.wrap ((n : Int) + 1)), .int .i64 6]⟩ = _
          rw [w1]; rfl
        · have h4 : ¬ (escN d.toNat : Int) = 0 := by simpa using h4
          refine ⟨⟨by omega, by omega⟩, ?_⟩
          conv => whnf
          refine ⟨[.int .u8 (escN d.toNat)], rfl, ?_, ?_⟩
          · show h.cell 2 (0 + (d.toNat : Int).toNat * 1) = _
            rw [Int.toNat_natCast, Nat.mul_one, Nat.zero_add]; exact hcell
          conv => whnf
          refine ⟨?_, rfl⟩
          obtain ⟨b, hb, he⟩ := esc_some hlt (by omega)
          rw [charS_esc h2, hb]
          show Value.tuple ⟨[.int .u8 (IntKind.u8.wrap ((escN d.toNat : Int) - 1)), .int .i64 (IntKind.i64.wrap ((n : Int) + 2)), .int .i64 0]⟩ = _
          have hbl := b.toNat_lt
          rw [w2, wrap8 (by omega) (by omega), he]
          simp [charV, c0, c1, c2]
    · have h2 : d = 120 := by
        have h2 : (d.toNat : Int) = 120 := by simpa using h2
        have : d.toNat = 120 := by omega
        exact UInt8.toNat_inj.1 this
      refine ⟨Bytes, fun ds h1 => h1 = h ∧ ds.length ≤ 2 ∧ ds = m.take ds.length ∧ ds.all isHex = true, fun ds => [(4, .val (.int .u8 (hexNum ds))), (5, .val (int (n + 2 + ds.length : Nat)))], fun _ => [], fun ds _ => 2 - ds.length,
        ⟨[], ⟨rfl, Nat.zero_le _, rfl, rfl⟩, ⟨rfl, congrArg (fun x => SV.val (.int .i64 x)) w2⟩, trivial⟩, fun _ => trivial, ?_⟩
      rintro ds h1 ⟨rfl, hd2, hdt, hdh⟩
      conv => whnf
      refine br_split (fun h3 => ?_) (fun h3 => ?_) <;> conv => whnf
      · have h3 : ((n + 2 + ds.length : Nat) : Int) < IntKind.i64.wrap ((n : Int) + 4) := by simpa using h3
        rw [w4] at h3
        have hlt2 : ds.length < 2 := by omega
        refine br_split (fun h4 => ?_) (fun h4 => ?_) <;> conv => whnf
        · have h4 : ((n + 2 + ds.length : Nat) : Int) = (l.length : Int) := by simpa using h4
          refine ⟨?_, rfl⟩
          rw [h2, hex_short hdt hlt2 hdh (by omega)]; rfl
        · have h4 : ¬ ((n + 2 + ds.length : Nat) : Int) = (l.length : Int) := by simpa using h4
          have hdm : ds.length ≤ m.length := by
            have := congrArg List.length hdt
            simp at this; omega
          have hltm : ds.length < m.length := by omega
          have hgk : l[((n + 2 + ds.length : Nat) : Int).toNat]? = some m[ds.length] := by
            rw [Int.toNat_natCast, hget, List.getElem?_eq_getElem hltm]
          have hnn : 0 ≤ ((n + 2 + ds.length : Nat) : Int) := Int.natCast_nonneg _
          refine ⟨hnn, m[ds.length], hgk, ?_⟩
          conv => whnf
          refine Tri.mono (isHex_tri _ _) ?_
          rintro v h' ⟨rfl, rfl⟩
          conv => whnf
          refine br_split (fun h5 => ?_) (fun h5 => ?_) <;> conv => whnf
          · have h5 : isHex m[ds.length] = false := by simpa using h5
            refine ⟨?_, rfl⟩
            rw [h2, hex_bad hdt hlt2 hdh (List.getElem?_eq_getElem hltm) h5]
            show Value.tuple ⟨[.int .u8 0, .int .i64 ((n + 2 + ds.length : Nat) : Int), .int .i64 6]⟩ = _
            simp [charV, c0, c1, c2, Nat.add_assoc]
          · have h5 : isHex m[ds.length] = true := by simpa using h5
            refine ⟨hnn, m[ds.length], hgk, ?_⟩
            conv => whnf
            refine Tri.mono (hexValue_tri _ h5 _) ?_
            rintro v h' ⟨rfl, rfl⟩
            conv => whnf
            refine ⟨ds ++ [m[ds.length]], ⟨rfl, by simp; omega, take_len_snoc hdt (List.getElem?_eq_getElem hltm), by simp [hdh, h5]⟩, ?_, ⟨?_, ?_⟩, trivial⟩
            · show 2 - (ds ++ [m[ds.length]]).length < 2 - ds.length
              simp; omega
            · show SV.val (.int .u8 (IntKind.u8.wrap (IntKind.u8.wrap ((hexNum ds : Int) * 16) + (hexV m[ds.length] : Int)))) = _
              rw [hexByte_step hlt2 hdh h5]
            · show SV.val (.int .i64 (IntKind.i64.wrap (((n + 2 + ds.length : Nat) : Int) + 1))) = _
              rw [wrap64 (by omega) (by omega), List.length_append]; rfl
      · have h3 : ¬ ((n + 2 + ds.length : Nat) : Int) < IntKind.i64.wrap ((n : Int) + 4) := by simpa using h3
        rw [w4] at h3
        have e2 : ds.length = 2 := by omega
        refine ⟨?_, rfl⟩
        rw [h2, hex_ok hdt e2 hdh]
        show Value.tuple ⟨[.int .u8 (hexNum ds : Int), .int .i64 ((n + 2 + ds.length : Nat) : Int), .int .i64 0]⟩ = _
        have hb : hexNum ds < 256 := by
          have := hexNum_lt 2 ds e2 hdh
          omega
        rw [e2]
        simp [charV, c0, c1, c2, Nat.add_assoc]
        omega

theorem escape_tri (l : Bytes) (n : Nat) (h : PHeap) (ht : EscTab h) (m : Bytes) (hm : l.drop n = 92 :: m) (hl : l.length ≤ 1000000) :
    Tri Tryz.prog 190 [str l, int n] h fun v h' => v = charV n (charS (92 :: m)) ∧ h' = h := by
  have hlen : l.length = n + 1 + m.length := by
    have := congrArg List.length hm
    simp at this; omega
  have hget : ∀ k, l[n + 1 + k]? = m[k]? := fun k => by
    have : (l.drop n)[k + 1]? = m[k]? := by rw [hm]; rfl
    rw [List.getElem?_drop] at this
    rw [← this]; congr 1; omega
  cases m with
  | nil => exact escape_nil l n h (by simpa using hlen) hl
  | cons d m =>
    refine escape_cons l n h ht d m (by simp at hlen; omega) (by simpa using hget 0) (fun k => ?_) hl
    have := hget (k + 1)
    rw [show n + 2 + k = n + 1 + (k + 1) by omega, this]; rfl

def oneQ (q : UInt8) (l : Bytes) : Except (Nat × Nat) (UInt8 × Nat) := if l.head? = some q then .error (6, 0) else charS l

theorem charS_plain {c : UInt8} {m : Bytes} (hc : c ≠ 92) : charS (c :: m) = if c.toNat < 32 || 126 < c.toNat then .error (6, 0) else .ok (c, 1) := by
  unfold charS
  split
  · rename_i h; cases h
  · rename_i h; cases h; exact absurd rfl hc
  · rename_i h; cases h; rfl

theorem one_tri (l : Bytes) (n : Nat) (q : UInt8) (hq : q ≠ 92) (h : PHeap) (ht : EscTab h) (hn : n ≤ l.length) (hl : l.length ≤ 1000000) :
    Tri Tryz.prog 170 [str l, int n, byteV q] h fun v h' => v = charV n (oneQ q (l.drop n)) ∧ h' = h := by
  have w1 : IntKind.i64.wrap ((n : Int) + 1) = ((n + 1 : Nat) : Int) := by rw [wrap64 (by omega) (by omega)]; rfl
  by_cases hlt : n < l.length
  · have hd : l.drop n = l[n] :: l.drop (n + 1) := List.drop_eq_getElem_cons hlt
    have hg : l[(n : Int).toNat]? = some l[n] := by rw [Int.toNat_natCast]; exact List.getElem?_eq_getElem hlt
    have hnn : 0 ≤ (n : Int) := Int.natCast_nonneg _
    generalize l[n] = c at hd hg
    refine t170 rfl ?_
    conv => whnf
    refine br_split (fun h1 => ?_) (fun h1 => ?_) <;> conv => whnf
    · have h1 : (n : Int) = (l.length : Int) := by simpa using h1
      exact absurd h1 (by omega)
    · refine ⟨hnn, c, hg, ?_⟩
      conv => whnf
      refine br_split (fun h2 => ?_) (fun h2 => ?_) <;> conv => whnf
      · have h2 : c = 92 := by
          have h2 : (c.toNat : Int) = 92 := by simpa using h2
          exact UInt8.toNat_inj.1 (by show c.toNat = 92; omega)
        refine Tri.mono (escape_tri l n _ ht (l.drop (n + 1)) (by rw [hd, h2]) hl) ?_
        rintro v h' ⟨rfl, rfl⟩
        have e : oneQ q (l.drop n) = charS (92 :: l.drop (n + 1)) := by
          rw [hd, h2, oneQ, if_neg]
          simp; exact fun e => hq e.symm
        conv => whnf
        refine ⟨?_, rfl⟩
        rw [e]; rfl
      · have h2 : c ≠ 92 := by
          intro e; subst e; simp at h2
        refine ⟨hnn, c, hg, ?_⟩
        conv => whnf
        refine br_split (fun h3 => ?a) (fun h3 => ?b)
        case a =>
          conv => whnf
          refine ⟨?_, rfl⟩
          have h3 : c = q := by
            have h3 : (c.toNat : Int) = (q.toNat : Int) := by simpa using h3
            exact UInt8.toNat_inj.1 (by omega)
          rw [hd, oneQ, h3, if_pos (show (q :: List.drop (n + 1) l).head? = some q from rfl)]; rfl
        case b =>
          have e0 : oneQ q (l.drop n) = if c.toNat < 32 || 126 < c.toNat then .error (6, 0) else .ok (c, 1) := by
            have h3 : ¬ c = q := by
              intro e; subst e; simp at h3
            rw [hd, oneQ, if_neg (by simpa using h3), charS_plain h2]
          conv => whnf
          refine ⟨hnn, c, hg, ?_⟩
          conv => whnf
          refine br_split (fun h4 => ?_) (fun h4 => ?_) <;> conv => whnf
          · refine ⟨?_, rfl⟩
            have h4 : (c.toNat : Int) < 32 := by simpa using h4
            rw [e0, if_pos (by simp; omega)]; rfl
          · have h4 : ¬ (c.toNat : Int) < 32 := by simpa using h4
            refine ⟨hnn, c, hg, ?_⟩
            conv => whnf
            refine br_split (fun h5 => ?_) (fun h5 => ?_) <;> conv => whnf
            · refine ⟨?_, rfl⟩
              have h5 : (c.toNat : Int) > 126 := by simpa using h5
              rw [e0, if_pos (by simp; omega)]; rfl
            · have h5 : ¬ (c.toNat : Int) > 126 := by simpa using h5
              refine ⟨hnn, c, hg, ?_⟩
              conv => whnf
              refine ⟨?_, rfl⟩
              rw [e0, if_neg (by simp; omega)]
              show Value.tuple ⟨[.int .u8 (c.toNat : Int), .int .i64 (IntKind.i64.wrap ((n : Int) + 1)), .int .i64 0]⟩ = _
              rw [w1]; rfl
  · have e : l.drop n = [] := List.drop_eq_nil_of_le (by omega)
    refine t170 rfl ?_
    conv => whnf
    refine br_split (fun h1 => ?_) (fun h1 => ?_) <;> conv => whnf
    · refine ⟨?_, rfl⟩
      rw [e]; rfl
    · have h1 : ¬ (n : Int) = (l.length : Int) := by simpa using h1
      exact absurd (by omega) h1
end Go.Proofs.L
namespace Go.Proofs.L
open Go Go.Den Go.Sx
set_option maxRecDepth 100000
attribute [local irreducible] IntKind.wrap

abbrev OneR := Except (Nat × Nat) (Nat × Nat × Nat × Bytes)
def aK : OneR → Int
  | .ok (k, _, _, _) => k
  | .error _ => 0
def aS : OneR → Nat
  | .ok (_, n, _, _) => n
  | .error _ => 0
def aV : OneR → Int
  | .ok (_, _, v, _) => v
  | .error _ => 0
def aB : OneR → Bytes
  | .ok (_, _, _, b) => b
  | .error _ => []
def aA : OneR → Int
  | .ok _ => 0
  | .error (_, i) => i
def aE : OneR → Int
  | .ok _ => 0
  | .error (e, _) => e
/-- An attempt's cells: the token without its place, its length, the error's place and the error. -/
def att (kind : Int) (text : Bytes) (value : Int) (bytes : Bytes) (size at_ e : Int) : Value :=
  .agg ⟨[int kind, str text, int value, str bytes, int 0, int 0, int size, int at_, int e]⟩
def attR (l : Bytes) (r : OneR) : Value := att (aK r) (l.take (aS r)) (aV r) (aB r) (aS r) (aA r) (aE r)
def att0 : Value := att 0 [] 0 [] 0 0 0
def two (v : Value) (b : Bool) : Value := .tuple ⟨[v, .bool b]⟩

theorem word_no (c : UInt8) (r : Bytes) (h : PHeap) (hc : isLetter c = false) : Tri Tryz.prog 134 [str (c :: r)] h fun v h' => v = two att0 false ∧ h' = h := by
  refine t134 rfl ?_
  conv => whnf
  refine ⟨by decide, c, rfl, ?_⟩
  conv => whnf
  refine Tri.mono (isLetter_tri _ _) ?_
  rintro v h' ⟨rfl, rfl⟩
  conv => whnf
  refine br_split (fun h1 => ?_) (fun h1 => ?_) <;> conv => whnf
  · exact ⟨rfl, rfl⟩
  · rw [hc] at h1; cases h1

def wordS (l : Bytes) : OneR := if 32 < lead isAl l then .error (5, 0) else if words.contains (l.take (lead isAl l)) then .ok (4, lead isAl l, 0, []) else .ok (1, lead isAl l, 0, [])

theorem word_yes (c : UInt8) (r : Bytes) (h : PHeap) (hc : isLetter c = true) (hl : (c :: r).length ≤ 1000000) : Tri Tryz.prog 134 [str (c :: r)] h fun v h' => v = two (attR (c :: r) (wordS (c :: r))) true ∧ Ext h h' := by
  have hle := lead_le isAl (c :: r)
  generalize hk : lead isAl (c :: r) = k at hle
  have hlead : ∀ h, Tri Tryz.prog 132 [str (c :: r), fnv 166] h fun v h' => v = int k ∧ h' = h := fun h => by
    have := leading_tri (c :: r) 166 isAl isAl_tri h (by omega)
    rw [hk] at this; exact this
  have hws : wordS (c :: r) = if 32 < k then .error (5, 0) else if words.contains ((c :: r).take k) then .ok (4, k, 0, []) else .ok (1, k, 0, []) := by rw [wordS, hk]
  refine t134 rfl ?_
  conv => whnf
  refine ⟨by decide, c, rfl, ?_⟩
  conv => whnf
  refine Tri.mono (isLetter_tri _ _) ?_
  rintro v h' ⟨rfl, rfl⟩
  conv => whnf
  refine br_split (fun h1 => ?_) (fun h1 => ?_) <;> conv => whnf
  · rw [hc] at h1; cases h1
  · refine Tri.mono (hlead _) ?_
    rintro v h' ⟨rfl, rfl⟩
    conv => whnf
    refine br_split (fun h2 => ?_) (fun h2 => ?_)
    · have h2 : (k : Int) > 32 := by simpa using h2
      have e : two (att 0 [] 0 [] 0 0 5) true = two (attR (c :: r) (wordS (c :: r))) true := by rw [hws, if_pos (by omega)]; rfl
      conv => whnf
      exact ⟨e, Ext.refl _⟩
    · have h2 : ¬ (k : Int) > 32 := by simpa using h2
      have e : ∀ b, words.contains ((c :: r).take k) = b → two (att (if b then 4 else 1) ((c :: r).take k) 0 [] k 0 0) true = two (attR (c :: r) (wordS (c :: r))) true := fun b hb => by
        have h3 : ¬ 32 < k := by omega
        cases b <;> simp only [hws, if_neg h3, hb] <;> rfl
      have htk : ((c :: r).drop (0 : Int).toNat).take ((k : Int).toNat - (0 : Int).toNat) = (c :: r).take k := by simp
      conv => whnf
      refine ⟨⟨by omega, by omega, by omega⟩, ?_⟩
      conv => whnf
      refine Tri.mono (keywords_tri _) ?_
      rintro v h2 ⟨b, rfl, hrow, hext⟩
      conv => whnf
      refine Tri.mono (contains_tri words _ b 0 8 h2 hrow (by decide)) ?_
      rintro v h3 ⟨rfl, rfl⟩
      conv => whnf
      refine br_split (fun h4 => ?_) (fun h4 => ?_)
      · have h4 : words.contains ((c :: r).take k) = true := by rw [← htk]; exact h4
        conv => whnf
        refine ⟨⟨by omega, by omega, by omega⟩, ?_⟩
        conv => whnf
        exact ⟨e _ h4, hext⟩
      · have h4 : words.contains ((c :: r).take k) = false := by rw [← htk]; exact h4
        conv => whnf
        refine ⟨⟨by omega, by omega, by omega⟩, ?_⟩
        conv => whnf
        exact ⟨e _ h4, hext⟩
end Go.Proofs.L
namespace Go.Proofs.L
open Go Go.Den Go.Sx
set_option maxRecDepth 100000
attribute [local irreducible] IntKind.wrap

theorem number_no (c : UInt8) (r : Bytes) (h : PHeap) (hc : isDigit c = false) : Tri Tryz.prog 135 [str (c :: r)] h fun v h' => v = two att0 false ∧ h' = h := by
  refine t135 rfl ?_
  conv => whnf
  refine ⟨by decide, c, rfl, ?_⟩
  conv => whnf
  refine Tri.mono (isDigit_tri _ _) ?_
  rintro v h' ⟨rfl, rfl⟩
  conv => whnf
  refine br_split (fun h1 => ?_) (fun h1 => ?_) <;> conv => whnf
  · exact ⟨rfl, rfl⟩
  · rw [hc] at h1; cases h1

def numO (k : Nat) : Except Nat Nat → OneR
  | .error e => .error (e, 0)
  | .ok v => .ok (2, k, v, [])
def numberS (l : Bytes) : OneR := numO (lead isAl l) (numS (l.take (lead isAl l)))

theorem numS_err (w : Bytes) (e : Nat) (h : numS w = .error e) : e ≠ 0 := by
  unfold numS at h
  split at h
  · split at h
    · cases h; decide
    · cases h
  · split at h
    · cases h; decide
    · split at h
      · cases h; decide
      · cases h

theorem number_yes (c : UInt8) (r : Bytes) (h : PHeap) (hc : isDigit c = true) (hl : (c :: r).length ≤ 1000000) : Tri Tryz.prog 135 [str (c :: r)] h fun v h' => v = two (attR (c :: r) (numberS (c :: r))) true ∧ h' = h := by
  have hle := lead_le isAl (c :: r)
  have hpos : 0 < lead isAl (c :: r) := by
    have : isAl c = true := by simp [isAl, hc]
    simp [lead, this]
  generalize hk : lead isAl (c :: r) = k at hle hpos
  have hlead : ∀ h, Tri Tryz.prog 132 [str (c :: r), fnv 166] h fun v h' => v = int k ∧ h' = h := fun h => by
    have := leading_tri (c :: r) 166 isAl isAl_tri h (by omega)
    rw [hk] at this; exact this
  have htk : ((c :: r).drop (0 : Int).toNat).take ((k : Int).toNat - (0 : Int).toNat) = (c :: r).take k := by simp
  have hval : ∀ h, Tri Tryz.prog 169 [str (((c :: r).drop (0 : Int).toNat).take ((k : Int).toNat - (0 : Int).toNat))] h fun v h' => v = numV (numS ((c :: r).take k)) ∧ h' = h := fun h => by
    rw [htk]
    refine valueOf_tri _ h ?_ (by simp; omega)
    intro e
    have := congrArg List.length e
    simp at this; omega
  have hns : numberS (c :: r) = numO k (numS ((c :: r).take k)) := by rw [numberS, hk]
  have herr := numS_err ((c :: r).take k)
  generalize numS ((c :: r).take k) = q at hval hns herr
  refine t135 rfl ?_
  conv => whnf
  refine ⟨by decide, c, rfl, ?_⟩
  conv => whnf
  refine Tri.mono (isDigit_tri _ _) ?_
  rintro v h' ⟨rfl, rfl⟩
  conv => whnf
  refine br_split (fun h1 => ?_) (fun h1 => ?_)
  · rw [hc] at h1; cases h1
  · conv => whnf
    refine Tri.mono (hlead _) ?_
    rintro v h' ⟨rfl, rfl⟩
    conv => whnf
    refine ⟨⟨by omega, by omega, by omega⟩, ?_⟩
    conv => whnf
    refine Tri.mono (hval _) ?_
    rintro v h' ⟨rfl, rfl⟩
    conv => whnf
    refine br_split (fun h2 => ?_) (fun h2 => ?_)
    · have e : two (att 0 [] 0 [] 0 0 (n1 q)) true = two (attR (c :: r) (numberS (c :: r))) true := by
        rw [hns]
        cases q with
        | error e => rfl
        | ok v => simp [n1] at h2
      conv => whnf
      exact ⟨e, rfl⟩
    · have e : two (att 2 (((c :: r).drop (0 : Int).toNat).take ((k : Int).toNat - (0 : Int).toNat)) (n0 q) [] k 0 0) true = two (attR (c :: r) (numberS (c :: r))) true := by
        rw [hns, htk]
        cases q with
        | error e => exact absurd (by simpa [n1] using h2) (herr e rfl)
        | ok v => rfl
      conv => whnf
      refine ⟨⟨by omega, by omega, by omega⟩, ?_⟩
      conv => whnf
      exact ⟨e, rfl⟩

theorem character_no (c : UInt8) (r : Bytes) (h : PHeap) (hc : c ≠ 39) : Tri Tryz.prog 136 [str (c :: r)] h fun v h' => v = two att0 false ∧ h' = h := by
  refine t136 rfl ?_
  conv => whnf
  refine ⟨by decide, c, rfl, ?_⟩
  conv => whnf
  refine br_split (fun h1 => ?_) (fun h1 => ?_)
  · conv => whnf
    exact ⟨rfl, rfl⟩
  · have h1 : (c.toNat : Int) = 39 := by simpa using h1
    exact absurd (UInt8.toNat_inj.1 (by show c.toNat = 39; omega)) hc

def charO (r : Bytes) : Except (Nat × Nat) (UInt8 × Nat) → OneR
  | .error (e, k) => if e = 4 then .error (4, 0) else .error (e, k + 1)
  | .ok (b, n) => match r.drop n with
    | [] => .error (4, 0)
    | d :: _ => if d == 39 then .ok (2, n + 2, b.toNat, []) else .error (6, n + 1)

theorem charS_err (l : Bytes) : (∀ e k, charS l = .error (e, k) → e ≠ 0) ∧ ∀ b n, charS l = .ok (b, n) → 0 < n ∧ n ≤ l.length := by
  unfold charS
  split
  · exact ⟨fun e k h => by cases h; decide, fun b n h => by cases h⟩
  · split
    · exact ⟨fun e k h => by cases h; decide, fun b n h => by cases h⟩
    · split
      · exact ⟨fun e k h => by cases h; decide, fun b n h => by cases h⟩
      · split
        · exact ⟨fun e k h => by cases h; decide, fun b n h => by cases h⟩
        · split
          · exact ⟨fun e k h => by cases h; decide, fun b n h => by cases h⟩
          · split
            · exact ⟨fun e k h => by cases h; decide, fun b n h => by cases h⟩
            · exact ⟨(fun e k h => by cases h), fun b n h => by cases h; simp⟩
    · split
      · exact ⟨(fun e k h => by cases h), fun b n h => by cases h; simp⟩
      · exact ⟨fun e k h => by cases h; decide, fun b n h => by cases h⟩
  · split
    · exact ⟨fun e k h => by cases h; decide, fun b n h => by cases h⟩
    · exact ⟨(fun e k h => by cases h), fun b n h => by cases h; simp⟩

theorem oneQ_err (q : UInt8) (l : Bytes) : (∀ e k, oneQ q l = .error (e, k) → e ≠ 0) ∧ ∀ b n, oneQ q l = .ok (b, n) → 0 < n ∧ n ≤ l.length := by
  unfold oneQ
  split
  · exact ⟨fun e k h => by cases h; decide, fun b n h => by cases h⟩
  · exact charS_err l

theorem character_err (r : Bytes) (h : PHeap) (ht : EscTab h) (hl : r.length + 1 ≤ 1000000) (e k : Nat) (hq : oneQ 39 r = .error (e, k)) :
    Tri Tryz.prog 136 [str (39 :: r)] h fun v h' => v = two (attR (39 :: r) (charO r (oneQ 39 r))) true ∧ h' = h := by
  have hone : ∀ h, EscTab h → Tri Tryz.prog 170 [str (39 :: r), int 1, .int .u8 39] h fun v h' => v = .tuple ⟨[.int .u8 0, int (if e = 4 then 0 else (1 + k : Nat)), int e]⟩ ∧ h' = h := fun h ht => by
    have := one_tri (39 :: r) 1 39 (by decide) h ht (by simp) (by simpa using hl)
    rw [show List.drop 1 (39 :: r) = r from rfl, hq] at this
    exact this
  have he := (oneQ_err 39 r).1 e k hq
  have e1 : two (att 0 [] 0 [] 0 (if e = 4 then 0 else (1 + k : Nat)) e) true = two (attR (39 :: r) (charO r (oneQ 39 r))) true := by
    rw [hq]
    by_cases h4 : e = 4
    · subst h4; rfl
    · simp only [charO, if_neg h4, attR, aK, aS, aV, aB, aA, aE]
      rw [Nat.add_comm 1 k]; rfl
  refine t136 rfl ?_
  conv => whnf
  refine ⟨by decide, 39, rfl, ?_⟩
  conv => whnf
  refine Tri.mono (hone _ ht) ?_
  rintro v h' ⟨rfl, rfl⟩
  conv => whnf
  refine br_split (fun h2 => ?_) (fun h2 => ?_)
  · conv => whnf
    exact ⟨e1, rfl⟩
  · have h2 : (e : Int) = 0 := by simpa using h2
    exact absurd (by omega) he

theorem character_ok (r : Bytes) (h : PHeap) (ht : EscTab h) (hl : r.length + 1 ≤ 1000000) (b : UInt8) (n : Nat) (hq : oneQ 39 r = .ok (b, n)) :
    Tri Tryz.prog 136 [str (39 :: r)] h fun v h' => v = two (attR (39 :: r) (charO r (oneQ 39 r))) true ∧ h' = h := by
  have hone : ∀ h, EscTab h → Tri Tryz.prog 170 [str (39 :: r), int 1, .int .u8 39] h fun v h' => v = .tuple ⟨[.int .u8 b.toNat, int (1 + n : Nat), int 0]⟩ ∧ h' = h := fun h ht => by
    have := one_tri (39 :: r) 1 39 (by decide) h ht (by simp) (by simpa using hl)
    rw [show List.drop 1 (39 :: r) = r from rfl, hq] at this
    exact this
  obtain ⟨hn0, hn1⟩ := (oneQ_err 39 r).2 b n hq
  have hb := b.toNat_lt
  have w1 : IntKind.i64.wrap (((1 + n : Nat) : Int) + 1) = ((n + 2 : Nat) : Int) := by rw [wrap64 (by omega) (by omega)]; omega
  have wb : IntKind.i64.wrap (b.toNat : Int) = (b.toNat : Int) := wrap64 (by omega) (by omega)
  have hnn : 0 ≤ ((1 + n : Nat) : Int) := Int.natCast_nonneg _
  rw [hq]
  by_cases hend : n = r.length
  · have e1 : two (att 0 [] 0 [] 0 0 4) true = two (attR (39 :: r) (charO r (.ok (b, n)))) true := by
      simp only [charO, hend, List.drop_length]; rfl
    refine t136 rfl ?_
    conv => whnf
    refine ⟨by decide, 39, rfl, ?_⟩
    conv => whnf
    refine Tri.mono (hone _ ht) ?_
    rintro v h' ⟨rfl, rfl⟩
    conv => whnf
    refine br_split (fun h2 => ?_) (fun h2 => ?_)
    · conv => whnf
      exact ⟨e1, rfl⟩
    · have h2 : ¬ ((1 + n : Nat) : Int) = ((39 :: r).length : Nat) := by simpa using h2
      exact absurd (by simp; omega) h2
  · have hlt : n < r.length := by omega
    have hdr : r.drop n = r[n] :: r.drop (n + 1) := List.drop_eq_getElem_cons hlt
    have hg : (39 :: r)[((1 + n : Nat) : Int).toNat]? = some r[n] := by
      rw [Int.toNat_natCast, Nat.add_comm 1 n, List.getElem?_cons_succ, List.getElem?_eq_getElem hlt]
    generalize r[n] = d at hdr hg
    have e1 : d ≠ 39 → two (att 0 [] 0 [] 0 (1 + n : Nat) 6) true = two (attR (39 :: r) (charO r (.ok (b, n)))) true := fun hd => by
      have : (d == 39) = false := by simpa using hd
      simp only [charO, hdr, this]
      rw [Nat.add_comm 1 n]; rfl
    have e2 : d = 39 → two (att 2 (((39 :: r).drop (0 : Int).toNat).take ((IntKind.i64.wrap (((1 + n : Nat) : Int) + 1)).toNat - (0 : Int).toNat)) (IntKind.i64.wrap (b.toNat : Int)) [] (IntKind.i64.wrap (((1 + n : Nat) : Int) + 1)) 0 0) true
        = two (attR (39 :: r) (charO r (.ok (b, n)))) true := fun hd => by
      simp only [charO, hdr, hd, w1, wb]; rfl
    have hw : 0 ≤ (0 : Int) ∧ 0 ≤ IntKind.i64.wrap (((1 + n : Nat) : Int) + 1) ∧ IntKind.i64.wrap (((1 + n : Nat) : Int) + 1) ≤ ((39 :: r).length : Nat) := by
      rw [w1]; simp; omega
    refine t136 rfl ?_
    conv => whnf
    refine ⟨by decide, 39, rfl, ?_⟩
    conv => whnf
    refine Tri.mono (hone _ ht) ?_
    rintro v h' ⟨rfl, rfl⟩
    conv => whnf
    refine br_split (fun h2 => ?_) (fun h2 => ?_)
    · have h2 : ((1 + n : Nat) : Int) = ((39 :: r).length : Nat) := by simpa using h2
      exact absurd h2 (by simp; omega)
    · conv => whnf
      refine ⟨hnn, d, hg, ?_⟩
      conv => whnf
      refine br_split (fun h3 => ?_) (fun h3 => ?_)
      · have hd : d ≠ 39 := by
          intro e; subst e; simp at h3
        conv => whnf
        exact ⟨e1 hd, rfl⟩
      · have hd : d = 39 := by
          have h3 : (d.toNat : Int) = 39 := by simpa using h3
          exact UInt8.toNat_inj.1 (by show d.toNat = 39; omega)
        conv => whnf
        refine ⟨hw, ?_⟩
        conv => whnf
        exact ⟨e2 hd, rfl⟩
end Go.Proofs.L
namespace Go.Proofs.L
open Go Go.Den Go.Sx
set_option maxRecDepth 100000
attribute [local irreducible] IntKind.wrap

/-- A slice of the call's own lies in no block that was there. -/
def Fresh (h : PHeap) (v : Value) : Prop := ∀ b o n c, v = .slice (some ⟨b, o, none⟩) n c → h b = none

theorem raw_append2 {P : Program} {h : PHeap} {ρ : Operand → Value} {c : Call} {x y : Operand} {t t2 e : TypeId} {n m k by_ : Nat} {z vx vy : Value} {xs ys : List Value} {ty : TypeId}
    (hc : c.callee = .builtin .append) (ha : c.args = #[x, y]) (hts : c.argTypes = #[t, t2]) (hu : P.underlying t = some (.slice e)) (hi : ∃ i, P.info? e = some i ∧ i.zero = some z ∧ i.size = k ∧ i.bytes = by_)
    (hx : ρ x = vx) (hy : ρ y = vy) (ho : Own h e k vx n xs) (hsrc : SrcH P h k t2 vy m ys) (hzc : z.cells.size = k) (hm : 0 < m) (hbig : (16 * (n + m) + 16384) * by_ ≤ 281474976710656) (h63 : n + m ≤ 1000000000) :
    Raw P (execOp ρ (mkO (.call c) ty)) h fun v h' => ∃ b cap rest, v = .slice (some ⟨b, 0, none⟩) (n + m) cap ∧ h' = h.put b (.cells ⟨xs ++ ys ++ rest⟩ e (0, 0)) ∧ rest.length = (cap - (n + m)) * k ∧ n + m ≤ cap ∧
      (h b = none ∨ ∃ c, vx = .slice (some ⟨b, 0, none⟩) n c) := by
  obtain ⟨i, h1, h2, rfl, rfl⟩ := hi
  exact raw_append hc ha hts hu h1 h2 hx hy ho hsrc hzc hm hbig h63

theorem put_ne {h : PHeap} {b k : Nat} {o : Obj} (hk : k ≠ b) : h.put b o k = h k := by simp [PHeap.put, hk]

theorem Own.put {h : PHeap} {e k n b : Nat} {v : Value} {xs : List Value} (ho : Own h e k v n xs) (hb : h b = none) (o : Obj) : Own (h.put b o) e k v n xs := by
  obtain ⟨hl, ho⟩ := ho
  refine ⟨hl, ?_⟩
  rcases ho with ho | ⟨b', cap, rest, rfl, hh, hr, hn⟩
  · exact .inl ho
  · refine .inr ⟨b', cap, rest, rfl, ?_, hr, hn⟩
    rw [put_ne (fun e => by rw [e, hb] at hh; cases hh)]; exact hh

theorem Own.nil (h : PHeap) (e k : Nat) : Own h e k (.slice none 0 0) 0 [] := ⟨by simp, .inl ⟨rfl, rfl⟩⟩
theorem Fresh.nil (h : PHeap) : Fresh h (.slice none 0 0) := fun b o n c e => by cases e

/-- Behind 'l = append(l, x)'. -/
theorem own_append {h h1 : PHeap} {e k n m b b' cap : Nat} {v : Value} {xs ys rest : List Value} {o : Obj} (hown : Own h1 e k v n xs) (hb : h1 b = none) (hext : Ext h h1) (hfr : Fresh h v) (hys : ys.length = m * k)
    (hr : rest.length = (cap - (n + m)) * k) (hc : n + m ≤ cap) (hor : (h1.put b o) b' = none ∨ ∃ c, v = .slice (some ⟨b', 0, none⟩) n c) :
    Own ((h1.put b o).put b' (.cells ⟨xs ++ ys ++ rest⟩ e (0, 0))) e k (.slice (some ⟨b', 0, none⟩) (n + m) cap) (n + m) (xs ++ ys) ∧
      Ext h ((h1.put b o).put b' (.cells ⟨xs ++ ys ++ rest⟩ e (0, 0))) ∧ Fresh h (.slice (some ⟨b', 0, none⟩) (n + m) cap) := by
  have hb' : h b' = none := by
    rcases hor with h2 | ⟨c, h2⟩
    · cases hh : h b' with
      | none => rfl
      | some x =>
        have h3 := (hext.trans (Ext.put hb o)) b' x hh
        rw [h2] at h3; cases h3
    · exact hfr _ _ _ _ h2
  refine ⟨⟨by rw [List.length_append, hown.1, hys, Nat.add_mul], .inr ⟨b', cap, rest, rfl, put_same _ _ _, hr, hc⟩⟩, ?_, fun b2 o2 n2 c2 e2 => by cases e2; exact hb'⟩
  intro j x hj
  rw [put_ne (fun e => by rw [e, hb'] at hj; cases hj)]
  exact (hext.trans (Ext.put hb o)) j x hj

theorem info5 : ∃ i, Tryz.prog.info? 5 = some i ∧ i.zero = some (.int .u8 0) ∧ i.size = 1 ∧ i.bytes = 1 := ⟨_, rfl, rfl, rfl, rfl⟩

/-- A string's reading, m bytes and k bytes of text ahead. -/
def strJ (m : Bytes) (k : Nat) : Except (Nat × Nat) (Bytes × Nat) → Except (Nat × Nat) (Bytes × Nat)
  | .error (e, i) => if e = 4 then .error (4, 0) else .error (e, i + k)
  | .ok (m', j) => .ok (m ++ m', j + k)

theorem strJ_strJ (m m' : Bytes) (k k' : Nat) (r : Except (Nat × Nat) (Bytes × Nat)) : strJ m k (strJ m' k' r) = strJ (m ++ m') (k + k') r := by
  cases r with
  | error p =>
    obtain ⟨e, i⟩ := p
    by_cases h4 : e = 4
    · subst h4; simp [strJ]
    · simp only [strJ, if_neg h4]; rw [Nat.add_assoc, Nat.add_comm k' k]
  | ok p => obtain ⟨a, j⟩ := p; simp [strJ]; omega

theorem strS_step {f : Nat} {c : UInt8} {l : Bytes} (hc : c ≠ 34) : strS (f + 1) (c :: l) = match charS (c :: l) with
    | .error (e, k) => if e = 4 then .error (4, 0) else .error (e, k)
    | .ok (b, n) => strJ [b] n (strS f ((c :: l).drop n)) := by
  have h1 : (c == 34) = false := by simpa using hc
  conv => lhs; unfold strS
  simp only [h1]
  cases hs : charS (c :: l) with
  | error p =>
    obtain ⟨e, k⟩ := p
    by_cases h4 : e = 4
    · subst h4; simp
    · simp [h4]
  | ok p =>
    obtain ⟨b, n⟩ := p
    simp only [Bool.false_eq_true, if_false]
    cases hr : strS f ((c :: l).drop n) with
    | error p =>
      obtain ⟨e, k⟩ := p
      by_cases h4 : e = 4
      · subst h4; simp [strJ]
      · simp [h4, strJ]
    | ok p => obtain ⟨m, k⟩ := p; simp [strJ]
end Go.Proofs.L
namespace Go.Proofs.L
open Go Go.Den Go.Sx
set_option maxRecDepth 100000
attribute [local irreducible] IntKind.wrap

def quoO : Except (Nat × Nat) (Bytes × Nat) → OneR
  | .error (e, k) => if e = 4 then .error (4, 0) else .error (e, k + 1)
  | .ok (m, k) => if 200 < m.length then .error (5, 0) else .ok (3, k + 2, 0, m)

def cb : Except (Nat × Nat) (UInt8 × Nat) → UInt8
  | .ok (b, _) => b
  | .error _ => 0
def cn : Except (Nat × Nat) (UInt8 × Nat) → Nat
  | .ok (_, n) => n
  | .error _ => 0

theorem quoO_strJ4 (m : Bytes) (k : Nat) (i : Nat) : quoO (strJ m k (.error (4, i))) = .error (4, 0) := by simp [strJ, quoO]

theorem q_err (r m : Bytes) (k : Nat) (hm : m.length ≤ k) (hk : k ≤ r.length) (R : Except (Nat × Nat) (Bytes × Nat)) (hR : R = strJ m k (strS (r.length + 1 - m.length) (r.drop k))) (hq : (r.drop k).head? ≠ some 34)
    (h2 : c2 (oneQ 34 (r.drop k)) ≠ 0) : two (att 0 [] 0 [] 0 (c1 (k + 1) (oneQ 34 (r.drop k))) (c2 (oneQ 34 (r.drop k)))) true = two (attR (34 :: r) (quoO R)) true := by
  obtain ⟨f, hf⟩ : ∃ f, r.length + 1 - m.length = f + 1 := ⟨r.length - m.length, by omega⟩
  rw [hf] at hR
  rw [oneQ, if_neg hq] at h2 ⊢
  cases hd : r.drop k with
  | nil => rw [hd] at hR; rw [hR]; simp only [strS]; rw [quoO_strJ4]; rfl
  | cons c l =>
    have hc : c ≠ 34 := by intro e; rw [hd, e] at hq; exact hq rfl
    rw [hd] at hR h2
    rw [strS_step hc] at hR
    cases hs : charS (c :: l) with
    | ok p => obtain ⟨b, n⟩ := p; rw [hs] at h2; exact absurd rfl h2
    | error p =>
      obtain ⟨e, i⟩ := p
      rw [hs] at hR
      by_cases h4 : e = 4
      · subst h4; simp only [if_true] at hR; rw [hR, quoO_strJ4]; rfl
      · simp only [if_neg h4, strJ] at hR
        rw [hR]; simp only [quoO, if_neg h4, attR, c1, c2, aK, aS, aV, aB, aA, aE]
        rw [show k + 1 + i = i + k + 1 by omega]; rfl

theorem q_ok (r m : Bytes) (k : Nat) (hm : m.length ≤ k) (hk : k ≤ r.length) (R : Except (Nat × Nat) (Bytes × Nat)) (hR : R = strJ m k (strS (r.length + 1 - m.length) (r.drop k))) (hq : (r.drop k).head? ≠ some 34)
    (h2 : c2 (oneQ 34 (r.drop k)) = 0) (o : Except (Nat × Nat) (UInt8 × Nat)) (ho : o = oneQ 34 (r.drop k)) :
    c1 (k + 1) o = (k + cn o + 1 : Nat) ∧ c0 o = (cb o).toNat ∧ 0 < cn o ∧ k + cn o ≤ r.length ∧ R = strJ (m ++ [cb o]) (k + cn o) (strS (r.length + 1 - (m ++ [cb o]).length) (r.drop (k + cn o))) := by
  obtain ⟨f, hf⟩ : ∃ f, r.length + 1 - m.length = f + 1 := ⟨r.length - m.length, by omega⟩
  have hf2 : ∀ b, r.length + 1 - (m ++ [b]).length = f := fun b => by simp; omega
  have herr := oneQ_err 34 (r.drop k)
  rw [← ho] at h2 herr
  cases o with
  | error p => obtain ⟨e, i⟩ := p; exact absurd (by simpa [c2] using h2) (herr.1 e i rfl)
  | ok p =>
    obtain ⟨b, n⟩ := p
    have h3 := herr.2 b n rfl
    rw [List.length_drop] at h3
    refine ⟨by show ((k + 1 + n : Nat) : Int) = _; simp [cn]; omega, rfl, h3.1, by show k + n ≤ _; omega, ?_⟩
    rw [hf2, hR, hf]
    rw [oneQ, if_neg hq] at ho
    show _ = strJ (m ++ [b]) (k + n) (strS f (r.drop (k + n)))
    rw [← List.drop_drop]
    cases hd : r.drop k with
    | nil => rw [hd] at ho; cases ho
    | cons c l =>
      have hc : c ≠ 34 := by intro e; rw [hd, e] at hq; exact hq rfl
      rw [hd] at ho
      rw [strS_step hc, ← ho]
      show strJ m k (strJ [b] n _) = _
      rw [strJ_strJ]

theorem quoted_no (c : UInt8) (r : Bytes) (h : PHeap) (hc : c ≠ 34) : Tri Tryz.prog 137 [str (c :: r)] h fun v h' => v = two att0 false ∧ h' = h := by
  refine t137 rfl ?_
  conv => whnf
  refine ⟨by decide, c, rfl, ?_⟩
  conv => whnf
  refine br_split (fun h1 => ?_) (fun h1 => ?_)
  · conv => whnf
    exact ⟨rfl, rfl⟩
  · have h1 : (c.toNat : Int) = 34 := by simpa using h1
    exact absurd (UInt8.toNat_inj.1 (by show c.toNat = 34; omega)) hc
end Go.Proofs.L
namespace Go.Proofs.L
open Go Go.Den Go.Sx
set_option maxRecDepth 100000
attribute [local irreducible] IntKind.wrap

def sl (p : Option (Nat × Nat)) (n : Nat) : Value := match p with
  | none => .slice none 0 0
  | some (b, c) => .slice (some ⟨b, 0, none⟩) n c

structure QI (r : Bytes) (h : PHeap) (x : Nat × Bytes × Option (Nat × Nat)) (h1 : PHeap) : Prop where
  hk : x.1 ≤ r.length
  hm : x.2.1.length ≤ x.1
  own : Own h1 5 1 (sl x.2.2 x.2.1.length) x.2.1.length (x.2.1.map byteV)
  ext : Ext h h1
  fr : Fresh h (sl x.2.2 x.2.1.length)
  R : strS (r.length + 1) r = strJ x.2.1 x.1 (strS (r.length + 1 - x.2.1.length) (r.drop x.1))

theorem head_end {r : Bytes} {k : Nat} (h : (k : Int) + 1 = (r.length : Int) + 1) : (r.drop k).head? ≠ some 34 := by
  rw [List.drop_eq_nil_of_le (by omega)]; simp
theorem len_ok {m r : Bytes} {k : Nat} (h1 : m.length ≤ k) (h2 : k ≤ r.length) (hl : r.length + 1 ≤ 1000000) : (16 * (m.length + 1) + 16384) * 1 ≤ 281474976710656 ∧ m.length + 1 ≤ 1000000000 := by omega
theorem put_row1 (h : PHeap) (b e : Nat) (x : Value) : (h.put b (.cells ⟨[x]⟩ e)).row b 0 [x] := row_put _ _ _ _ _
theorem q_sl (m : Bytes) (c : UInt8) (b cap : Nat) : SV.val (.slice (some ⟨b, 0, none⟩) (m.length + 1) cap) = SV.val (sl (some (b, cap)) (m ++ [c]).length) := by simp [sl]
theorem q_less {r : Bytes} {k n : Nat} {A B C : Prop} (h : A ∧ B ∧ 0 < n ∧ k + n ≤ r.length ∧ C) : r.length - (k + n) < r.length - k := by omega
theorem q_next {r m : Bytes} {h h1 : PHeap} {k b0 b2 cap : Nat} {p : Option (Nat × Nat)} {rest : List Value} {ob : Obj} {o : Except (Nat × Nat) (UInt8 × Nat)} {A : Prop} (hI : QI r h (k, m, p) h1) (hb0 : h1 b0 = none)
    (hr : rest.length = (cap - (m.length + 1)) * 1) (hc : m.length + 1 ≤ cap) (hor : (h1.put b0 ob) b2 = none ∨ ∃ c, sl p m.length = .slice (some ⟨b2, 0, none⟩) m.length c)
    (hok : A ∧ c0 o = (cb o).toNat ∧ 0 < cn o ∧ k + cn o ≤ r.length ∧ strS (r.length + 1) r = strJ (m ++ [cb o]) (k + cn o) (strS (r.length + 1 - (m ++ [cb o]).length) (r.drop (k + cn o)))) :
    QI r h (k + cn o, m ++ [cb o], some (b2, cap)) ((h1.put b0 ob).put b2 (.cells ⟨m.map byteV ++ [.int .u8 (c0 o)] ++ rest⟩ 5 (0, 0))) := by
  obtain ⟨h1', h2', h3'⟩ := own_append (ys := [.int .u8 (c0 o)]) hI.own hb0 hI.ext hI.fr rfl hr hc hor
  have e : m.map byteV ++ [.int .u8 (c0 o)] = (m ++ [cb o]).map byteV := by rw [hok.2.1]; simp [byteV]
  have el : (m ++ [cb o]).length = m.length + 1 := by simp
  have hm := hI.hm
  refine ⟨hok.2.2.2.1, by show (m ++ [cb o]).length ≤ k + cn o; rw [el]; have : m.length ≤ k := hm; have := hok.2.2.1; omega, ?_, h2', ?_, hok.2.2.2.2⟩
  · show Own _ 5 1 (sl (some (b2, cap)) (m ++ [cb o]).length) (m ++ [cb o]).length ((m ++ [cb o]).map byteV)
    rw [el, ← e]; exact h1'
  · show Fresh h (sl (some (b2, cap)) (m ++ [cb o]).length)
    rw [el]; exact h3'
theorem q_lt {r : Bytes} {k : Nat} {x : UInt8} (hk : k ≤ r.length) (h : ((((k + 1 : Nat) : Int)) == (((x :: r).length : Nat) : Int)) = false) : k < r.length := by
  have h : ¬ ((k + 1 : Nat) : Int) = ((r.length + 1 : Nat) : Int) := by simpa using h
  omega
theorem q_get {r : Bytes} {k : Nat} {x : UInt8} (hlt : k < r.length) : (x :: r)[((k + 1 : Nat) : Int).toNat]? = some (r[k]'hlt) := by
  rw [Int.toNat_natCast, List.getElem?_cons_succ, List.getElem?_eq_getElem hlt]
theorem q_head {r : Bytes} {k : Nat} (hlt : k < r.length) (h : (((r[k]'hlt).toNat : Int) != 34) = true) : (r.drop k).head? ≠ some 34 := by
  rw [List.drop_eq_getElem_cons hlt]
  intro e
  have e : r[k] = 34 := Option.some.inj e
  rw [e] at h; exact absurd h (by decide)
theorem q_exit {r m : Bytes} {k : Nat} (hlt : k < r.length) (h : (((r[k]'hlt).toNat : Int) != 34) = false) (hm : m.length ≤ k) (hR : strS (r.length + 1) r = strJ m k (strS (r.length + 1 - m.length) (r.drop k))) : strS (r.length + 1) r = .ok (m, k) := by
  obtain ⟨f, hf⟩ : ∃ f, r.length + 1 - m.length = f + 1 := ⟨r.length - m.length, by omega⟩
  have h : ((r[k]'hlt).toNat : Int) = 34 := by simpa using h
  have e : r[k] = 34 := UInt8.toNat_inj.1 (by show r[k].toNat = 34; omega)
  rw [hR, hf, List.drop_eq_getElem_cons hlt, e]
  simp [strS, strJ]
theorem q_w {r : Bytes} {k : Nat} (hlt : k < r.length) (hl : r.length + 1 ≤ 1000000) : IntKind.i64.wrap (((k + 1 : Nat) : Int) + 1) = ((k + 2 : Nat) : Int) := by rw [wrap64 (by omega) (by omega)]; omega
theorem q_bound {r : Bytes} {k : Nat} {x : UInt8} (hlt : k < r.length) (hl : r.length + 1 ≤ 1000000) : 0 ≤ (0 : Int) ∧ 0 ≤ IntKind.i64.wrap (((k + 1 : Nat) : Int) + 1) ∧ IntKind.i64.wrap (((k + 1 : Nat) : Int) + 1) ≤ ((x :: r).length : Nat) := by
  rw [q_w hlt hl]; simp; omega
theorem q_long {r m : Bytes} {k : Nat} {R : Except (Nat × Nat) (Bytes × Nat)} (hx : R = .ok (m, k)) (h : decide ((200 : Int) < ((m.length : Nat) : Int)) = true) : two (att 0 [] 0 [] 0 0 5) true = two (attR (34 :: r) (quoO R)) true := by
  have h : 200 < m.length := by have := of_decide_eq_true h; omega
  rw [hx]; simp only [quoO, if_pos h]; rfl
theorem q_done {r m : Bytes} {k : Nat} {R : Except (Nat × Nat) (Bytes × Nat)} (hx : R = .ok (m, k)) (h : decide ((200 : Int) < ((m.length : Nat) : Int)) = false) (hlt : k < r.length) (hl : r.length + 1 ≤ 1000000) :
    two (att 3 (((34 :: r).drop (0 : Int).toNat).take ((IntKind.i64.wrap (((k + 1 : Nat) : Int) + 1)).toNat - (0 : Int).toNat)) 0 m (IntKind.i64.wrap (((k + 1 : Nat) : Int) + 1)) 0 0) true = two (attR (34 :: r) (quoO R)) true := by
  have h : ¬ 200 < m.length := by have := of_decide_eq_false h; omega
  rw [hx, q_w hlt hl]; simp only [quoO, if_neg h]; rfl
theorem q_done0 {r m : Bytes} {k : Nat} {h1 : PHeap} {R : Except (Nat × Nat) (Bytes × Nat)} (hx : R = .ok (m, k)) (ho : Own h1 5 1 (sl none m.length) m.length (m.map byteV)) (hlt : k < r.length) (hl : r.length + 1 ≤ 1000000) :
    two (att 3 (((34 :: r).drop (0 : Int).toNat).take ((IntKind.i64.wrap (((k + 1 : Nat) : Int) + 1)).toNat - (0 : Int).toNat)) 0 [] (IntKind.i64.wrap (((k + 1 : Nat) : Int) + 1)) 0 0) true = two (attR (34 :: r) (quoO R)) true := by
  have hm : m = [] := by
    rcases ho.2 with h | ⟨b, cap, rest, h, _⟩
    · exact List.eq_nil_of_length_eq_zero h.2
    · cases h
  subst hm
  exact q_done hx rfl hlt hl
theorem strJ_zero (f : Nat) (r : Bytes) : strS f r = strJ [] 0 (strS f r) := by
  cases f with
  | zero => rfl
  | succ f =>
    cases r with
    | nil => rfl
    | cons c l =>
      by_cases hc : c = 34
      · subst hc; rfl
      · rw [strS_step hc]
        cases hs : charS (c :: l) with
        | error p =>
          obtain ⟨e, k⟩ := p
          by_cases h4 : e = 4
          · subst h4; rfl
          · simp [strJ, h4]
        | ok p => obtain ⟨b, n⟩ := p; simp only []; rw [strJ_strJ]; simp

theorem quoted_yes (r : Bytes) (h : PHeap) (ht : EscTab h) (hl : r.length + 1 ≤ 1000000) : Tri Tryz.prog 137 [str (34 :: r)] h fun v h' => v = two (attR (34 :: r) (quoO (strS (r.length + 1) r))) true ∧ Ext h h' := by
  have hone : ∀ k h, k ≤ r.length → EscTab h → Tri Tryz.prog 170 [str (34 :: r), int (k + 1 : Nat), .int .u8 34] h fun v h' => v = charV (k + 1) (oneQ 34 (r.drop k)) ∧ h' = h := fun k h hk ht =>
    one_tri (34 :: r) (k + 1) 34 (by decide) h ht (by simpa using hk) (by simpa using hl)
  have hR0 : strS (r.length + 1) r = strJ [] 0 (strS (r.length + 1) r) := strJ_zero _ _
  refine t137 rfl ?_
  conv => whnf
  refine ⟨by decide, 34, rfl, ?_⟩
  conv => whnf
  refine ⟨Nat × Bytes × Option (Nat × Nat), QI r h, fun x => [(4, .val (sl x.2.2 x.2.1.length)), (5, .val (int (x.1 + 1 : Nat)))], fun _ => [], fun x _ => r.length - x.1,
    ⟨(0, [], none), ⟨Nat.zero_le _, Nat.zero_le _, Own.nil _ _ _, fun _ _ h => h, Fresh.nil _, hR0⟩, ⟨rfl, rfl⟩, rfl⟩, fun _ => trivial, ?_⟩
  rintro ⟨k, m, _ | ⟨b, c⟩⟩ h1 hI
  · conv => whnf
    refine br_split (fun h2 => ?_) (fun h2 => ?_)
    · have hq : (r.drop k).head? ≠ some 34 := head_end (by simpa using h2)
      conv => whnf
      refine Tri.mono (hone k _ hI.hk (ht.ext hI.ext)) ?_
      rintro v h' ⟨rfl, rfl⟩
      conv => whnf
      refine br_split (fun h3 => ?_) (fun h3 => ?_)
      · have h3 : c2 (oneQ 34 (r.drop k)) ≠ 0 := by simpa using h3
        conv => whnf
        exact ⟨q_err r m k hI.hm hI.hk _ hI.R hq h3, hI.ext⟩
      · have h3 : c2 (oneQ 34 (r.drop k)) = 0 := by simpa using h3
        have hok := q_ok r m k hI.hm hI.hk _ hI.R hq h3 _ rfl
        conv => whnf
        intro b0 hb0
        conv => whnf
        refine Raw.mono (raw_append2 rfl rfl rfl rfl info5 rfl rfl (Go.Proofs.L.Own.put hI.own hb0 _) (SrcH.row rfl rfl (put_row1 _ _ _ _) rfl) rfl (by decide) (len_ok hI.hm hI.hk hl).1 (len_ok hI.hm hI.hk hl).2) ?_
        rintro v h2 ⟨b2, cap, rest, rfl, rfl, hr, hc, hor⟩
        conv => whnf
        exact ⟨(k + cn (oneQ 34 (r.drop k)), m ++ [cb (oneQ 34 (r.drop k))], some (b2, cap)), q_next hI hb0 hr hc hor hok, q_less hok, ⟨q_sl _ _ _ _, congrArg (fun x => SV.val (.int .i64 x)) hok.1⟩, rfl⟩
    · have hlt := q_lt hI.hk h2
      conv => whnf
      refine ⟨Int.natCast_nonneg _, r[k]'hlt, q_get hlt, ?_⟩
      conv => whnf
      refine br_split (fun h4 => ?_) (fun h4 => ?_)
      · have hq : (r.drop k).head? ≠ some 34 := q_head hlt h4
        conv => whnf
        refine Tri.mono (hone k _ hI.hk (ht.ext hI.ext)) ?_
        rintro v h' ⟨rfl, rfl⟩
        conv => whnf
        refine br_split (fun h3 => ?_) (fun h3 => ?_)
        · have h3 : c2 (oneQ 34 (r.drop k)) ≠ 0 := by simpa using h3
          conv => whnf
          exact ⟨q_err r m k hI.hm hI.hk _ hI.R hq h3, hI.ext⟩
        · have h3 : c2 (oneQ 34 (r.drop k)) = 0 := by simpa using h3
          have hok := q_ok r m k hI.hm hI.hk _ hI.R hq h3 _ rfl
          conv => whnf
          intro b0 hb0
          conv => whnf
          refine Raw.mono (raw_append2 rfl rfl rfl rfl info5 rfl rfl (Go.Proofs.L.Own.put hI.own hb0 _) (SrcH.row rfl rfl (put_row1 _ _ _ _) rfl) rfl (by decide) (len_ok hI.hm hI.hk hl).1 (len_ok hI.hm hI.hk hl).2) ?_
          rintro v h2 ⟨b2, cap, rest, rfl, rfl, hr, hc, hor⟩
          conv => whnf
          exact ⟨(k + cn (oneQ 34 (r.drop k)), m ++ [cb (oneQ 34 (r.drop k))], some (b2, cap)), q_next hI hb0 hr hc hor hok, q_less hok, ⟨q_sl _ _ _ _, congrArg (fun x => SV.val (.int .i64 x)) hok.1⟩, rfl⟩
      · have hx := q_exit hlt h4 hI.hm hI.R
        conv => whnf
        refine ⟨q_bound hlt hl, ?_⟩
        conv => whnf
        exact ⟨q_done0 hx hI.own hlt hl, hI.ext⟩
  · conv => whnf
    refine br_split (fun h2 => ?_) (fun h2 => ?_)
    · have hq : (r.drop k).head? ≠ some 34 := head_end (by simpa using h2)
      conv => whnf
      refine Tri.mono (hone k _ hI.hk (ht.ext hI.ext)) ?_
      rintro v h' ⟨rfl, rfl⟩
      conv => whnf
      refine br_split (fun h3 => ?_) (fun h3 => ?_)
      · have h3 : c2 (oneQ 34 (r.drop k)) ≠ 0 := by simpa using h3
        conv => whnf
        exact ⟨q_err r m k hI.hm hI.hk _ hI.R hq h3, hI.ext⟩
      · have h3 : c2 (oneQ 34 (r.drop k)) = 0 := by simpa using h3
        have hok := q_ok r m k hI.hm hI.hk _ hI.R hq h3 _ rfl
        conv => whnf
        intro b0 hb0
        conv => whnf
        refine Raw.mono (raw_append2 rfl rfl rfl rfl info5 rfl rfl (Go.Proofs.L.Own.put hI.own hb0 _) (SrcH.row rfl rfl (put_row1 _ _ _ _) rfl) rfl (by decide) (len_ok hI.hm hI.hk hl).1 (len_ok hI.hm hI.hk hl).2) ?_
        rintro v h2 ⟨b2, cap, rest, rfl, rfl, hr, hc, hor⟩
        conv => whnf
        exact ⟨(k + cn (oneQ 34 (r.drop k)), m ++ [cb (oneQ 34 (r.drop k))], some (b2, cap)), q_next hI hb0 hr hc hor hok, q_less hok, ⟨q_sl _ _ _ _, congrArg (fun x => SV.val (.int .i64 x)) hok.1⟩, rfl⟩
    · have hlt := q_lt hI.hk h2
      conv => whnf
      refine ⟨Int.natCast_nonneg _, r[k]'hlt, q_get hlt, ?_⟩
      conv => whnf
      refine br_split (fun h4 => ?_) (fun h4 => ?_)
      · have hq : (r.drop k).head? ≠ some 34 := q_head hlt h4
        conv => whnf
        refine Tri.mono (hone k _ hI.hk (ht.ext hI.ext)) ?_
        rintro v h' ⟨rfl, rfl⟩
        conv => whnf
        refine br_split (fun h3 => ?_) (fun h3 => ?_)
        · have h3 : c2 (oneQ 34 (r.drop k)) ≠ 0 := by simpa using h3
          conv => whnf
          exact ⟨q_err r m k hI.hm hI.hk _ hI.R hq h3, hI.ext⟩
        · have h3 : c2 (oneQ 34 (r.drop k)) = 0 := by simpa using h3
          have hok := q_ok r m k hI.hm hI.hk _ hI.R hq h3 _ rfl
          conv => whnf
          intro b0 hb0
          conv => whnf
          refine Raw.mono (raw_append2 rfl rfl rfl rfl info5 rfl rfl (Go.Proofs.L.Own.put hI.own hb0 _) (SrcH.row rfl rfl (put_row1 _ _ _ _) rfl) rfl (by decide) (len_ok hI.hm hI.hk hl).1 (len_ok hI.hm hI.hk hl).2) ?_
          rintro v h2 ⟨b2, cap, rest, rfl, rfl, hr, hc, hor⟩
          conv => whnf
          exact ⟨(k + cn (oneQ 34 (r.drop k)), m ++ [cb (oneQ 34 (r.drop k))], some (b2, cap)), q_next hI hb0 hr hc hor hok, q_less hok, ⟨q_sl _ _ _ _, congrArg (fun x => SV.val (.int .i64 x)) hok.1⟩, rfl⟩
      · have hx := q_exit hlt h4 hI.hm hI.R
        conv => whnf
        refine br_split (fun h5 => ?_) (fun h5 => ?_)
        · conv => whnf
          exact ⟨q_long hx h5, hI.ext⟩
        · conv => whnf
          refine ⟨q_bound hlt hl, ?_⟩
          conv => whnf
          refine ⟨m, rfl, Go.Den.Own.row hI.own, ?_⟩
          conv => whnf
          exact ⟨q_done hx h5 hlt hl, hI.ext⟩
end Go.Proofs.L
namespace Go.Proofs.L
open Go Go.Den Go.Sx
set_option maxRecDepth 100000
attribute [local irreducible] IntKind.wrap

def symT (l b s : Bytes) : Bytes := if b.length < s.length && s.isPrefixOf l then s else b
def symB (l : Bytes) (ss : List Bytes) : Bytes := ss.foldl (symT l) []

theorem symB_snoc (l : Bytes) (n : Nat) (hn : n < marks.length) : symB l (marks.take (n + 1)) = symT l (symB l (marks.take n)) marks[n] := by
  rw [symB, List.take_succ_eq_append_getElem hn, List.foldl_append]; rfl

theorem sym_cell {h : PHeap} {b n : Nat} (hr : h.row b 0 (marks.map str)) (hlt : n < marks.length) : h.cell b (0 + (n : Int).toNat * 1) = some (str (marks[n]'hlt)) := by
  have := PHeap.row_get hr n (str (marks[n]'hlt)) (by simp [hlt])
  simpa using this
theorem sym_less {n : Nat} (hlt : n < marks.length) : 29 - (n + 1) < 29 - n := by
  have : n < 29 := hlt
  omega
theorem sym_inc {n : Nat} (hlt : n < marks.length) : SV.val (.int .i64 (IntKind.i64.wrap ((n : Int) + 1))) = SV.val (int (n + 1 : Nat)) := by
  have : n < 29 := hlt
  rw [wrap64 (by omega) (by omega)]; rfl
theorem sym_yes {l b s x : Bytes} (hx : x = symT l b s) (h4 : decide ((b.length : Int) < (s.length : Int)) = true) (h6 : s.isPrefixOf l = true) : s = x := by
  have h4 : b.length < s.length := by have := of_decide_eq_true h4; omega
  rw [hx, symT, h6]; simp [h4]
theorem sym_no2 {l b s x : Bytes} (hx : x = symT l b s) (h6 : s.isPrefixOf l = false) : b = x := by
  rw [hx, symT, h6]; simp
theorem sym_no1 {l b s x : Bytes} (hx : x = symT l b s) (h4 : decide ((b.length : Int) < (s.length : Int)) = false) : b = x := by
  have h4 : ¬ b.length < s.length := by have := of_decide_eq_false h4; omega
  rw [hx, symT]; simp [h4]

theorem symbol_tri (l : Bytes) (h : PHeap) : Tri Tryz.prog 138 [str l] h fun v h' => v = two (att 5 (symB l marks) 0 [] (symB l marks).length 0 0) (!(symB l marks == [])) ∧ Ext h h' := by
  refine t138 rfl ?_
  conv => whnf
  refine Tri.mono (symbols_tri _) ?_
  rintro v h1 ⟨b, rfl, hrow, hext⟩
  conv => whnf
  refine ⟨Nat, fun n h2 => h2 = h1 ∧ n ≤ 29, fun n => [(4, .val (str (symB l (marks.take n)))), (9, .val (int n))], fun _ => [], fun n _ => 29 - n, ⟨0, ⟨rfl, Nat.zero_le _⟩, ⟨rfl, rfl⟩, rfl⟩, fun _ => trivial, ?_⟩
  rintro n h2 ⟨rfl, hn⟩
  conv => whnf
  refine br_split (fun h3 => ?_) (fun h3 => ?_)
  · have h3 : (n : Int) < 29 := by simpa using h3
    have hlt : n < marks.length := by show n < 29; omega
    have hcell := sym_cell hrow hlt
    have hs := symB_snoc l n hlt
    conv => whnf
    refine ⟨⟨Int.natCast_nonneg _, h3⟩, ?_⟩
    conv => whnf
    refine ⟨[str (marks[n]'hlt)], rfl, hcell, ?_⟩
    conv => whnf
    refine br_split (fun h4 => ?_) (fun h4 => ?_)
    · conv => whnf
      refine Tri.mono (stringsHasPrefix_tri _ _ _) ?_
      rintro v h5 ⟨rfl, rfl⟩
      conv => whnf
      refine br_split (fun h6 => ?_) (fun h6 => ?_)
      · conv => whnf
        exact ⟨n + 1, ⟨rfl, hlt⟩, sym_less hlt, ⟨congrArg (fun x => SV.val (str x)) (sym_yes hs h4 h6), sym_inc hlt⟩, rfl⟩
      · conv => whnf
        exact ⟨n + 1, ⟨rfl, hlt⟩, sym_less hlt, ⟨congrArg (fun x => SV.val (str x)) (sym_no2 hs h6), sym_inc hlt⟩, rfl⟩
    · conv => whnf
      exact ⟨n + 1, ⟨rfl, hlt⟩, sym_less hlt, ⟨congrArg (fun x => SV.val (str x)) (sym_no1 hs h4), sym_inc hlt⟩, rfl⟩
  · have h3 : ¬ (n : Int) < 29 := by simpa using h3
    have e : marks.take n = marks := List.take_of_length_le (show 29 ≤ n by omega)
    have e2 : two (att 5 (symB l (marks.take n)) 0 [] (symB l (marks.take n)).length 0 0) (!(symB l (marks.take n) == [])) = two (att 5 (symB l marks) 0 [] (symB l marks).length 0 0) (!(symB l marks == [])) := by rw [e]
    conv => whnf
    exact ⟨e2, hext⟩
end Go.Proofs.L
namespace Go.Proofs.L
open Go Go.Den Go.Sx
set_option maxRecDepth 100000

theorem marks_len : ∀ s ∈ marks, s.length = 1 ∨ s.length = 2 := by decide

theorem symT_mem (l : Bytes) : ∀ (ss : List Bytes) (b : Bytes), ss.foldl (symT l) b = b ∨ ss.foldl (symT l) b ∈ ss ∧ (ss.foldl (symT l) b).isPrefixOf l = true
  | [], b => .inl rfl
  | s :: ss, b => by
    rw [List.foldl_cons]
    by_cases hc : (b.length < s.length && s.isPrefixOf l) = true
    · have e : symT l b s = s := by rw [symT, hc]; rfl
      have hp : s.isPrefixOf l = true := by
        have := (Bool.and_eq_true _ _).mp hc
        exact this.2
      rw [e]
      rcases symT_mem l ss s with h | h
      · rw [h]; exact .inr ⟨List.mem_cons_self .., hp⟩
      · exact .inr ⟨List.mem_cons_of_mem _ h.1, h.2⟩
    · have e : symT l b s = b := by rw [symT, if_neg hc]
      rw [e]
      rcases symT_mem l ss b with h | h
      · exact .inl h
      · exact .inr ⟨List.mem_cons_of_mem _ h.1, h.2⟩

theorem symT_ge (l : Bytes) : ∀ (ss : List Bytes) (b : Bytes), b.length ≤ (ss.foldl (symT l) b).length ∧ ∀ s ∈ ss, s.isPrefixOf l = true → s.length ≤ (ss.foldl (symT l) b).length
  | [], b => ⟨Nat.le_refl _, fun s h => by cases h⟩
  | s :: ss, b => by
    rw [List.foldl_cons]
    have ih := symT_ge l ss (symT l b s)
    have hb : b.length ≤ (symT l b s).length := by
      unfold symT; split
      · rename_i h; have := ((Bool.and_eq_true _ _).mp h).1; have := of_decide_eq_true this; omega
      · exact Nat.le_refl _
    refine ⟨Nat.le_trans hb ih.1, fun t ht hp => ?_⟩
    cases ht with
    | head =>
      refine Nat.le_trans ?_ ih.1
      unfold symT; split
      · exact Nat.le_refl _
      · rename_i h
        rw [hp, Bool.and_true] at h
        exact Nat.le_of_not_lt fun hlt => h (decide_eq_true hlt)
    | tail _ ht => exact ih.2 t ht hp

theorem prefix_take {s l : Bytes} (h : s.isPrefixOf l = true) : s = l.take s.length := by
  have h := List.isPrefixOf_iff_prefix.1 h
  exact List.prefix_iff_eq_take.1 h
end Go.Proofs.L
namespace Go.Proofs.L
open Go Go.Den Go.Sx
set_option maxRecDepth 100000
attribute [local irreducible] marks
theorem take_pre (l : Bytes) (n : Nat) : (l.take n).isPrefixOf l = true := List.isPrefixOf_iff_prefix.2 (List.take_prefix n l)

theorem symB_eq (l : Bytes) : symB l marks = if marks.contains (l.take 2) then l.take 2 else if marks.contains (l.take 1) then l.take 1 else [] := by
  have hm := symT_mem l marks []
  have hg := (symT_ge l marks []).2
  change symB l marks = [] ∨ symB l marks ∈ marks ∧ (symB l marks).isPrefixOf l = true at hm
  change ∀ s ∈ marks, s.isPrefixOf l = true → s.length ≤ (symB l marks).length at hg
  generalize symB l marks = x at hm hg
  have h12 : x ∈ marks → x.isPrefixOf l = true → (x = l.take 1 ∧ x.length = 1) ∨ (x = l.take 2 ∧ x.length = 2) := fun h1 h2 => by
    have h3 := prefix_take h2
    rcases marks_len x h1 with h | h
    · exact .inl ⟨by rw [h] at h3; exact h3, h⟩
    · exact .inr ⟨by rw [h] at h3; exact h3, h⟩
  split
  · rename_i h2
    have h2 := List.contains_iff_mem.1 h2
    have h3 := hg _ h2 (take_pre l 2)
    have h5 := marks_len _ h2
    rcases hm with h | h
    · rw [h] at h3; simp only [List.length_nil] at h3; omega
    · rcases h12 h.1 h.2 with ⟨h4, h6⟩ | ⟨h4, _⟩
      · rw [h6] at h3
        have h7 : (l.take 2).length = 1 := by omega
        have h8 : l.length = 1 := by rw [List.length_take] at h7; omega
        rw [h4, List.take_of_length_le (by omega), List.take_of_length_le (by omega)]
      · exact h4
  · rename_i h2
    split
    · rename_i h1
      have h1 := List.contains_iff_mem.1 h1
      have h3 := hg _ h1 (take_pre l 1)
      have h5 := marks_len _ h1
      rcases hm with h | h
      · rw [h] at h3; simp only [List.length_nil] at h3; omega
      · rcases h12 h.1 h.2 with h4 | h4
        · exact h4.1
        · exact absurd (List.contains_iff_mem.2 (h4.1 ▸ h.1)) h2
    · rename_i h1
      rcases hm with h | h
      · exact h
      · rcases h12 h.1 h.2 with h4 | h4
        · exact absurd (List.contains_iff_mem.2 (h4.1 ▸ h.1)) h1
        · exact absurd (List.contains_iff_mem.2 (h4.1 ▸ h.1)) h2
end Go.Proofs.L
namespace Go.Sx

theorem placeL_append (p : Nat × Nat) : ∀ (l m : Bytes), placeL (l ++ m) (l.length) p = placeL l l.length p
  | [], m => by cases m <;> rfl
  | c :: l, m => by simp only [List.cons_append, List.length_cons, placeL]; exact placeL_append _ l m

def placeStep (p : Nat × Nat) (c : UInt8) : Nat × Nat := if c == 10 then (p.1 + 1, 1) else (p.1, p.2 + 1)

theorem placeL_eq : ∀ (n : Nat) (l : Bytes) (p : Nat × Nat), placeL l n p = (l.take n).foldl placeStep p
  | 0, l, p => by cases l <;> rfl
  | n + 1, [], p => rfl
  | n + 1, c :: l, p => by simp only [placeL, List.take_succ_cons, List.foldl_cons]; exact placeL_eq n l _

theorem place_eq (s : Bytes) (n : Nat) : place s n = (s.take n).foldl placeStep (1, 1) := placeL_eq n s _

theorem place_succ {s : Bytes} {n : Nat} {c : UInt8} (h : s[n]? = some c) : place s (n + 1) = placeStep (place s n) c := by
  have hlt : n < s.length := (List.getElem?_eq_some_iff.1 h).1
  have he : s[n] = c := (List.getElem?_eq_some_iff.1 h).2
  rw [place_eq, place_eq, List.take_succ_eq_append_getElem hlt, List.foldl_append, he]; rfl

/-- Bytes without a line feed stay in the line. -/
theorem place_add {s : Bytes} {n : Nat} : ∀ (k : Nat), (∀ c ∈ (s.drop n).take k, c ≠ 10) → n + k ≤ s.length → place s (n + k) = ((place s n).1, (place s n).2 + k)
  | 0, _, _ => rfl
  | k + 1, h, hl => by
    have hlt : n + k < s.length := by omega
    have hg : s[n + k]? = some s[n + k] := List.getElem?_eq_getElem hlt
    have hm : s[n + k] ∈ (s.drop n).take (k + 1) := by
      rw [List.mem_iff_getElem?]
      refine ⟨k, ?_⟩
      rw [List.getElem?_take, if_pos (by omega), List.getElem?_drop]; exact hg
    have h10 : (s[n + k] == 10) = false := by simpa using h _ hm
    have ih := place_add k (fun c hc => h c (by
      rw [List.mem_iff_getElem?] at hc ⊢
      obtain ⟨i, hi⟩ := hc
      refine ⟨i, ?_⟩
      have hik : i < k := by
        have := (List.getElem?_eq_some_iff.1 hi).1
        rw [List.length_take] at this; omega
      rw [List.getElem?_take, if_pos hik] at hi
      rw [List.getElem?_take, if_pos (by omega)]; exact hi)) (by omega)
    rw [show n + (k + 1) = (n + k) + 1 by omega, place_succ hg, placeStep, h10, ih]; rfl

theorem place_bound (s : Bytes) (n : Nat) : (place s n).1 ≤ n + 1 ∧ 1 ≤ (place s n).2 ∧ (place s n).2 ≤ n + 1 := by
  have : ∀ (l : Bytes) (p : Nat × Nat), 1 ≤ p.2 → (l.foldl placeStep p).1 ≤ p.1 + l.length ∧ 1 ≤ (l.foldl placeStep p).2 ∧ (l.foldl placeStep p).2 ≤ p.2 + l.length := by
    intro l
    induction l with
    | nil => intro p hp; exact ⟨Nat.le_refl _, hp, Nat.le_refl _⟩
    | cons c l ih =>
      intro p hp
      have hs : (placeStep p c).1 ≤ p.1 + 1 ∧ 1 ≤ (placeStep p c).2 ∧ (placeStep p c).2 ≤ p.2 + 1 := by
        unfold placeStep; split
        · exact ⟨Nat.le_refl _, Nat.le_refl _, by show 1 ≤ p.2 + 1; omega⟩
        · exact ⟨Nat.le_add_right _ _, by show 1 ≤ p.2 + 1; omega, Nat.le_refl _⟩
      have := ih (placeStep p c) hs.2.1
      rw [List.foldl_cons, List.length_cons]
      omega
  have h := this (s.take n) (1, 1) (Nat.le_refl _)
  rw [← place_eq] at h
  have hl : (s.take n).length ≤ n := by rw [List.length_take]; omega
  simp only at h
  omega

/-! ### Blanks -/
theorem skipN_nl (l : Bytes) : skipN false (10 :: l) = skipN false l + 1 := rfl
theorem skipN_sp {c : UInt8} (l : Bytes) (h : c = 32 ∨ c = 9) : skipN false (c :: l) = skipN false l + 1 := by
  rcases h with rfl | rfl <;> rfl
theorem skipN_true : ∀ (l : Bytes), skipN true l = lead (fun c => !(c == 10)) l + skipN false (l.drop (lead (fun c => !(c == 10)) l))
  | [] => rfl
  | c :: l => by
    by_cases h : c = 10
    · subst h; show skipN false l + 1 = 0 + (skipN false l + 1); omega
    · have h1 : (c == 10) = false := by simpa using h
      have e1 : skipN true (c :: l) = skipN true l + 1 := by rw [skipN, h1]; rfl
      have e2 : lead (fun c => !(c == 10)) (c :: l) = lead (fun c => !(c == 10)) l + 1 := by rw [lead, h1]; rfl
      rw [e1, e2, skipN_true l, List.drop_succ_cons]; omega
theorem skipN_com (l : Bytes) : skipN false (47 :: 47 :: l) = lead (fun c => !(c == 10)) (47 :: 47 :: l) + skipN false ((47 :: 47 :: l).drop (lead (fun c => !(c == 10)) (47 :: 47 :: l))) := by
  have h1 : skipN false (47 :: 47 :: l) = skipN true (47 :: l) + 1 := rfl
  have h2 : skipN true (47 :: l) = skipN true l + 1 := rfl
  have h3 : lead (fun c => !(c == 10)) (47 :: 47 :: l) = lead (fun c => !(c == 10)) l + 1 + 1 := rfl
  rw [h1, h2, h3, skipN_true l]; simp; omega
theorem skipN_no {c : UInt8} {l : Bytes} (h1 : c ≠ 10) (h2 : c ≠ 32) (h3 : c ≠ 9) (h4 : ([47, 47] : Bytes).isPrefixOf (c :: l) = false) : skipN false (c :: l) = 0 := by
  unfold skipN
  simp only [show (c == 10) = false by simpa using h1, show (c == 32) = false by simpa using h2, show (c == 9) = false by simpa using h3, Bool.or_false]
  cases l with
  | nil => rfl
  | cons d l =>
    simp only [List.isPrefixOf, Bool.and_true] at h4
    have : (c == 47 && d == 47) = false := by
      rw [← h4]
      simp [Bool.beq_comm]
    simp [this]
theorem skipN_le : ∀ (b : Bool) (l : Bytes), skipN b l ≤ l.length
  | b, [] => by cases b <;> simp [skipN]
  | true, c :: l => by
    have := skipN_le true l; have := skipN_le false l
    simp only [skipN, List.length_cons]; split <;> omega
  | false, c :: l => by
    have := skipN_le true l; have := skipN_le false l
    simp only [skipN, List.length_cons]
    split
    · omega
    · split
      · omega
      · split <;> simp only [List.length_cons] at * <;> omega
theorem lead_mem (p : UInt8 → Bool) : ∀ (l : Bytes), ∀ c ∈ l.take (lead p l), p c = true
  | [], c, h => by simp at h
  | d :: l, c, h => by
    unfold lead at h
    split at h
    · rename_i hd
      rw [List.take_succ_cons] at h
      cases h with
      | head => exact hd
      | tail _ h => exact lead_mem p l c h
    · simp at h
end Go.Sx
/- No token passes a line feed; what the scanner's plain form answers. -/
namespace Go.Sx
set_option maxRecDepth 100000

/-- The first k bytes are there, and none is a line feed. -/
def NoNL (l : Bytes) (k : Nat) : Prop := k ≤ l.length ∧ ∀ c ∈ l.take k, c ≠ 10

theorem NoNL.zero (l : Bytes) : NoNL l 0 := ⟨Nat.zero_le _, fun c h => by simp at h⟩
theorem NoNL.cons {c : UInt8} {l : Bytes} {k : Nat} (h1 : c ≠ 10) (h : NoNL l k) : NoNL (c :: l) (k + 1) :=
  ⟨by simpa using h.1, fun d hd => by
    rw [List.take_succ_cons] at hd
    cases hd with
    | head => exact h1
    | tail _ hd => exact h.2 d hd⟩
theorem NoNL.add {l : Bytes} {n k : Nat} (h : NoNL l n) (h2 : NoNL (l.drop n) k) : NoNL l (n + k) := by
  obtain ⟨a, b⟩ := h
  obtain ⟨c, d⟩ := h2
  refine ⟨by rw [List.length_drop] at c; omega, fun x hx => ?_⟩
  rw [List.take_add] at hx
  rw [List.mem_append] at hx
  rcases hx with hx | hx
  · exact b x hx
  · exact d x hx
theorem NoNL.add1 {l : Bytes} {n : Nat} {c : UInt8} (h : NoNL l n) (h2 : (l.drop n).head? = some c) (hc : c ≠ 10) : NoNL l (n + 1) := by
  refine h.add ?_
  cases hl : l.drop n with
  | nil => rw [hl] at h2; simp at h2
  | cons d m =>
    rw [hl] at h2
    simp at h2; subst h2
    exact (NoNL.zero m).cons hc
theorem NoNL.lead {l : Bytes} (p : UInt8 → Bool) (hp : p 10 = false) : NoNL l (lead p l) :=
  ⟨Go.Proofs.L.lead_le p l, fun c hc e => by have := lead_mem p l c hc; rw [e, hp] at this; cases this⟩

theorem hex10 : isHex 10 = false := rfl
theorem ne10 {p : UInt8 → Bool} (hp : p 10 = false) {c : UInt8} (h : (!p c) = false) : c ≠ 10 := fun e => by subst e; rw [hp] at h; cases h

theorem escS_ne {c b : UInt8} (h : escS c = some b) : c ≠ 10 := fun e => by subst e; cases h
theorem rng_ne {c : UInt8} (h : ¬ (decide (c.toNat < 32) || decide (126 < c.toNat)) = true) : c ≠ 10 := fun e => by subst e; exact h rfl

theorem charS_nl (l : Bytes) : (∀ e k, charS l = .error (e, k) → NoNL l k) ∧ ∀ b n, charS l = .ok (b, n) → NoNL l n := by
  have h92 : (92 : UInt8) ≠ 10 := by decide
  have h120 : (120 : UInt8) ≠ 10 := by decide
  unfold charS
  split
  · exact ⟨fun e k h => by cases h; exact NoNL.zero _, fun b n h => by cases h⟩
  · split
    · exact ⟨fun e k h => by cases h; exact NoNL.zero _, fun b n h => by cases h⟩
    · split
      · exact ⟨fun e k h => by cases h; exact NoNL.zero _, fun b n h => by cases h⟩
      · split
        · exact ⟨fun e k h => by cases h; exact ((NoNL.zero _).cons h120).cons h92, fun b n h => by cases h⟩
        · rename_i ha
          have ha := ne10 hex10 (by simpa using ha)
          split
          · exact ⟨fun e k h => by cases h; exact NoNL.zero _, fun b n h => by cases h⟩
          · split
            · exact ⟨fun e k h => by cases h; exact (((NoNL.zero _).cons ha).cons h120).cons h92, fun b n h => by cases h⟩
            · rename_i hb
              have hb := ne10 hex10 (by simpa using hb)
              exact ⟨(fun e k h => by cases h), fun b n h => by cases h; exact ((((NoNL.zero _).cons hb).cons ha).cons h120).cons h92⟩
    · split
      · rename_i hc
        have := escS_ne hc
        exact ⟨(fun e k h => by cases h), fun b n h => by cases h; exact ((NoNL.zero _).cons this).cons h92⟩
      · exact ⟨fun e k h => by cases h; exact (NoNL.zero _).cons h92, fun b n h => by cases h⟩
  · split
    · exact ⟨fun e k h => by cases h; exact NoNL.zero _, fun b n h => by cases h⟩
    · rename_i hc
      have := rng_ne hc
      exact ⟨(fun e k h => by cases h), fun b n h => by cases h; exact (NoNL.zero _).cons this⟩

theorem strS_nl : ∀ (f : Nat) (l : Bytes), (∀ e k, strS f l = .error (e, k) → NoNL l k ∧ e ≠ 0) ∧ ∀ m n, strS f l = .ok (m, n) → NoNL l n ∧ (l.drop n).head? = some 34
  | 0, l => ⟨fun e k h => by cases h; exact ⟨NoNL.zero _, by decide⟩, fun b n h => by cases h⟩
  | f + 1, [] => ⟨fun e k h => by cases h; exact ⟨NoNL.zero _, by decide⟩, fun b n h => by cases h⟩
  | f + 1, c :: l => by
    have hch := charS_nl (c :: l)
    have hce := Go.Proofs.L.charS_err (c :: l)
    unfold strS
    split
    · rename_i h34
      have h34 : c = 34 := by simpa using h34
      subst h34
      exact ⟨(fun e k h => by cases h), fun m n h => by cases h; exact ⟨NoNL.zero _, rfl⟩⟩
    · split
      · exact ⟨fun e k h => by cases h; exact ⟨NoNL.zero _, by decide⟩, fun b n h => by cases h⟩
      · rename_i e k _ he
        exact ⟨fun e' k' h => by cases h; exact ⟨hch.1 _ _ he, hce.1 _ _ he⟩, fun b n h => by cases h⟩
      · rename_i b n hb
        have ih := strS_nl f ((c :: l).drop n)
        have hn := hch.2 _ _ hb
        split
        · exact ⟨fun e k h => by cases h; exact ⟨NoNL.zero _, by decide⟩, fun b n h => by cases h⟩
        · rename_i e k _ he
          exact ⟨fun e' k' h => by cases h; have := ih.1 _ _ he; exact ⟨by rw [Nat.add_comm]; exact hn.add this.1, this.2⟩, fun b n h => by cases h⟩
        · rename_i m k he
          refine ⟨(fun e k h => by cases h), fun m' n' h => ?_⟩
          cases h
          have := ih.2 _ _ he
          refine ⟨by rw [Nat.add_comm]; exact hn.add this.1, ?_⟩
          rw [List.drop_drop, Nat.add_comm n k] at this
          exact this.2

theorem marks_nl : ∀ m ∈ marks, (∀ c ∈ m, c ≠ 10) ∧ words.contains m = false ∧ m ≠ [] := by decide

theorem NoNL.mark {l : Bytes} {n : Nat} (h : marks.contains (l.take n) = true) : NoNL l (l.take n).length ∧ (l.take n).length ≤ n ∧ words.contains (l.take n) = false ∧ 1 ≤ (l.take n).length := by
  have hm := marks_nl (l.take n) (by simpa using h)
  refine ⟨⟨by rw [List.length_take]; omega, fun c hc => hm.1 c ?_⟩, by rw [List.length_take]; omega, hm.2.1, ?_⟩
  · have : (l.take n).length ≤ n := by rw [List.length_take]; omega
    exact (List.take_subset_take_left (l := l) this) hc
  · cases h2 : l.take n with
    | nil => exact absurd h2 hm.2.2
    | cons _ _ => simp

/-- What a token's reading answers. -/
structure OneOk (l : Bytes) (kind len : Nat) : Prop where
  kind0 : kind ≠ 0
  pos : 1 ≤ len
  nl : NoNL l len
  wf : kind = 5 → words.contains (l.take len) = false

theorem take_take_len (l : Bytes) (n : Nat) : l.take (l.take n).length = l.take n := by
  rw [List.length_take, List.take_eq_take_iff]; omega

theorem oneS_nl (l : Bytes) : (∀ e k, oneS l = .error (e, k) → NoNL l k ∧ e ≠ 0) ∧ ∀ kind n v b, oneS l = .ok (kind, n, v, b) → OneOk l kind n := by
  cases l with
  | nil => exact ⟨fun e k h => by cases h; exact ⟨NoNL.zero _, by decide⟩, fun kind n v b h => by cases h⟩
  | cons c r =>
    have al10 : isAl 10 = false := rfl
    simp only [oneS]
    split
    · rename_i hc
      have hlead : 1 ≤ lead isAl (c :: r) := by
        have : isAl c = true := by simp [isAl, hc]
        simp [lead, this]
      split
      · exact ⟨fun e k h => by cases h; exact ⟨NoNL.zero _, by decide⟩, fun kind n v b h => by cases h⟩
      · split
        · exact ⟨(fun e k h => by cases h), fun kind n v b h => by cases h; exact ⟨by decide, hlead, NoNL.lead isAl al10, fun h => absurd h (by decide)⟩⟩
        · exact ⟨(fun e k h => by cases h), fun kind n v b h => by cases h; exact ⟨by decide, hlead, NoNL.lead isAl al10, fun h => absurd h (by decide)⟩⟩
    split
    · rename_i _ hc
      have hlead : 1 ≤ lead isAl (c :: r) := by
        have : isAl c = true := by simp [isAl, hc]
        simp [lead, this]
      split
      · rename_i e he
        exact ⟨fun e' k h => by cases h; exact ⟨NoNL.zero _, Go.Proofs.L.numS_err _ _ he⟩, fun kind n v b h => by cases h⟩
      · exact ⟨(fun e k h => by cases h), fun kind n v b h => by cases h; exact ⟨by decide, hlead, NoNL.lead isAl al10, fun h => absurd h (by decide)⟩⟩
    split
    · rename_i _ _ hc
      have hc : c = 39 := by simpa using hc
      subst hc
      have h39 : (39 : UInt8) ≠ 10 := by decide
      have hch := charS_nl r
      have hce := Go.Proofs.L.charS_err r
      split
      · exact ⟨fun e k h => by cases h; exact ⟨(NoNL.zero _).cons h39, by decide⟩, fun kind n v b h => by cases h⟩
      · split
        · exact ⟨fun e k h => by cases h; exact ⟨NoNL.zero _, by decide⟩, fun kind n v b h => by cases h⟩
        · rename_i e k _ he
          exact ⟨fun e' k' h => by cases h; exact ⟨(hch.1 _ _ he).cons h39, hce.1 _ _ he⟩, fun kind n v b h => by cases h⟩
        · rename_i b n hb
          have hn := hch.2 _ _ hb
          split
          · exact ⟨fun e k h => by cases h; exact ⟨NoNL.zero _, by decide⟩, fun kind n v b h => by cases h⟩
          · rename_i d m hd
            split
            · rename_i hd39
              have hd39 : d = 39 := by simpa using hd39
              subst hd39
              exact ⟨(fun e k h => by cases h), fun kind n v b h => by cases h; exact ⟨by decide, by omega, (hn.add1 (c := 39) (by rw [hd]; rfl) h39).cons h39, fun h => absurd h (by decide)⟩⟩
            · exact ⟨fun e k h => by cases h; exact ⟨hn.cons h39, by decide⟩, fun kind n v b h => by cases h⟩
    split
    · rename_i _ _ _ hc
      have hc : c = 34 := by simpa using hc
      subst hc
      have h34 : (34 : UInt8) ≠ 10 := by decide
      have hs := strS_nl (r.length + 1) r
      split
      · exact ⟨fun e k h => by cases h; exact ⟨NoNL.zero _, by decide⟩, fun kind n v b h => by cases h⟩
      · rename_i e k _ he
        have := hs.1 _ _ he
        exact ⟨fun e' k' h => by cases h; exact ⟨this.1.cons h34, this.2⟩, fun kind n v b h => by cases h⟩
      · rename_i m k he
        have := hs.2 _ _ he
        split
        · exact ⟨fun e k h => by cases h; exact ⟨NoNL.zero _, by decide⟩, fun kind n v b h => by cases h⟩
        · exact ⟨(fun e k h => by cases h), fun kind n v b h => by cases h; exact ⟨by decide, by omega, (this.1.add1 this.2 h34).cons h34, fun h => absurd h (by decide)⟩⟩
    split
    · rename_i hm
      have := NoNL.mark hm
      refine ⟨(fun e k h => by cases h), fun kind n v b h => ?_⟩
      injection h with h; injection h with h1 h; injection h with h2 h
      subst h1; subst h2
      exact ⟨by decide, this.2.2.2, this.1, fun _ => by rw [take_take_len]; exact this.2.2.1⟩
    split
    · rename_i hm
      have := NoNL.mark hm
      have hl : ((c :: r).take 1).length = 1 := by simp
      refine ⟨(fun e k h => by cases h), fun kind n v b h => ?_⟩
      injection h with h; injection h with h1 h; injection h with h2 h
      subst h1; subst h2
      rw [hl] at this
      exact ⟨by decide, by omega, this.1, fun _ => this.2.2.1⟩
    · exact ⟨fun e k h => by cases h; exact ⟨NoNL.zero _, by decide⟩, fun kind n v b h => by cases h⟩

/-- The last token, and it alone, is the end. -/
def Ended : List Tok → Prop
  | [] => False
  | t :: ts => (t.kind = 0 ∧ ts = []) ∨ (t.kind ≠ 0 ∧ Ended ts)

theorem scanL_ok : ∀ (f k : Nat) (l : Bytes) (o : Nat), l.length < f → k ≤ 4096 → (∀ e, scanL f k l o = .error e → e.1 ≠ 0) ∧ ∀ ts, scanL f k l o = .ok ts → Ended ts ∧ ts.length + k ≤ 4097 ∧ ∀ t ∈ ts, t.kind = 5 → words.contains t.text = false
  | 0, _, _, _, h, _ => by omega
  | f + 1, k, l, o, h, hk => by
    simp only [scanL]
    split
    · refine ⟨(fun e h => by cases h), fun ts h => ?_⟩
      cases h
      exact ⟨.inl ⟨rfl, rfl⟩, by simp only [List.length_cons, List.length_nil]; omega, fun t ht h5 => by simp at ht; subst ht; cases h5⟩
    · rename_i c m hr
      split
      · exact ⟨fun e h => by cases h; exact (by decide : (9 : Nat) ≠ 0), fun ts h => by cases h⟩
      · have h1 := oneS_nl (l.drop (skipN false l))
        split
        · rename_i e i he
          exact ⟨fun e' h => by cases h; exact (h1.1 _ _ he).2, fun ts h => by cases h⟩
        · rename_i kind len v b he
          have h2 := h1.2 _ _ _ _ he
          have hlen : ((l.drop (skipN false l)).drop len).length < f := by
            have := h2.nl.1
            have := h2.pos
            simp only [List.length_drop] at *; omega
          have ih := scanL_ok f (k + 1) ((l.drop (skipN false l)).drop len) (o + skipN false l + len) hlen (by omega)
          split
          · rename_i e2 he2
            exact ⟨fun e' h => by cases h; exact ih.1 _ he2, fun ts h => by cases h⟩
          · rename_i ts2 he2
            refine ⟨(fun e h => by cases h), fun ts h => ?_⟩
            cases h
            have := ih.2 _ he2
            refine ⟨.inr ⟨h2.kind0, this.1⟩, by simp only [List.length_cons]; omega, fun t ht h5 => ?_⟩
            cases ht with
            | head => exact h2.wf h5
            | tail _ ht => exact this.2.2 t ht h5
/-! ### Behind blanks no blank follows -/
theorem skipN_idem : ∀ (b : Bool) (l : Bytes), skipN false (l.drop (skipN b l)) = 0
  | b, [] => by cases b <;> rfl
  | true, c :: l => by
    by_cases h : c = 10
    · subst h
      exact skipN_idem false l
    · have h1 : (c == 10) = false := by simpa using h
      have e1 : skipN true (c :: l) = skipN true l + 1 := by rw [skipN, h1]; rfl
      rw [e1, List.drop_succ_cons]; exact skipN_idem true l
  | false, c :: l => by
    cases hb : (c == 10 || c == 32 || c == 9) with
    | true =>
      have e1 : skipN false (c :: l) = skipN false l + 1 := by
        conv => lhs; unfold skipN
        simp only [hb, if_true]
      rw [e1, List.drop_succ_cons]; exact skipN_idem false l
    | false =>
      match l with
      | [] =>
        have e1 : skipN false [c] = 0 := by rw [skipN, hb]; rfl
        rw [e1]; exact e1
      | d :: m =>
        cases h2 : (c == 47 && d == 47) with
        | true =>
          have e1 : skipN false (c :: d :: m) = skipN true (d :: m) + 1 := by
            conv => lhs; unfold skipN
            simp only [hb, h2, if_true, Bool.false_eq_true, if_false]
          rw [e1, List.drop_succ_cons]; exact skipN_idem true (d :: m)
        | false =>
          have e1 : skipN false (c :: d :: m) = 0 := by
            conv => lhs; unfold skipN
            simp only [hb, h2, Bool.false_eq_true, if_false]
          rw [e1]; exact e1

theorem scanL_skip (f k : Nat) (l : Bytes) (o : Nat) : scanL (f + 1) k l o = scanL (f + 1) k (l.drop (skipN false l)) (o + skipN false l) := by
  simp only [scanL, skipN_idem, List.drop_zero, Nat.add_zero]
/-- The scanner behind blanks. -/
def scanR (f k : Nat) (l : Bytes) (o : Nat) : Except (Nat × Nat) (List Tok) :=
  match l with
  | [] => .ok [⟨0, [], 0, [], o⟩]
  | _ :: _ => if k = 4096 then .error (9, o) else match oneS l with
    | .error (e, i) => .error (e, o + i)
    | .ok (kind, len, v, b) => match scanL f (k + 1) (l.drop len) (o + len) with
      | .error e => .error e
      | .ok ts => .ok (⟨kind, l.take len, v, b, o⟩ :: ts)
theorem scanL_at (f k : Nat) {l : Bytes} (o : Nat) (h : skipN false l = 0) : scanL (f + 1) k l o = scanR f k l o := by
  simp only [scanL, h, List.drop_zero, Nat.add_zero]
  unfold scanR
  cases l <;> rfl
end Go.Sx
